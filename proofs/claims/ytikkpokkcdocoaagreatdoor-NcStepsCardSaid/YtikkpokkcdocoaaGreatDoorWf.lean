/- own texts, made small by a tool (wip/ holds them as they were written): no statement of the seat. -/
import Derived.Test.YtikkpokkcdocoaaGreatDoorWe
set_option linter.defProp false
set_option linter.unusedVariables false
set_option linter.unusedSimpArgs false
set_option linter.unnecessarySimpa false
open Array renaming getElem?_eq_some_iff→j5
open Bool renaming not_true→X3,not_false→W3,eq_iff_iff→V7,and_eq_true→U3,or_eq_false_iff→U7,true_and→T6
open Decidable renaming not_not→X4
open Go renaming Value→x3,World→x4,TypeId→r9,IntKind→n9
open Go.Builtin renaming len_→W9
open Go.Instr renaming loadAt→u5,fieldAt→u6,storeAt→o9,indexAt→j9,extract→Y1
open Go.IntKind renaming i64→X9,u64→T3
open Go.Proofs.Tryz renaming prog→x8
open Int renaming toNat_natCast→r8,eq_ofNat_of_zero_le→U9
open List renaming getElem?_eq_some_iff→x5,mem_of_getElem?→x6,getElem?_eq_getElem→x7,getElem?_map→v8,getD_eq_getElem?_getD→u4,length_map→u7,take_add_one→u9,replicate→o5,length_take→o7,take_length→o8,mem_map→l9,mem_append→j0,take_of_length_le→j4,mem_singleton→j6,eq_nil_of_length_eq_zero→c9,getElem?_set_self→b8,length_cons→Z2,map_append→Z4,getElem?_set_ne→Y4,append_assoc→Y6,ext_getElem?→Y9,mem_iff_getElem?→X5,drop_eq_getElem_cons→W0,range→W5,flatMap_cons→W6,length_eq_one_iff→V2,append_nil→V3,mem_cons→V4,mem_of_mem_take→U6,map_set→U8,map_cons→T0,foldl_cons→S0,length_filter_le→Q0,length→Q4
open Nat renaming le_refl→o6,le_trans→Y7,mul_le_mul_right→X0,zero_add→X6,zero_le→X8,mul_one→U4,add_mul→U5,lt_of_lt_of_le→T8,pow_le_pow_right→T9,eq_zero_or_pos→Q5
open Ne renaming symm→R2
open Option renaming toList_some→l7,some→b9,isNone_some→Z6,map_some→Z7,map_eq_some_iff→X2,getD_some→V5,isSome_some→R4,isSome_none→R5
open Prod.mk renaming injEq→S3
set_option maxHeartbeats 16000000
open Option renaming some→σ,none→ν
variable{J U w:x4}{l pl sizes:Λ}{k v:Int}
namespace Go.Proofs.YtikkpokkcdocoaaGreatDoor
open Go Go.Vc Go.RowKit Go.Proofs Go.Proofs.Tryz
set_option maxRecDepth 100000
section
variable{ap:List ay}{w:x4}{ab ad:Nat}{A R:af}{n:aK}{s:ao}{t:ay}{a:gf}
def cU.step{aI:af}{s':ao}{bn:ay}(h:bF w ab ad A R n s t)(j:Laid w)(f:¬A 0)(a:Ext w J)(p:ae (eA J) J U)(e:Grow A J aI U)(q:bF U ab ad aI R n s' bn)(r:eB ap bn):cU ap w ab ad A R n s' U:=by
 refine⟨iD a p,hA e.1 f (j.ext a),aI,bn,(Grow.ext a).trans e,q,r,λx=>(e.2.1 0 x).elim f λy=>?_⟩;obtain⟨z,B,C,E,⟨h1,_⟩,_⟩:=h.1;have:=h.lt (.inl h1);have:=a.size;omega
def xB(hk:a.kind=2):bj n.k s a=match gU s a.i with
  |none=>(s,1)
  |some x=>if dg n.k a.c (gS x)≠0 then(s,dg n.k a.c (gS x))else(hq s a.i.toNat x (λg=>df n.k g a.c) λg=>cT n.k g a.c,0):=by
 unfold bj gU;rw[if_neg Ω,if_neg Ω,if_pos hk];cases (if 0<=a.i then s.vars[a.i.toNat]? else ν)with
 |none=>rfl
 |some x=>
  simp only;by_cases e:x.gone=0
  .rw[if_neg Ω,if_pos e]
  .rw[if_pos e,if_neg e]
def xC(hk:a.kind=3):bj n.k s a=match gU s a.i with
  |none=>(s,1)
  |some x=>if dg n.k a.c (if aw x=[]then-1 else s.zero)≠0 then(s,dg n.k a.c (if aw x=[]then-1 else s.zero))else(hq s a.i.toNat x (λg=>cT n.k g a.c) λg=>df n.k g a.c,0):=by
 unfold bj gU;rw[if_neg Ω,if_neg Ω,if_neg Ω,if_pos hk];cases (if 0<=a.i then s.vars[a.i.toNat]? else ν)with
 |none=>rfl
 |some x=>
  simp only;by_cases e:x.gone=0
  .rw[if_neg Ω,if_pos e]
  .rw[if_pos e,if_neg e]
def EJ(hk:a.kind=2)(h:bF w ab ad A R n s t)(M:Laid w)(Z:¬A 0)(af:eB ap t):ai x8 Gp [Γ ab,Δ a.i,Δ a.c] w (oy ap w ab ad A R n s a):=by
 have E:=h.2.2.2.1;have f:=xB (n:=n) (s:=s) hk;refine ik func55 ?_;refine bk λg1 J bH aE G=>?_;refine bk λag U bI ak H=>?_;have G:ac U g1 ds [Γ ab]:=ac.ext G ak;have H:ac U ag ah [Δ a.i]:=H;have al:=aE.trans ak;have bJ:=aE.size;have bK:=ak.size;have bL:=G.lt;have bM:=H.lt;rw[aD (v:=Γ ab) Ψ (G.Qz rfl),aD (v:=Δ a.i) Ψ (H.Qz rfl)];refine(EH (i:=a.i) (h.ext al)).mono ?_;rintro _ bO _ ⟨an,rfl⟩;have aZ:=al.trans an;have z3:=an.size;cases B:gU s a.i with
 |none=>
  rw[B]at f;rw[if_neg Ξ,bN,aj];refine⟨λ_=>?_,λh=>absurd Φ h⟩;intro a1 a2 _;exact⟨by rw[f],by rw[f];exact cU.same h M Z af (aZ.trans a2)⟩
 |some x=>
 rw[B]at f;simp only at f;obtain⟨aF,e,bP⟩:=xA B;obtain⟨u,hu⟩:=U9 aF;rw[hu,r8]at e;rw[hu,r8]at f;rw[if_pos (by rfl),bN,aj];refine⟨λh=>absurd rfl h,λ_=>?_⟩;refine bw am.i λN bQ bR aG aH=>?_;refine bp am.i rfl rfl aH (by simp[x3.cells]) λO ao bS P=>?_;have P:ac O N am [Δ (-1)]:=P;have z5:=aG.size;have bT:=aH.lt;have aq:=an.trans aG;have au:ac O g1 ds [Γ ab]:=(G.ext aq).aa ao Ω;have av:ac O ag ah [Δ a.i]:=(H.ext aq).aa ao Ω;have Q:Ext w O:=(al.trans aq).then ao (by rintro r aJ rfl;omega);rw[aD (v:=Γ ab) Ψ (au.Qz rfl),aD (v:=Δ a.i) Ψ (av.Qz rfl)];refine(iE (i:=a.i) (h.ext Q)).mono ?_;rintro _ bU _ ⟨⟨b,a6,rfl,aK⟩,aL⟩;refine(l6 (b:=b) (n:=a6)).mono ?_;rintro _ a7 _ ⟨a8,aM,rfl,bV,aN⟩;have aO:=j3 aK aF (show s.vars[a.i.toNat]?=σ x by rw[hu,r8];exact e);have p:=aL.trans a8;have bW:=aL.size;have bX:=aN.lt;have bY:=P.lt;have aP:∀j (v:Nat),(aw x)[j]?=σ (v:Int)->(((aw x).take (j+1)).map λv=>x.un.getD v.toNat 0).foldl kc (-1)=kc ((((aw x).take j).map λv=>x.un.getD v.toNat 0).foldl kc (-1)) (x.un.getD v 0):=λj v aQ=>by
  rw[u9,aQ,l7,Z4,List.foldl_append];rfl
 refine kj.old ⟨_,false,jk,#[Γ aM],_,_,_,_,λj w'=>ae (λr=>r=N) a7 w'/\ac w' N am [Δ ((((aw x).take j).map λv=>x.un.getD v.toNat 0).foldl kc (-1))],λ_ _ _=>False,rfl,(l5 (g:=aM) aK.1).s,?_,
  λ_ _ e h=>⟨h.1.ext e,h.2.ext e⟩,λ_ _ _ e h=>⟨h.1.trans (e.aa _),h.2.ext e⟩,λ_ _ _ _ _ h=>h,⟨aN,M.ext (Q.trans p)⟩,⟨ae.refl _ _,P.ext p⟩,?_,?_,λ_ _ h=>h.elim,λ_ _ _ h=>h.elim⟩
 .rintro _ _ _ _ ⟨_,_,_,_,rfl⟩;rfl
 .rintro _ j _ ba ⟨aS,aT⟩ ⟨aQ,rfl,v,bb,bc⟩ ⟨y,S⟩;cases bc;intro bd aU _ _;have ay:(aw x)[j]?=σ (v:Int):=by rw[<-aO,v8,bb];rfl
  have be:=ox E e (x6 ay);have az:=y.trans (aU.aa _);have bg:Ext w bd:=(Q.trans p).then az (by rintro r aJ rfl;omega);rw[aD (v:=Γ ab) Ψ (((au.ext p).aa az Ω).Qz rfl),aD (v:=Δ a.i) Ψ (((av.ext p).aa az Ω).Qz rfl)];refine(m3 (i:=a.i) (v:=(v:Int)) (h.ext bg)).mono ?_;rintro _ bh _ ⟨rfl,bi⟩;have bl:fP s a.i.toNat (v:Int).toNat=x.un.getD v 0:=by
   unfold fP;rw[hu,r8,e];rfl
  rw[if_pos (by rw[hu];exact be),bl,bx,bz];have I:=aU.trans bi;have K:=S.ext I;refine aW (λr bm=>(r= .bool (decide ((((aw x).take j).map λv=>x.un.getD v.toNat 0).foldl kc (-1)<0\/x.un.getD v 0<(((aw x).take j).map λv=>x.un.getD v.toNat 0).foldl kc (-1))))/\bm=bh) ?_ λax L=>?_
  .rintro _ _ ⟨rfl,rfl⟩;rw[aj];refine⟨λV=>?_,λW=>?_⟩
   .refine bp am.i rfl rfl K Ξ λbo bq bZ br=>?_;have q:ae (λr=>r=N) ba bo:=(I.aa _).trans bq;refine⟨⟨aS.aa q Ω,hA q Ω aT⟩,⟨y.trans q,?_⟩,λh=>by cases h⟩;rw[aP j v ay];unfold kc at V ⊢;rw[if_pos V];exact br
   .refine⟨⟨aS.ext I,aT.ext I⟩,⟨y.trans (I.aa _),?_⟩,λh=>by cases h⟩;rw[aP j v ay];unfold kc at W K ⊢;rw[if_neg W];exact K
  rw[aD (v:=Δ _) Ψ (K.Qz rfl),aR,aj];refine⟨λV=>L _ _ ⟨by rw[decide_eq_true (Or.inl V)],rfl⟩,λW=>?_⟩;rw[aD (v:=Δ _) Ψ (K.Qz rfl),aR];refine L _ _ ⟨?_,rfl⟩;congr 1;exact decide_eq_decide.2 ⟨.inr,λh=>h.resolve_left W⟩
 .rintro k aA rfl ⟨y,S⟩;rw[j4 (by rw[<-aO,u7];exact o6 _),P9 λv _=>(hr E e).1]at S;have aV:Ext w aA:=(Q.trans p).then y (by rintro r aJ rfl;omega);have aX:ac aA g1 ds [Γ ab]:=(au.ext p).aa y Ω;have bt:ac aA ag ah [Δ a.i]:=(av.ext p).aa y Ω;rw[aD (v:=Γ ab) Ψ (aX.Qz rfl),aD (v:=Δ (gS x)) Ψ (S.Qz rfl)];refine(tO (h.ext aV)).mono ?_;rintro _ b0 _ ⟨aB,rfl⟩;have X:=aV.trans aB;refine dh (λw'=>cU ap w ab ad A R n (bj n.k s a).1 w') ?_ λax L=>?_
  .intro w' bu b1 Y _;obtain⟨bA,bB,aI,bn,bC,bD,bE⟩:=bu;refine⟨?_,bA.trans (Y.aa _),bB.ext Y,aI,bn,bC.trans (Grow.ext Y),bD.ext Y,bE⟩;rw[f];split
   .rfl
   .rename_i C;rw[X4.1 C]
  rw[bf,aj];refine⟨λC=>?_,λC=>L _ ?_⟩
  .obtain⟨q,hm⟩:=lz (λh=>h C);rw[aD (v:=Γ ab) Ψ ((aX.ext aB).Qz rfl),aD (v:=Δ a.i) Ψ ((bt.ext aB).Qz rfl),hu];refine(EI (t:=t) (u:=u) (F1:=nw) (F2:=nx) (g:=λg=>df n.k g a.c) (z:=λg=>cT n.k g a.c) (h.ext X) (M.ext X) Z af e (λv B=>?_) ⟨nf E.zero q.1,λ{w A s' t}aC=>rg aC E.zero q⟩).mono ?_
   .have aY:=hr (v:=v.toNat) E e;exact⟨ne aY ⟨q.1,xn B hm⟩,λ{w A s t}aC=>tP aC aY q (.inr (xn B hm))⟩
   .rintro _ a1 _ bG;refine L _ ?_;rw[f,if_neg (λh=>h C)];exact bG.before X
  .rw[f,if_pos C];exact cU.same h M Z af X
def Qc{b m:Nat}{i:Int}{x:be}(p:tw s n i b m)(hi:0<=i)(q:s.vars[i.toNat]?=σ x):b=0↔aw x=[]:=by
 have a:=j3 p hi q;constructor
 .rintro rfl;rw[<-a];have:fW 0 m=[]:=List.eq_nil_iff_forall_not_mem.2 λv e=>by
   have:=(vz.1 e).2;simp at this
  rw[this];rfl
 .intro he;rw[he]at a;have e:=List.map_eq_nil_iff.1 a;refine Nat.eq_of_testBit_eq λj=>?_;rw[Nat.zero_testBit];cases f:b.testBit j with
  |false=>rfl
  |true=>
   have r:j<m:=by
    rcases Nat.lt_or_ge j m with h|h
    .exact h
    .have:=Nat.testBit_lt_two_pow (x:=b) (i:=j) (T8 p.1.2 (T9 Ω h));rw[this]at f;cases f
   have:j∈fW b m:=vz.2 ⟨r,f⟩;rw[e]at this;cases this
def Qd(hk:a.kind=3)(h:bF w ab ad A R n s t)(G:Laid w)(H:¬A 0)(I:eB ap t):ai x8 GH [Γ ab,Δ a.i,Δ a.c] w (oy ap w ab ad A R n s a):=by
 have K:=h.2.2.2.1;have f:=xC (n:=n) (s:=s) hk;refine az func77 ?_;refine(EH (i:=a.i) h).mono ?_;rintro _ J _ ⟨L,rfl⟩;cases y:gU s a.i with
 |none=>
  rw[y]at f;rw[if_neg Ξ,bN,aj];exact⟨λ_=>⟨by rw[f],by rw[f];exact cU.same h G H I L⟩,λh=>absurd Φ h⟩
 |some x=>
 rw[y]at f;simp only at f;obtain⟨N,B,ah⟩:=xA y;rw[if_pos (by rfl),bN,aj];refine⟨λh=>absurd rfl h,λ_=>?_⟩;refine(pA (h.ext L)).mono ?_;rintro _ U _ ⟨rfl,Y⟩;have O:=L.trans Y;refine aW (λr w'=>r=Δ (if aw x=[]then-1 else s.zero)/\Ext w w') ?_ λax p=>?_
 .rintro _ ak ⟨rfl,P⟩;refine(tO (h.ext P)).mono ?_;rintro _ al _ ⟨Z,rfl⟩;have C:=P.trans Z;refine dh (λw'=>cU ap w ab ad A R n (bj n.k s a).1 w') ?_ λax p=>?_
  .intro w' aa;refine⟨?_,aa⟩;rw[f];generalize (if aw x=[]then(-1:Int)else s.zero)=am;split
   .rfl
   .rename_i j;rw[X4.1 j]
  rw[bf,aj];refine⟨λj=>?_,λj=>p _ ?_⟩
  .obtain⟨E,hm⟩:=lz (λh=>h j);have Q:a.c<=s.zero:=by
    split at hm
    .omega
    .exact hm
   obtain⟨u,hu⟩:=U9 N;rw[hu,r8]at B;rw[hu];refine(EI (t:=t) (u:=u) (F1:=nx) (F2:=nw) (g:=λg=>cT n.k g a.c) (z:=λg=>df n.k g a.c) (h.ext C) (G.ext C) H I B (λv y=>?_) ⟨ne K.zero ⟨E.1,Q⟩,λ{w A s' t}M=>tP M K.zero E (.inr Q)⟩).mono ?_
   .have S:=hr (v:=v.toNat) K B;exact⟨nf S E.1,λ{w A s t}M=>rg M S E⟩
   .rintro _ an _ ac;refine p _ ?_;rw[f,if_neg (λh=>h j),hu,r8];exact ac.before C
  .rw[f,if_pos j];exact cU.same h G H I C
 refine(iE (i:=a.i) (h.ext O)).mono ?_;rintro _ ao _ ⟨⟨b,ae,rfl,T⟩,af⟩;refine(hB (b:=b) (n:=ae) T.1).mono ?_;rintro _ aq _ ⟨⟨q,rfl,V⟩,ag⟩;have W:=(O.trans af).trans ag;have X:=Qc T N B;rw[bf,aj];refine⟨λh=>p _ _ ⟨by rw[if_pos (X.1 (V.1 h))],W⟩,λh=>p _ _ ⟨by rw[if_neg λe=>h (V.2 (X.2 e))],W⟩⟩
def EK(hk:a.kind=4)(h:bF w ab ad A R n s t)(j:Laid w)(p:¬A 0)(f:eB ap t):ai x8 GI [Γ ab,Δ a.i,Δ a.v] w (oy ap w ab ad A R n s a):=by
 have q:=h.2.2.2.1;have e:bj n.k s a=match dN s a.i a.v with
  |none=>(s,1)
  |some x=>if cT n.k s.zero (x.un.getD a.v.toNat 0)<n.k then(s,7)else(dM s a.i.toNat a.v.toNat,0):=by
  unfold bj;rw[if_neg Ω,if_neg Ω,if_neg Ω,if_neg Ω,if_pos hk]<;>cases dN s a.i a.v<;>rfl
 refine az func78 ?_;refine(xv h).mono ?_;rintro _ J _ ⟨z,rfl⟩;cases B:dN s a.i a.v with
 |none=>
  rw[B]at e;rw[if_neg Ξ,bN,aj];exact⟨λ_=>⟨by rw[e],by rw[e];exact cU.same h j p f z⟩,λh=>absurd Φ h⟩
 |some x=>
 rw[B]at e;simp only at e;obtain⟨Z,C,aa,L⟩:=j8 B;rw[if_pos (by rfl),bN,aj];refine⟨λh=>absurd rfl h,λ_=>?_⟩;have G:eR n a.i a.v:=by
  have:=ox q C L;rwa [show((a.i.toNat:Nat):Int)=a.i by omega]at this
 refine(m3 (i:=a.i) (v:=a.v) (h.ext z)).mono ?_;rintro _ U _ ⟨rfl,M⟩;have N:fP s a.i.toNat a.v.toNat=x.un.getD a.v.toNat 0:=by
  unfold fP;rw[C]
 rw[if_pos G,N,bx,bz];have H:=z.trans M;refine(pA (h.ext H)).mono ?_;rintro _ ac _ ⟨rfl,O⟩;have I:=H.trans O;refine(rg (h.ext I) q.zero (hr q C)).mono ?_;rintro _ ae _ ⟨rfl,P⟩;have K:=I.trans P;refine(mZ (h.ext K)).mono ?_;rintro _ af _ ⟨rfl,Q⟩;have E:=K.trans Q;rw[aR,aj];refine⟨λS=>?_,λT=>?_⟩
 .rw[if_pos S]at e;exact⟨by rw[e],by rw[e];exact cU.same h j p f E⟩
 .rw[if_neg T]at e;refine(w3 (i:=a.i) (v:=a.v) (h.ext E) f.room).mono ?_;rintro r ag _ ⟨_,V⟩;obtain⟨rfl,W,aI,y,X,Y⟩:=V G;refine⟨by rw[e],?_⟩;rw[e];exact cU.step h j p E W X Y f.set
def Qe(hk:5<=a.kind)(h:bF w ab ad A R n s t)(P:Laid w)(V:¬A 0)(W:eB ap t):ai x8 GJ [Γ ab,Δ a.i,Δ a.v] w (oy ap w ab ad A R n s a):=by
 have ax:=h.2.2.2.1;have q:bj n.k s a=match dN s a.i a.v with
  |none=>(s,1)
  |some x=>(gg s a.i.toNat a.v (aw x),0):=by
  unfold bj;rw[if_neg Ω,if_neg Ω,if_neg Ω,if_neg Ω,if_neg Ω]<;>cases dN s a.i a.v<;>rfl
 refine ik func79 ?_;refine bk λg1 J aZ X z=>?_;refine bk λay U a1 Q B=>?_;refine bk λaz C a2 K E=>?_;have z:ac C g1 ds [Γ ab]:=(ac.ext z Q).ext K;have B:ac C ay ah [Δ a.i]:=ac.ext B K;have E:ac C az ah [Δ a.v]:=E;have L:=(X.trans Q).trans K;have a6:=X.size;have a7:=Q.size;have z3:=K.size;have aA:=z.lt;have aB:=B.lt;have aC:=E.lt;rw[aD (v:=Γ ab) Ψ (z.Qz rfl),aD (v:=Δ a.i) Ψ (B.Qz rfl),aD (v:=Δ a.v) Ψ (E.Qz rfl)];refine(xv (h.ext L)).mono ?_;rintro _ a8 _ ⟨G,rfl⟩;have Y:=L.trans G;have z4:=G.size;cases S:dN s a.i a.v with
 |none=>
  rw[S]at q;rw[if_neg Ξ,bN,aj];refine⟨λ_=>?_,λh=>absurd Φ h⟩;intro ba aE _;exact⟨by rw[q],by rw[q];exact cU.same h P V W (Y.trans aE)⟩
 |some x=>
 rw[S]at q;simp only at q;obtain⟨aF,f,bb,bc⟩:=j8 S;rw[if_pos (by rfl),bN,aj];refine⟨λh=>absurd rfl h,λ_=>?_⟩;rw[aD (v:=Γ ab) Ψ ((z.ext G).Qz rfl),aD (v:=Δ a.i) Ψ ((B.ext G).Qz rfl)];refine(iE (i:=a.i) (h.ext Y)).mono ?_;rintro _ bd _ ⟨⟨b,aG,rfl,Z⟩,af⟩;refine(l6 (b:=b) (n:=aG)).mono ?_;rintro _ M _ ⟨aH,ag,rfl,be,ak⟩;have al:=j3 Z aF f;have N:=(G.trans af).trans aH;have bf:=af.size;have bg:=N.size;have bh:=ak.lt;refine kj.old ⟨_,false,jk,#[Γ ag],_,_,_,_,λj w'=>eT ap w ab ad A R n w.heap.size (λr=>M.heap.size<=r) (gg s a.i.toNat a.v ((aw x).take j)) w'/\ae (λr=>r<w.heap.size\/M.heap.size<=r) M w',λ_ _ _=>False,rfl,(l5 (g:=ag) Z.1).s,?_,
  λ_ _ f h=>⟨h.1.ext f,h.2.ext f⟩,λ_ _ _ f h=>⟨h.1.ext f,h.2.trans (f.aa _)⟩,λ_ _ _ _ _ h=>h,⟨ak,P.ext (L.trans N)⟩,⟨eT.start h P V W (L.trans N) (o6 _),ae.refl _ _⟩,?_,?_,λ_ _ h=>h.elim,λ_ _ _ h=>h.elim⟩
 .rintro _ _ _ _ ⟨_,_,_,_,rfl⟩;rfl
 .rintro _ j _ bi ⟨am,aJ⟩ ⟨bl,rfl,v,aK,aL⟩ ⟨H,I⟩;cases aL;intro aM p _ _;have an:(aw x)[j]?=σ (v:Int):=by rw[<-al,v8,aK];rfl
  have aN:eR n a.i (v:Int):=by
   have:=ox ax f (x6 an);rwa [show((a.i.toNat:Nat):Int)=a.i by omega]at this
  have aV:∀{g:Nat}{e:r9}{cs:List x3},w.heap.size<=g->g<C.heap.size->ac C g e cs->ac aM g e cs:=λaO aP aQ=>((aQ.ext N).aa I Ω).ext p;have O:=P8 (s:=s) (i:=a.i.toNat) (v:=a.v) an;obtain⟨bm,bn,aR,ao,aS⟩:=H.open;rw[aD (v:=Δ a.v) Ψ ((aV Ω aC E).Qz rfl),bN,aj];refine⟨λaT=>?_,λhe=>?_⟩
  .rw[if_pos aT]at O;rw[aD (v:=Γ ab) Ψ ((aV Ω aA z).Qz rfl),aD (v:=Δ a.i) Ψ ((aV Ω aB B).Qz rfl)];refine(w3 (i:=a.i) (v:=(v:Int)) (aR.ext p) ao.room).mono ?_;rintro r bo _ ⟨_,aU⟩;obtain⟨rfl,aW,aI,y,aX,aq⟩:=aU aN;rw[<-O]at aq;have bp:=I.size;obtain⟨au,av,bq⟩:=aS (D':=λr=>M.heap.size<=r) (iD p aW) ((Grow.ext p).trans aX) aq ao.set (λr h=>h) λr aO aP=>Ω
   exact⟨⟨am.aa av Ω,au.2.1.1⟩,⟨au,I.trans av⟩,λh=>by cases h⟩
  .rw[if_neg he]at O;exact⟨⟨am.ext p,aJ.ext p⟩,⟨by rw[O];exact H.ext p,I.trans (p.aa _)⟩,λh=>by cases h⟩
 .rintro k br rfl ⟨H,I⟩;rw[j4 (by rw[<-al,u7];exact o6 _)]at H;intro bt aY _;exact⟨by rw[q],by rw[q];exact H.done aY⟩
end
def Qf{cw:x3}(h:aG .i64 w cw l)(N:l.length<=1000000):ai x8 Hk [cw,Δ v] w λr w'=>Ext w w'/\(∃g,au .i64 ah w' g r (l.filter λy=>!decide (y=v)))/\∀q,leads r q->w.heap.size<=q:=by
 refine az func144 ?_;rw[aU an.u h];refine b4.range l.length (λi out f=>Ext w f/\(∃g,au .i64 ah f g out ((l.take i).filter λy=>!decide (y=v)))/\∀r,leads out r->w.heap.size<=r) h.le ⟨Ext.refl _,⟨0,au.nil _ _ _ _⟩,λr B=>by obtain⟨_,_,_,e,_⟩:=B;cases e⟩ ?_ ?_
 .rintro q out f C E ⟨a,⟨g,hm⟩,j⟩ G;obtain⟨y,p⟩:=aF (l:=l) E;have s:(l.take (q+1)).filter (λy=>!decide (y=v))=(l.take q).filter (λy=>!decide (y=v))++(if y≠v then[y]else[]):=by
   rw[u9,p,l7,List.filter_append];congr 1;by_cases ap:y=v<;>simp[ap]
  refine bA Ω ?_;refine aW (λx z=>Ext w z/\(∃g,au .i64 ah z g x ((l.take (q+1)).filter λy=>!decide (y=v)))/\∀r,leads x r->w.heap.size<=r) (λ_ _ H=>by rw[aL];exact G _ _ H) λax A=>?_;rw[bb an.u ah.i Ψ (h.ext a) p,bN,aj];refine⟨λI=>?_,λhe=>A _ _ ⟨a,⟨g,by rw[s,if_neg he,V3];exact hm⟩,j⟩⟩;refine Ep (w0:=w) a hm j ?_ λO w' J K L M=>A _ _ ⟨K,⟨J,by rw[s,if_pos I];exact L⟩,M⟩;have h1:=Q0 (λy=>!decide (y=v)) (l.take q);rw[o7]at h1;omega
 .rintro out f C ⟨a,hm,j⟩;rw[o8]at hm;refine b2 Ω ?_;exact⟨a,hm,j⟩
theorem xD{i:Nat}{v:Int}:∀(L:Λ)(s:ao)(x:be),s.vars[i]?=σ x->(∀y∈L,0<=y)->∃m,gg s i v L={s with vars:=s.vars.set i {x with mask:=m}}/\aw {x with mask:=m}=(aw x).filter λy=>!(decide (y∈L)&& !decide (y=v))
 |[],s,x,f,_=>by
  refine⟨x.mask,?_,(List.filter_eq_self.2 λy _=>Ξ).symm⟩;have:s.vars.set i x=s.vars:=by
   apply Y9;intro q;by_cases e:i=q
   .subst e;rw[b8 (x5.1 f).1,f]
   .rw[Y4 e]
  show s={s with vars:=s.vars.set i x};rw[this]
 |w::L,s,x,f,j=>by
  have hw:=j w (.head _);have z:=(x5.1 f).1;rw[gg];by_cases e:w≠v
  .rw[if_pos e];have r:dM s i w.toNat={s with vars:=s.vars.set i {x with mask:=((x.mask.toNat ||| 2 ^ w.toNat:Nat):Int)}}:=by unfold dM;rw[f]
   obtain⟨m,h1,p⟩:=xD L (dM s i w.toNat) {x with mask:=((x.mask.toNat ||| 2 ^ w.toNat:Nat):Int)} (by rw[r];exact b8 z) λy a=>j y (.tail _ a);refine⟨m,?_,?_⟩
   .rw[h1,r];simp only[List.set_set]
   .rw[p,xm hw,List.filter_filter];refine List.filter_congr λy _=>?_;by_cases a:y=w
    .subst a;simp[e]
    .simp[a]
  .rw[if_neg e];obtain⟨m,h1,p⟩:=xD L s x f λy a=>j y (.tail _ a);refine⟨m,h1,?_⟩;rw[p];have e:=X4.1 e;refine List.filter_congr λy _=>?_;by_cases a:y=v
   .simp[a]
   .have:y≠w:=λh=>a (h.trans e);simp[a,this]
def filter_one(j:l.Nodup)(f:v∈l):l.filter (λy=>decide (y=v))=[v]:=by
 induction l with
 |nil=>cases f
 |cons a l p=>
  have h:=List.nodup_cons.1 j;by_cases e:a=v
  .subst e;rw[List.filter_cons_of_pos Ξ,List.filter_eq_nil_iff.2 λx q=>by simp;intro r;exact h.1 (r▸q)]
  .rw[List.filter_cons_of_neg (by simpa using e)];exact p h.2 ((V4.1 f).resolve_left (R2 e))
def jz(u:ao)(a:gf):Option be:=if 3<a.kind then dN u a.i a.v else gU u a.i
section
variable{w:x4}{ab ad ak:Nat}{A R:af}{A9:Nat->af}{aA:af}{n:aK}{s u:ao}{t:ay}{h:List ay}{cs:List x3}{a:gf}
def EL{x:be}(h:jz u a=σ x):0<=a.i/\u.vars[a.i.toNat]?=σ x/\x.gone=0/\(3<a.kind->a.v∈aw x):=by
 unfold jz at h;split at h
 .obtain⟨h1,e,f,j⟩:=j8 h;exact⟨h1,e,f,λ_=>j⟩
 .rename_i hk;obtain⟨h1,e,f⟩:=xA h;exact⟨h1,e,f,λh=>absurd h hk⟩
def Qg(h:¬(0<=a.i/\a.i<u.vars.length)):jz u a=ν:=by
 cases he:jz u a with
 |none=>rfl
 |some x=>
  obtain⟨h1,e,_⟩:=EL he;exact absurd ⟨h1,by have:=(x5.1 e).1;omega⟩ h
def Qh{x:be}(e:0<=a.i)(f:u.vars[a.i.toNat]?=σ x):jz u a=if x.gone=0/\(3<a.kind->a.v∈aw x)then σ x else ν:=by
 unfold jz;by_cases hk:3<a.kind
 .rw[if_pos hk];unfold dN;rw[if_pos e,f];simp only[hk,true_implies]
 .rw[if_neg hk];unfold gU;rw[if_pos e,f];simp only[hk,false_implies,and_true]
def Qi(hk:2<=a.kind/\a.kind<=5)(h:jz u a=ν):bj n.k u a=(u,1):=by
 unfold jz at h;by_cases e:3<a.kind
 .rw[if_pos e]at h;unfold bj;rw[if_neg Ω,if_neg Ω,if_neg Ω,if_neg Ω,h];split<;>rfl
 .rw[if_neg e]at h;by_cases f:a.kind=2
  .rw[xB f,h]
  .rw[xC Ω,h]
def EM{x:be}{c:Int}(q:0<=c):gS x<c↔aw x=[]\/∃v∈aw x,x.un.getD v.toNat 0<c:=by
 unfold gS;constructor
 .intro h;cases e:aw x with
  |nil=>exact .inl rfl
  |cons b l=>
   refine .inr ?_;rw[e]at h;simp only[T0]at h;by_cases f:∀v∈b::l,c<=x.un.getD v.toNat 0
   .have:=(om (l.map λv=>x.un.getD v.toNat 0) (x.un.getD b.toNat 0) c).2 ⟨f b (.head _),λy j=>by obtain⟨v,a,rfl⟩:=l9.1 j;exact f v (.tail _ a)⟩;omega
   .simp only[Classical.not_forall]at f;obtain⟨v,a,r⟩:=f;exact⟨v,a,Ω⟩
 .rintro (h|⟨v,a,s⟩)
  .rw[h];show(-1:Int)<c;omega
  .cases e:aw x with
   |nil=>rw[e]at a;cases a
   |cons b l=>
    rw[e]at a;simp only[T0];rcases Int.lt_or_le ((l.map λv=>x.un.getD v.toNat 0).foldl min (x.un.getD b.toNat 0)) c with ap|ap
    .exact ap
    .obtain⟨w,p⟩:=(om _ _ _).1 ap;rcases V4.1 a with rfl|a
     .omega
     .have:=p _ (l9.2 ⟨v,a,rfl⟩);omega
def xE(n:aK)(u:ao)(x:be)(a:gf):Prop:=aw x=[]\/(a.kind=3/\u.zero<a.c)\/(a.kind=2/\∃v∈aw x,x.un.getD v.toNat 0<a.c)
def Qj{x:be}(hk:a.kind=2\/a.kind=3)(h:jz u a=σ x):(¬(0<=a.c/\a.c<=n.k)->bj n.k u a=(u,3))/\((0<=a.c/\a.c<=n.k)->xE n u x a->bj n.k u a=(u,7))/\
  ((0<=a.c/\a.c<=n.k)->¬xE n u x a->bj n.k u a=(hq u a.i.toNat x (λg=>if a.kind=2 then df n.k g a.c else cT n.k g a.c) (λg=>if a.kind=2 then cT n.k g a.c else df n.k g a.c),0)/\(a.kind=2->∀v∈aw x,a.c<=x.un.getD v.toNat 0)/\(a.kind=3->a.c<=u.zero)):=by
 have r:gU u a.i=σ x:=by unfold jz at h;rwa [if_neg Ω]at h
 rcases hk with hk|hk
 .have e:=xB (n:=n) (s:=u) hk;rw[r]at e;simp only at e;simp only[hk];refine⟨λf=>?_,λf hi=>?_,λf hi=>?_⟩
  .have j:∀m,dg n.k a.c m=3:=λm=>by unfold dg;rw[if_pos f]
   rw[j,if_pos Φ]at e;exact e
  .have p:gS x<a.c:=(EM f.1).2 (hi.elim .inl λh=>h.elim (λh=>Ω) λh=>.inr h.2);have j:∀m,m<a.c->dg n.k a.c m=7:=λm hm=>by unfold dg;rw[if_neg (λh=>h f),if_pos hm]
   rw[j _ p,if_pos Φ]at e;exact e
  .have p:¬gS x<a.c:=λh=>hi (((EM f.1).1 h).elim .inl λh=>.inr (.inr ⟨hk,h⟩));have j:dg n.k a.c (gS x)=0:=by unfold dg;rw[if_neg (λh=>h f),if_neg p]
   rw[j,if_neg Φ]at e;refine⟨by rw[e];simp,λ_ v r=>?_,λh=>absurd h Φ⟩;rcases Int.lt_or_le (x.un.getD v.toNat 0) a.c with ap|ap
   .exact absurd (.inr (.inr ⟨hk,v,r,ap⟩)) hi
   .exact ap
 .have e:=xC (n:=n) (s:=u) hk;rw[r]at e;simp only at e;simp only[hk];refine⟨λf=>?_,λf hi=>?_,λf hi=>?_⟩
  .have j:∀m,dg n.k a.c m=3:=λm=>by unfold dg;rw[if_pos f]
   rw[j,if_pos Φ]at e;exact e
  .have p:(if aw x=[]then-1 else u.zero)<a.c:=by
    by_cases q:aw x=[]
    .rw[if_pos q];omega
    .rw[if_neg q];rcases hi with hi|hi|hi
     .exact absurd hi q
     .exact hi.2
     .omega
   have j:∀m,m<a.c->dg n.k a.c m=7:=λm hm=>by unfold dg;rw[if_neg (λh=>h f),if_pos hm]
   rw[j _ p,if_pos Φ]at e;exact e
  .have q:¬aw x=[]:=λh=>hi (.inl h);have w:¬u.zero<a.c:=λh=>hi (.inr (.inl ⟨hk,h⟩));have j:dg n.k a.c u.zero=0:=by unfold dg;rw[if_neg (λh=>h f),if_neg w]
   rw[if_neg q,j,if_neg Φ]at e;exact⟨by rw[e];simp,λh=>absurd h Φ,λ_=>Ω⟩
end
section
variable{w:x4}{ab ad ak:Nat}{A R:af}{A9:Nat->af}{aA:af}{n:aK}{s u:ao}{t:ay}{h:List ay}{cs:List x3}{a:gf}
def Qk(p:b3 w ab ad ak A R A9 aA n s u t h cs)(av:bi n.k n.sizes u)(hk:2<=a.kind/\a.kind<=5):ai x8 uU [Γ ak,Δ (a.kind:Int),Δ a.i,Δ a.pos,Δ a.v,Δ a.c] w λr w'=>r=Δ (bj n.k u a).2/\cm w ab ad ak A R A9 aA n s t h (bj n.k u a).1 w':=by
 have cz:=av.vars;have cB:=av.fx;refine az func74 ?_;have bM:cs[0]?=σ (Δ n.k):=by obtain⟨_,_,_,_,_,_,rfl,_⟩:=p.oj;rfl
 rw[aP aC.p 0 p.box bM,aR,aj];refine⟨λh=>Ω,λ_=>?_⟩;refine aW (λr w'=>r= .bool (!(jz u a).isSome)/\Ext w w') ?_ λax a7=>?_
 rotate_left
 .rw[bY];refine p.look.load λei cC=>?_;refine(O6 (i:=a.i) cC).mono ?_;rintro _ J _ ⟨rfl,Y⟩;rw[bJ,cg];refine⟨λP=>a7 _ _ ⟨by rw[Qg (λh=>by rw[cz]at h;rw[decide_eq_true h]at P;cases P)];rfl,Y⟩,λP=>?_⟩;have a8:0<=a.i/\a.i<n.sizes.length:=by simpa using P
  obtain⟨x,I⟩:=aF (l:=u.vars) (i:=a.i.toNat) Ω;have bq:=Qh a8.1 I;obtain⟨szv,cD,dq,aV,dr,br,bN,_,_,cE,cF,ds,dt,du⟩:=(p.look).ext Y;rw[aP aC.p 4 bN rfl];refine gL (α:=Bool) (a:=decide (x.gone≠0)) (i:=a.i.toNat) rfl Ω hU.u ec.i Ψ cF (by rw[v8,I];rfl) λbO bt=>?_;have bt:[bO]=[x3.bool (decide (x.gone≠0))]:=bt;obtain rfl:bO=x3.bool (decide (x.gone≠0)):=by simpa using bt
  rw[aj];refine⟨λQ=>a7 _ _ ⟨by rw[bq,if_neg λh=>Q h.1];rfl,Y⟩,λQ=>?_⟩;have Q:=X4.1 Q;rw[bS,aj];refine⟨λbu=>?_,λbu=>a7 _ _ ⟨by rw[bq,if_pos ⟨Q,λh=>absurd h Ω⟩];rfl,Y⟩⟩;rw[aP aC.p 3 bN rfl];refine gL (α:=Λ) (a:=aw x) (i:=a.i.toNat) rfl Ω b6.u an.i Ψ cE (by rw[v8,I];rfl) λdv cG=>?_;refine(tB (dJ cG)).mono ?_;rintro _ U _ ⟨rfl,L⟩;rw[bJ];refine a7 _ _ ⟨?_,Y.trans L⟩;rw[bq];by_cases H:a.v∈aw x
  .rw[if_pos ⟨Q,λ_=>H⟩,decide_eq_true H];rfl
  .rw[if_neg λh=>H (h.2 Ω),decide_eq_false H];rfl
 rintro _ J ⟨rfl,Y⟩;cases hm:jz u a with
 |none=>
  have f:=Qi (n:=n) hk hm;rw[R5,W3,bQ];exact⟨by rw[f],by rw[f];exact cm.same p Y⟩
 |some x=>
 rw[R4,X3,aY];obtain⟨cH,I,dw,cI⟩:=EL hm;obtain⟨B,aK⟩:=U9 cH;rw[aK,r8]at I;have bw:=(x5.1 I).1;have G:∀y∈aw x,0<=y/\y<x.un.length:=λy O=>(fh.1 O).1;simp only[aK];have bT:∀v:Nat,0<=x.un.getD v 0/\x.un.getD v 0<=n.k:=λv=>hr av I;have N:=p.ext Y;have dx:cs[0]?=σ (Δ n.k):=bM;have bx:∀{U:x4}{eN:ao}{bV:List x3}{bz:Nat->af}{aM:be},b3 U ab ad ak A R bz aA n s eN t h bV->eN.vars[B]?=σ aM->∃aV ay y,aG .i64 U y aM.un/\(∀{j:x4}{K:x3->x3->x3->x3->x3->Prop},Ext U j->K (Γ ak) (.pointer (σ ⟨ak,0+5,ν⟩)) aV (.pointer (σ ⟨ay,0+B*1,ν⟩)) y->
    V x8 (bP (Γ ak)) j λaE=>V x8 (u6 aC aE 5) j λaH=>V x8 (u5 cR aH) j λaN=>V x8 (j9 cR aN (Δ (B:Int))) j λba=>V x8 (u5 aq ba) j λcJ=>K aE aH aN ba cJ)/\
   ∀{w':x4}{v:Nat}{c:Int}{K:Unit->x4->Prop},Ext U w'->v<aM.un.length->(∀bW,jx U ab ad ak A R bz aA n s t h (ev eN B aM (aM.un.set v c)) bW->K () bW)->V x8 (j9 aq y (Δ (v:Int))) w' λa=>aB x8 (o9 am a (Δ c)) w' K:=λ{U eN bV bz aM}bX C=>by
  obtain⟨ay,cK,y,cL,cM,ag,bB⟩:=ri bX C;have cN:=(x5.1 C).1;refine⟨.slice (σ ⟨ay,0,ν⟩) eN.vars.length cK,ay,y,ag,λ{j K}aI aX=>?_,bB⟩;rw[aP aC.p 5 (bX.box.ext aI) cL,eK cR.u aq.i cN λ_=>rfl,aD (v:=y) (o:=0+B*1) Ψ (by rw[X6,U4];exact iM aI cM)];exact aX
 obtain⟨cO,cP,bc,bZ,cQ,al,cS,b0⟩:=Ew N I;have b1:∀{j:x4}{K:x3->x3->x3->Prop},Ext J j->K (Γ ak) (.pointer (σ ⟨ak,0+3,ν⟩)) (.slice (σ ⟨cO,0,ν⟩) u.vars.length cP)->
   V x8 (bP (Γ ak)) j λaE=>V x8 (u6 aC aE 3) j λaH=>V x8 (u5 b6 aH) j λaN=>K aE aH aN:=λaI aX=>by
  rw[aP aC.p 3 (N.box.ext aI) bZ];exact aX
 have ol:∀{j:x4}{K:x3->Prop},Ext J j->K bc->
   V x8 (bP (Γ ak)) j λaE=>V x8 (u6 aC aE 3) j λaH=>V x8 (u5 b6 aH) j λaN=>V x8 (j9 b6 aN (Δ (B:Int))) j λba=>V x8 (u5 an ba) j K:=λaI aX=>by
  rw[aP aC.p 3 (N.box.ext aI) bZ,eK b6.u an.i bw λ_=>rfl,aD (v:=bc) (o:=0+B*1) Ψ (by rw[X6,U4];exact iM aI cQ)];exact aX
 have low:∀{u':ao}{w':x4},cm J ab ad ak A R A9 aA n s t h u' w'->cm w ab ad ak A R A9 aA n s t h u' w':=λbd=>cm.comp (Y.aa _) (λq r G=>.inl ⟨q,G⟩) bd;refine aW (λ_ w'=>cm w ab ad ak A R A9 aA n s t h (bj n.k u a).1 w'/\(bj n.k u a).2=0) (λ_ w' bd=>⟨by rw[bd.2],bd.1⟩) λcU bC=>?_;refine aW (λr w'=>r= .bool (decide (a.kind=2\/a.kind=3))/\J=w') ?_ λdy b5=>?_
 rotate_left
 .rw[bf,aj];refine⟨λC=>b5 _ _ ⟨?_,rfl⟩,λC=>?_⟩
  .congr 1;exact decide_eq_decide.2 ⟨λ_=>.inl Ω,λ_=>C⟩
  .rw[bf];refine b5 _ _ ⟨?_,rfl⟩;congr 1;exact decide_eq_decide.2 ⟨λh=>.inr Ω,λh=>Ω⟩
 rintro _ _ ⟨rfl,rfl⟩;rw[aj];refine⟨λcV=>?_,λdz=>?_⟩
 .
  obtain⟨cW,bg,bD⟩:=Qj (n:=n) cV hm;refine zQ.mono ?_;rintro _ U _ ⟨rfl,L⟩;have dA:=L;have b7:cA a.c n.k↔0<=a.c/\a.c<=n.k:=⟨λh=>h.2,λC=>⟨cB,C⟩⟩;rw[bJ,cg];refine⟨λP=>?_,λP=>?_⟩
  .have f:=cW λh=>absurd (b7.2 h) (by simpa using P);exact⟨by rw[f],by rw[f];exact low (cm.same N L)⟩
  have a8:=b7.1 (show cA a.c n.k by simpa using P);have bg:=bg a8;have bD:=bD a8;refine aW (λr w'=>Ext J w'/\∃b,r= .bool b/\(b=true↔aw x=[]\/(a.kind=3/\u.zero<a.c))) ?_ λdC bE=>?_
  rotate_left
  .refine ol L ?_;rw[aU an.u (al.ext L),bf,aj];refine⟨λhe=>bE _ _ ⟨L,true,rfl,⟨λ_=>.inl (c9 Ω),λ_=>rfl⟩⟩,λbh=>?_⟩;have bh:aw x≠[]:=λh=>bh (by rw[h];rfl);rw[bf,aj];refine⟨λbu=>?_,λbu=>bE _ _ ⟨L,false,rfl,⟨(λh=>by cases h),λh=>h.elim (λh=>absurd h bh) λh=>Ω⟩⟩⟩;have bF:cs[2]?=σ (Δ u.zero):=by obtain⟨_,_,_,_,_,_,rfl,_⟩:=p.oj;rfl
   rw[aP aC.p 2 (N.box.ext L) bF,bS];exact bE _ _ ⟨L,_,rfl,by rw[decide_eq_true_eq];exact⟨λh=>.inr ⟨Ω,h⟩,λh=>h.elim (λh=>absurd h bh) λh=>h.2⟩⟩
  rintro _ cX ⟨aO,b,rfl,b9⟩;rw[cg];refine⟨λcY=>?_,λca=>?_⟩
  .have f:=bg ((b9.1 cY).elim .inl λh=>.inr (.inl h));exact⟨by rw[f],by rw[f];exact low (cm.same N aO)⟩
  have cb:¬(aw x=[]\/(a.kind=3/\u.zero<a.c)):=λh=>by rw[b9.2 h]at ca;cases ca
  refine ol aO ?_;rw[aU an.u (al.ext aO)];refine b4.range (aw x).length (λq _ w'=>Ext J w'/\(a.kind=2->∀v∈(aw x).take q,a.c<=x.un.getD v.toNat 0)) al.le ⟨aO,λ_ v H=>by simp at H⟩ ?_ ?_
  .rintro q cc aJ cZ bG ⟨M,bk⟩ c0;obtain⟨v,H⟩:=aF (l:=aw x) bG;have au:=x6 H;have bl:=G v au;obtain⟨E,rfl⟩:=U9 bl.1;refine bA Ω ?_;rw[bb an.u ah.i Ψ (al.ext M) H];refine aW (λr w'=>aJ=w'/\r= .bool (decide (a.kind=2/\x.un.getD E 0<a.c))) ?_ λdD cd=>?_
   .rintro _ _ ⟨rfl,rfl⟩;rw[aj];refine⟨λaZ=>?_,λbH=>?_⟩
    .have f:=bg (.inr (.inr ⟨aZ.1,_,au,aZ.2⟩));exact⟨by rw[f],by rw[f];exact low (cm.same N M)⟩
    .rw[aL];refine c0 _ _ ⟨M,λC y O=>?_⟩;rw[u9,H,l7,j0,j6]at O;rcases O with O|rfl
     .exact bk C y O
     .rcases Int.lt_or_le (x.un.getD E 0) a.c with ap|ap
      .exact absurd ⟨C,ap⟩ bH
      .exact ap
   rw[bf,aj];refine⟨λC=>?_,λC=>cd _ _ ⟨rfl,by rw[decide_eq_false λh=>C Ω]⟩⟩;obtain⟨aV,ay,y,ag,look,_⟩:=bx (N.ext M) I;refine look (Ext.refl _) ?_;rw[bb aq.u am.i Ψ ag (getD_some (i:=E) Ω),bS];refine cd _ _ ⟨rfl,?_⟩;congr 1;exact decide_eq_decide.2 ⟨λh=>⟨Ω,h⟩,λh=>h.2⟩
  rintro cc aJ cZ ⟨M,bk⟩;rw[o8]at bk;have c1:¬xE n u x a:=λhi=>hi.elim (λh=>cb (.inl h)) λh=>h.elim (λh=>cb (.inr h)) λ⟨C,v,H,aZ⟩=>by have:=bk C v H;omega
  obtain⟨f,dE,dF⟩:=bD c1;rw[aK,r8]at f;refine b2 Ω ?_;refine ol M ?_;rw[aU an.u (al.ext M)];obtain⟨g,Q⟩:∃g:Int->Int,g=λg=>if a.kind=2 then df n.k g a.c else cT n.k g a.c:=⟨_,rfl⟩;obtain⟨z,bI⟩:∃z:Int->Int,z=λg=>if a.kind=2 then cT n.k g a.c else df n.k g a.c:=⟨_,rfl⟩;rw[<-Q,<-bI]at f;have c2:=N.ext M;have c3:=al.ext M;have ce:=q8 x;obtain⟨ch,dG⟩:∃ch,bc=ch:=⟨_,rfl⟩;have c4:ev u B x (dZ g x.un ((aw x).take 0))=u:=by
   unfold ev;show{u with vars:=u.vars.set B x}=u;have:u.vars.set B x=u.vars:=by
    apply Y9;intro i;by_cases e:B=i
    .subst e;rw[b8 bw,I]
    .rw[Y4 e]
   rw[this]
  have c5:∀{w':x4},ae (A9 2) aJ w'->aG .i64 w' bc (aw x):=λc6=>h3 c3 c6 λr G b n c e P=>N.gK.1 0 2 r Φ (cS r ⟨b,n,c,e,P⟩) G;refine bU.range (aw x).length (λq w'=>jx aJ ab ad ak A R A9 aA n s t h (ev u B x (dZ g x.un ((aw x).take q))) w') al.le (by rw[c4];exact jx.same c2 (Ext.refl _)) ?_ ?_
  .rintro q bm c7 bG aQ c8;obtain⟨bn,ci,cj,aT,bK,da⟩:=id aQ;obtain⟨v,H⟩:=aF (l:=aw x) bG;have au:=x6 H;have bl:=G v au;obtain⟨E,rfl⟩:=U9 bl.1;have bo:(ev u B x (dZ g x.un ((aw x).take q))).vars[B]?=σ {x with un:=dZ g x.un ((aw x).take q)}:=b8 bw;have dH:(dZ g x.un ((aw x).take q)).length=x.un.length:=q7 _ _;have bL:=tH (g:=g) ((aw x).take q) x.un (E:Int) (ce.sublist (List.take_sublist _ _)) (λy O=>G y (U6 O)) Ω;rw[if_neg (xu ce H),r8]at bL;have db:=bT E;obtain⟨aV,ay,y,ag,look,bB⟩:=bx aT bo;refine bA Ω ?_;refine dh (λS=>jx aJ ab ad ak A R A9 aA n s t h (ev u B x (dZ g x.un ((aw x).take (q+1)))) S) (λS W=>by rw[aL];exact c8 _ W) λdc dd=>?_;have a1:∀{X:x4},Ext bm X->V x8 (j9 aq y (Δ (E:Int))) X λa'=>aB x8 (o9 am a' (Δ (g (x.un.getD E 0)))) X λ(_:Unit)S=>dc S:=λbp=>by
    refine bB bp (by show E<(dZ g x.un ((aw x).take q)).length;omega) λS W=>dd _ (jx.comp bn bK da ?_);have e:ev (ev u B x (dZ g x.un ((aw x).take q))) B {x with un:=dZ g x.un ((aw x).take q)} ((dZ g x.un ((aw x).take q)).set E (g (x.un.getD E 0)))=ev u B x (dZ g x.un ((aw x).take (q+1))):=by
     rw[EE H,r8,bL];unfold ev;simp only[List.set_set]
    rw[e]at W;exact W
   have ck:(dZ g x.un ((aw x).take q))[E]?=σ (x.un.getD E 0):=by rw[getD_some Ω,bL]
   rw[bb an.u ah.i Ψ (c5 bn) H,bf,aj];refine⟨λC=>?_,λC=>?_⟩
   .intro j Z _ _;refine look Z (look Z ?_);rw[bb aq.u am.i Ψ (ag.ext Z) ck];refine(tS Ω Ω).mono ?_;rintro _ X _ ⟨rfl,ac⟩;refine⟨.inl ac,?_⟩;have:=a1 (Z.trans ac);rw[Q]at this;simp only[if_pos (show a.kind=2 by omega)]at this;exact this
   .intro j Z _ _;refine look Z (look Z ?_);rw[bb aq.u am.i Ψ (ag.ext Z) ck];refine(mb Ω Ω).mono ?_;rintro _ X _ ⟨rfl,ac⟩;refine⟨.inl ac,?_⟩;have:=a1 (Z.trans ac);rw[Q]at this;simp only[if_neg (show¬a.kind=2 by omega)]at this;exact this
  .rintro bm c7 aQ;rw[o8]at aQ;refine b2 Ω ?_;have aQ:=aQ.xx;obtain⟨bn,ci,cj,aT,bK⟩:=id aQ;have cl:cj[2]?=σ (Δ u.zero):=by obtain⟨_,_,_,_,_,_,rfl,_⟩:=aT.oj;rfl
   have de:=av.zero;have a1:∀{X:x4},Ext bm X->aB x8 (o9 am (.pointer (σ ⟨ak,0+2,ν⟩)) (Δ (z u.zero))) X λ(_:Unit)S=>cU cc S:=λbp=>by
    refine Ev (aT.ext bp) λS W=>bC _ _ ⟨?_,by rw[f]⟩;rw[f];have cn:=cm.comp (A9:=ci) (bp.aa _) (λq r G=>.inl ⟨q,G⟩) W;have a2:=cm.comp bn bK cn;exact low (cm.comp (M.aa _) (λq r G=>.inl ⟨q,G⟩) a2)
   rw[bf,aj];refine⟨λC=>?_,λC=>?_⟩
   .rw[aP aC.p 2 aT.box cl];refine(mb Ω Ω).mono ?_;rintro _ X _ ⟨rfl,ac⟩;rw[bY,aS aC.p rfl];have:=a1 ac;rw[bI]at this;simp only[if_pos (show a.kind=2 by omega)]at this;exact this
   .rw[aP aC.p 2 aT.box cl];refine(tS Ω Ω).mono ?_;rintro _ X _ ⟨rfl,ac⟩;rw[bY,aS aC.p rfl];have:=a1 ac;rw[bI]at this;simp only[if_neg (show¬a.kind=2 by omega)]at this;exact this
 .
  have cp:3<a.kind:=Ω
  have au:=cI cp;obtain⟨E,br⟩:=U9 (G _ au).1;have bl:=(G _ au).2;have cq:dN u a.i a.v=σ x:=by unfold jz at hm;rwa [if_pos cp]at hm
  rw[bf,aj];refine⟨λa2=>?_,λa2=>?_⟩
  .have a2:a.kind=4:=Ω
   have f:bj n.k u a=if cT n.k u.zero (x.un.getD a.v.toNat 0)<n.k then(u,7)else(dM u a.i.toNat a.v.toNat,0):=by
    unfold bj;rw[if_neg Ω,if_neg Ω,if_neg Ω,if_neg Ω,if_pos a2,cq]
   have de:=av.zero;have db:=bT E;intro U L _ _;have bF:cs[2]?=σ (Δ u.zero):=by obtain⟨_,_,_,_,_,_,rfl,_⟩:=p.oj;rfl
   obtain⟨aV,ay,y,ag,look,_⟩:=bx (N.ext L) I;rw[aP aC.p 2 (N.box.ext L) bF];refine look (Ext.refl _) ?_;rw[br,bb aq.u am.i Ψ ag (getD_some (i:=E) Ω)];refine(mb Ω Ω).mono ?_;rintro _ cX _ ⟨rfl,aO⟩;have cr:=L.trans aO;rw[br,r8]at f;unfold cT at f;rw[aR,aj];refine⟨λaZ=>?_,λbH=>?_⟩
   .rw[if_pos aZ]at f;exact⟨by rw[f],by rw[f];exact low (cm.same N cr)⟩
   .rw[if_neg bH]at f;intro aJ M _ _;have a6:=cr.trans M;refine b1 a6 ?_;refine ol a6 ?_;have dI:=ot x;have dg:=av.dQ.2.2;refine(Qf (v:=(E:Int)) (al.ext a6) (by
     obtain⟨ct,cu⟩:=aF (l:=n.sizes) (i:=B) Ω;have h1:=(av.var B x ct I cu).1;have C:=dg ct (x6 cu);omega)).mono ?_
    rintro cD bm _ ⟨bo,⟨gz,di⟩,dj⟩;refine⟨.inl bo,?_⟩;have dk:=a6.trans bo;have dK:=a6.size;refine b0 (m:=((x.mask.toNat ||| 2 ^ E:Nat):Int)) dk (gz:=gz) (by rw[show E=(E:Int).toNat from rfl,xm Ω];exact di) (λr G=>by have:=dj r G;omega) λS W=>bC _ _ ⟨?_,by rw[f]⟩;rw[f,aK,r8];unfold dM;rw[I];exact low W
  .have cn:a.kind=5:=Ω
   obtain⟨m,dl,dm⟩:=xD (i:=a.i.toNat) (v:=a.v) (aw x) u x (by rw[aK,r8];exact I) λy O=>(G y O).1;have f:bj n.k u a=(gg u a.i.toNat a.v (aw x),0):=by
    unfold bj;rw[if_neg Ω,if_neg Ω,if_neg Ω,if_neg Ω,if_neg Ω,cq]
   have dn:aw {x with mask:=m}=[a.v]:=by
    rw[dm,<-filter_one (q8 x) au];refine List.filter_congr λy O=>?_;rw[decide_eq_true O,T6,Bool.not_not]
   rw[bf,aj];refine⟨λ_=>?_,λh=>Ω⟩;refine b1 (Ext.refl _) ?_;refine et (k:=.i64) an.u ah.i rfl λv4 dp aJ dL M cw=>?_;refine b0 (m:=m) M (gz:=dp) (by rw[dn];exact cw) (λr G=>by have:=bR cw G;omega) λS W=>bC _ _ ⟨?_,by rw[f]⟩;rw[f,dl,aK,r8];exact low W
end
def ic(A R:af)(A9:Nat->af)(aA:af)(ak:Nat)(r:Nat):Prop:=A r\/R r\/(∃q,A9 q r)\/aA r\/r=ak
section
variable{P:af}{hb w w':x4}{ab ad ak R8 R9 Sa:Nat}{A R aI R':af}{A9 cn:Nat->af}{aA D6:af}{n:aK}{s s':ao}{t bn:ay}{h h':List ay}{cs bB:List x3}{m bW:Nat}
variable{Z jA:af}
end
def rn(h:Laid w):0<w.heap.size:=by
 rcases Q5 w.heap.size with e|e
 .have a:=h 0 _ rfl;unfold x4.cell? at a;rw[Array.getElem?_eq_none Ω]at a;cases a
 .exact e
def fa(Z aA:af)(w:x4)(ab ad ak:Nat)(n:aK)(s:ao):Prop:=∃A R A9 t cs,b3 w ab ad ak A R A9 aA n s s t [] cs/\(Laid w/\¬Z 0)/\(cz s/\ea (dr n) s/\n.funs.length<=256)/\(∀r,Z r↔ic A R A9 aA ak r)/\∀q r,A9 q r->r<w.heap.size
section
variable{Z aA S:af}{w w' J:x4}{ab ad ak:Nat}{A R:af}{A9:Nat->af}{n:aK}{s u:ao}{t:ay}{cs:List x3}
def fa.ext(h:fa Z aA w ab ad ak n s)(a:Ext w w'):fa Z aA w' ab ad ak n s:=by
 obtain⟨A,R,A9,t,cs,p,⟨e,f⟩,j,x,y⟩:=h;exact⟨A,R,A9,t,cs,p.ext a,⟨e.ext a,f⟩,j,x,λq r z=>by have:=y q r z;have:=a.size;omega⟩
def fa.side(h:fa Z aA w ab ad ak n s)(e:ae S w w')(y:∀r,Z r->¬S r)(z:¬S 0):fa Z aA w' ab ad ak n s:=by
 obtain⟨A,R,A9,t,cs,p,⟨B,C⟩,E,j,F⟩:=h;refine⟨A,R,A9,t,cs,p.side e λr _ f=>?_,⟨hA e z B,C⟩,E,j,λq r f=>by have:=F q r f;have:=e.size;omega⟩;have a:∀{x:Prop},(x->ic A R A9 aA ak r)->¬x:=λG h=>y r ((j r).2 (G h)) f;exact⟨a .inl,a λh=>.inr (.inl h),λq=>a λh=>.inr (.inr (.inl ⟨q,h⟩)),a λh=>.inr (.inr (.inr (.inl h))),a λh=>.inr (.inr (.inr (.inr h)))⟩
def fa.ok(h:fa Z aA w ab ad ak n s):bi n.k n.sizes s/\cz s/\ea (dr n) s/\n.funs.length<=256:=by
 obtain⟨A,R,A9,t,cs,p,_,a,_⟩:=h;exact⟨p.dl.2.2.2.1,a⟩
def fa.look(h:fa Z aA w ab ad ak n s):kH w ak n.k n.sizes s:=by
 obtain⟨A,R,A9,t,cs,p,_⟩:=h;exact p.look
def fa.step{J:x4}(p:b3 w ab ad ak A R A9 aA n s u t [] cs)(f:∀r,Z r↔ic A R A9 aA ak r){u':ao}(F:cz u'/\ea (dr n) u'/\n.funs.length<=256)(G:¬Z 0)(H:cm w ab ad ak A R A9 aA n s t [] u' J)(j:Ext J w')(hm:cU [] w' ab ad A R n u' U):ae (λr=>Z r/\¬aA r) w U/\∃jA,(∀r,jA r->Z r\/w.heap.size<=r)/\fa jA aA U ab ad ak n u':=by
 obtain⟨B,cn,bB,I,K⟩:=H;obtain⟨x,L,aI,bn,y,M,N,V⟩:=hm;have W:=B.size;have X:=j.size;have z3:=x.size;have z:=I.ext j;have O:=z.prog x y M N.1 (λ_ h=>.inl h) (λ_ _ _ h=>h) z.box.lt;have P:=p.Eo;have Q:ae (λr=>Z r/\¬aA r) w U:=(((B.mono (T:=λr=>Z r/\¬aA r) λr _ h=>⟨(f r).2 (h.elim (λh=>.inr (.inr (.inl h))) λh=>.inr (.inr (.inr (.inr h)))),h.elim (λ⟨q,h⟩=>P q r h) λh h'=>(p.read r h').2.2 h⟩)).trans (j.aa _)).trans
  ((tI y.1 x).mono λr _ h=>⟨(f r).2 (.inl h.1),λh'=>(z.read r h').1 h.2⟩)
 have Y:=p.box.lt;have e:∀{r:Nat}{C:Prop},(C->ic A R A9 aA ak r)->C->Z r\/w.heap.size<=r:=λS h=>.inl ((f _).2 (S h));have E:∀r,ic aI R (λq r=>cn q r/\r<w'.heap.size) aA ak r->Z r\/w.heap.size<=r:=by
  intro r a;rcases a with a|a|⟨q,a,_⟩|a|a
  .exact (y.2.1 r a).elim (e .inl) λh=>.inr Ω
  .exact e (λh=>.inr (.inl h)) a
  .exact (K q r a).elim (e λh=>.inr (.inr (.inl h))) .inr
  .exact e (λh=>.inr (.inr (.inr (.inl h)))) a
  .exact e (λh=>.inr (.inr (.inr (.inr h)))) a
 exact⟨Q,λr=>ic aI R (λq r=>cn q r/\r<w'.heap.size) aA ak r,E,aI,R,_,bn,bB,O,⟨L,λh=>(E 0 h).elim G λh=>Ω⟩,F,λr=>Iff.rfl,λq r a=>by have:=a.2;omega⟩
def Ql(h:cz s/\ea (dr n) s/\n.funs.length<=256)(a:bi n.k n.sizes s)(m:gf):cz (bj n.k s m).1/\ea (dr n) (bj n.k s m).1/\n.funs.length<=256:=
 ⟨(D9 a h.1).2.1,h.2.1.trans (Eg a),h.2.2⟩
def Qm{m:gf}(p:b3 w ab ad ak A R A9 aA n s u t [] cs)(a:bi n.k n.sizes u)(e:cz u)(hk:m.kind<=5):ai x8 uU [Γ ak,Δ (m.kind:Int),Δ m.i,Δ m.pos,Δ m.v,Δ m.c] w λr w'=>r=Δ (bj n.k u m).2/\cm w ab ad ak A R A9 aA n s t [] (bj n.k u m).1 w':=by
 by_cases h:m.kind<2
 .exact Qb p a e h
 .exact Qk p a ⟨Ω,hk⟩
def Qn{B:Nat}{e:x4}{ak:Nat}{j:x3}{cs:List x3}{f:cb}(w:tN B U j cs f)(x:Ext U e)(y:ac e ak aC cs)(z:U.heap.size<=ak)(K:B<=U.heap.size)(L:0<B)(C:Laid e):
  ∃ab ad Z aA,j=Γ ab/\fa Z aA e ab ad ak (cH f) (dr (cH f))/\∀r,Z r->B<=r:=by
 obtain⟨ab,ad,A,R,A9,aA,t,rfl,p,_,E,F,_,_,G,_,H,I⟩:=PD w x y z;have J:=p.olds;have s:∀r,ic A R (λq r=>A9 q r/\r<e.heap.size) aA ak r->B<=r:=by
  intro r a;rcases a with a|a|⟨q,a,_⟩|a|a
  .exact E r a
  .exact I r a
  .exact F q r a
  .exact H r a
  .omega
 exact⟨ab,ad,_,aA,rfl,⟨A,R,_,t,cs,J,⟨C,λh=>by have:=s 0 h;omega⟩,⟨En _,ea.rfl,G⟩,λr=>Iff.rfl,λq r a=>a.2⟩,s⟩
end
section
variable{ap:List ay}{w J U:x4}{ab ad ak:Nat}{A R S Z aA:af}{n:aK}{s s0 s1:ao}{cs:List x3}
def cU.open(h:cU ap w ab ad A R n s1 J):∃a e,bF J ab ad a R n s1 e/\Laid J/\¬a 0/\eB ap e/\∀{f:ao}{U:x4},cU ap J ab ad a R n f U->cU ap w ab ad A R n f U:=by
 obtain⟨h1,j,a,e,p,q,r,s⟩:=h;refine⟨a,e,q,j,s,r,λ{f U}k=>?_⟩;obtain⟨x,y,z,B,C,E,F,G⟩:=k;exact⟨tr h1 x,y,z,B,p.trans C,E,F,G⟩
def cU.ext(h:cU ap w ab ad A R n s1 J)(a:Ext J U):cU ap w ab ad A R n s1 U:=by
 obtain⟨p,q,h1,e,f,j,k⟩:=h.open;exact k (.same h1 e f j a)
def gV(ap:List ay)(Z aA:af)(w:x4)(ab ad ak:Nat)(n:aK)(s s0:ao)(cs:List x3):Prop:=∃A R A9 t,b3 w ab ad ak A R A9 aA n s s0 t ap cs/\(Laid w/\¬Z 0/\rl t)/\(∀r,Z r↔ic A R A9 aA ak r)/\∀q r,A9 q r->r<w.heap.size
def gV.lt(h:gV ap Z aA w ab ad ak n s s0 cs):∀r,Z r->r<w.heap.size:=by
 obtain⟨A,R,A9,t,p,_,e,f⟩:=h;intro r a;rcases(e r).1 a with a|a|⟨q,a⟩|a|a
 .exact ml p.dl r (.inl a)
 .exact ml p.dl r (.inr a)
 .exact f q r a
 .exact (p.read r a).2.1
 .subst a;exact p.box.lt
def gV.ext(h:gV ap Z aA w ab ad ak n s s0 cs)(a:Ext w J):gV ap Z aA J ab ad ak n s s0 cs:=by
 obtain⟨A,R,A9,t,p,⟨e,f⟩,j,x⟩:=h;exact⟨A,R,A9,t,p.ext a,⟨e.ext a,f⟩,j,λq r y=>by have:=x q r y;have:=a.size;omega⟩
def gV.side(h:gV ap Z aA w ab ad ak n s s0 cs)(e:ae S w J)(y:∀r,Z r->¬S r)(z:¬S 0):gV ap Z aA J ab ad ak n s s0 cs:=by
 obtain⟨A,R,A9,t,p,⟨B,C⟩,j,E⟩:=h;refine⟨A,R,A9,t,p.side e λr _ f=>?_,⟨hA e z B,C⟩,j,λq r f=>by have:=E q r f;have:=e.size;omega⟩;have a:∀{x:Prop},(x->ic A R A9 aA ak r)->¬x:=λF h=>y r ((j r).2 (F h)) f;exact⟨a .inl,a λh=>.inr (.inl h),λq=>a λh=>.inr (.inr (.inl ⟨q,h⟩)),a λh=>.inr (.inr (.inr (.inl h))),a λh=>.inr (.inr (.inr (.inr h)))⟩
def gV.ok(h:gV ap Z aA w ab ad ak n s s0 cs):bi n.k n.sizes s/\fR w (.agg cs.toArray) n.k n.sizes s0:=by
 obtain⟨A,R,A9,t,p,_⟩:=h;exact⟨p.dl.2.2.2.1,p.doc.pD⟩
def gV.go(h:gV ap Z aA w ab ad ak n s s0 cs):∃A R t,bF w ab ad A R n s t/\Laid w/\¬A 0/\eB ap t/\∀{J U:x4}{s1:ao},Ext w J->cU ap J ab ad A R n s1 U->ae (λr=>Z r/\¬aA r) w U/\∃jA,(∀r,jA r->Z r\/w.heap.size<=r)/\gV ap jA aA U ab ad ak n s1 s0 cs:=by
 obtain⟨A,R,A9,t,p,⟨G,B,a⟩,f,M⟩:=h;refine⟨A,R,t,p.dl,G,λh=>B ((f 0).2 (.inl h)),⟨p.ho,a⟩,λ{J U s1}j hm=>?_⟩;obtain⟨x,H,aI,bn,y,I,C,N⟩:=hm;have O:=j.size;have z3:=x.size;have z:=p.ext j;have K:=z.prog x y I C.1 (λ_ h=>.inl h) (λ_ _ _ h=>h) z.box.lt;have e:∀{r:Nat}{E:Prop},(E->ic A R A9 aA ak r)->E->Z r\/w.heap.size<=r:=λL h=>.inl ((f _).2 (L h));have F:∀r,ic aI R (λq r=>A9 q r/\r<J.heap.size) aA ak r->Z r\/w.heap.size<=r:=by
  intro r a;rcases a with a|a|⟨q,a,_⟩|a|a
  .exact (y.2.1 r a).elim (e .inl) λh=>.inr Ω
  .exact e (λh=>.inr (.inl h)) a
  .exact e (λh=>.inr (.inr (.inl ⟨q,h⟩))) a
  .exact e (λh=>.inr (.inr (.inr (.inl h)))) a
  .exact e (λh=>.inr (.inr (.inr (.inr h)))) a
 exact⟨(j.aa _).trans ((tI y.1 x).mono λr _ h=>⟨(f r).2 (.inl h.1),λh'=>(z.read r h').1 h.2⟩),λr=>ic aI R (λq r=>A9 q r/\r<J.heap.size) aA ak r,F,aI,R,_,bn,K,⟨H,λh=>(F 0 h).elim B λh=>by have:=p.box.lt;omega,C.2⟩,λr=>Iff.rfl,λq r a=>by have:=a.2;omega⟩
def fa.cw(h:fa Z aA w ab ad ak n s):∃cs,gV [] Z aA w ab ad ak n s s cs/\ac w ak aC cs:=by
 obtain⟨A,R,A9,t,cs,p,⟨a,e⟩,q,f,j⟩:=h;exact⟨cs,⟨A,R,A9,t,p,⟨a,e,p.ho.m.2⟩,f,j⟩,p.box⟩
end
def tY(sizes a:Λ):Prop:=a.length=sizes.length/\∀(q:Nat)z b,sizes[q]?=σ z->a[q]?=σ b->0<=b/\b<z
def Qo(sizes:Λ)(L:List (Λ)):Prop:=L.length<=90/\∀a∈L,tY sizes a
def kL(sizes:Λ)(k:Nat):Λ:=(W5 sizes.length).map λi:Nat=>((k:Int)*(2*(i:Int)+1)+(k:Int) / 3) % sizes.getD i 0
def rp(sizes:Λ)(k:Nat):(kL sizes k).length=sizes.length:=by simp[kL]
def EN{k i:Nat}{z:Int}(h:sizes[i]?=σ z):(kL sizes k)[i]?=σ (((k:Int)*(2*(i:Int)+1)+(k:Int) / 3) % z):=by
 unfold kL;rw[v8,List.getElem?_range (x5.1 h).1,Z7,u4,h];rfl
def Qp(k:Nat)(h:∀z∈sizes,1<=z/\z<=32):tY sizes (kL sizes k):=by
 refine⟨rp _ _,λq z b a e=>?_⟩;rw[EN a]at e;cases e;have:=h z (x6 a);exact⟨Int.emod_nonneg _ Ω,Int.emod_lt_of_pos _ Ω⟩
def Qq{a:Λ}(h:a∈bc sizes):tY sizes a:=by
 rw[tC]at h;obtain⟨h1,e⟩:=q0.1 h;rw[u7]at h1;refine⟨h1,λq z b f j=>?_⟩;exact q1.1 (e q (hp z) b (by rw[v8,f];rfl) j)
def Qr{a:Λ}{s:ao}(e:bi k sizes s)(h:tY sizes a):hh s a:=by
 have p:=e.vars;refine⟨by rw[h.1,p],λi x v f q=>.inr ?_⟩;obtain⟨z,j⟩:=aF (l:=sizes) (i:=i) (by have:=(x5.1 f).1;omega);have h1:=(e.var i x z f j).1;have r:=h.2 i z v j q;omega
def Qs{m:Nat}(h:m<=11):(32:Int) ^ m<=36028797018963968:=by
 match m,h with
 |0,_=>decide
 |1,_=>decide
 |2,_=>decide
 |3,_=>decide
 |4,_=>decide
 |5,_=>decide
 |6,_=>decide
 |7,_=>decide
 |8,_=>decide
 |9,_=>decide
 |10,_=>decide
 |11,_=>decide
def Qt{sv:x3}(h:aG .i64 w sv l)(I:∀x∈l,1<=x/\x<=32):
  ai x8 Ga [sv] w λv w'=>(∃c:Int,v=Δ c/\(l.length<=11->c=aN l))/\Ext w w':=by
 refine az func29 ?_;rw[aU an.u h];refine b4.range l.length (λi n J=>Ext w J/\∃c:Int,n=Δ c/\(i<=11->c=aN (l.take i))) h.le ⟨Ext.refl _,1,rfl,λ_=>rfl⟩ ?_ ?_
 .rintro i _ J k hi ⟨a,c,rfl,e⟩ hk;obtain⟨x,f⟩:=aF (l:=l) hi;refine bA Ω ?_;rw[bb an.u ah.i Ψ (h.ext a) f,gp,aL];refine hk _ _ ⟨a,_,rfl,λq=>?_⟩;rw[e Ω,oS f];have j:=k3 (l.take (i+1)) λy p=>I y (U6 p);have h1:=Qs (m:=(l.take (i+1)).length) (by rw[o7];omega);rw[oS f]at j;exact wrap_i64 Ω Ω
 .rintro _ J k ⟨a,c,rfl,e⟩;refine b2 Ω ?_;rw[o8]at e;exact⟨⟨c,rfl,e⟩,a⟩
def Qu{f g:Int->Int}:∀{l:Λ},(∀v∈l,f v=g v)->dn k l f=dn k l g:=by
 intro l;unfold dn;generalize (k,(-1:Int))=p;induction l generalizing p with
 |nil=>intro _;rfl
 |cons v l a=>
  intro h;rw[S0,S0,show eS f p v=eS g p v by unfold eS;rw[h v (.head _)]];exact a _ λu hu=>h u (.tail _ hu)
def Qv{f:Int->Int}:∀(l:Λ)(p:Int×Int),(∀v∈l,0<=v)->(p.2= -1\/0<=p.2)->((l.foldl (eS f) p).2= -1\/0<=(l.foldl (eS f) p).2)/\(k=k):=by
 intro l;induction l with
 |nil=>intro p _ h;exact⟨h,rfl⟩
 |cons v l e=>
  intro p a h;refine e _ (λu hu=>a u (.tail _ hu)) ?_;unfold eS;split
  .exact .inr (a v (.head _))
  .exact h
section
variable{w:x4}{ei:x3}{k:Int}{sizes:Λ}{s:ao}
def Qw{f:Int->Int}{q:Nat}(a:l[q]?=σ v):dn k (l.take (q+1)) f=eS f (dn k (l.take q) f) v:=by
 unfold dn;rw[u9,a,l7,List.foldl_append];rfl
def Qx{f:Int->Int}(a:∀v∈l,0<=v):(dn k l f).2= -1\/0<=(dn k l f).2:=(Qv (k:=k) l (k,-1) a (.inl rfl)).1
def Qy{i:Nat}{x:be}(h:fR w ei k sizes s)(ao:bi k sizes s)(G:s.vars[i]?=σ x):
  ai x8 F0 [ei,Δ (i:Int)] w λr w'=>Ext w w'/\r= .tuple #[Δ (dn k (aw x) λv=>x.un.getD v.toNat 0).1,Δ (dn k (aw x) λv=>x.un.getD v.toNat 0).2]:=by
 have ap:=ot x;refine az func13 ?_;refine bk λg1 J au H P=>?_;obtain⟨szv,av,ay,aA,aB,aD,C,aE,_,Q,aG,R,aI,aJ⟩:=h.box H P;rw[aH aC.p 0 C rfl,aH aC.p 3 C rfl];refine gL (α:=Λ) (a:=aw x) (i:=i) rfl rfl b6.u an.i Ψ Q (by rw[v8,G];rfl) λaK S=>?_;have E:=dJ S;rw[aU an.u E];obtain⟨f,I⟩:∃f:Int->Int,f=λv=>x.un.getD v.toNat 0:=⟨_,rfl⟩;rw[<-I];refine mw.range (aw x).length (λq b a U=>Ext J U/\b=Δ (dn k ((aw x).take q) f).1/\a=Δ (dn k ((aw x).take q) f).2) E.le ⟨Ext.refl _,rfl,rfl⟩ ?_ ?_
 .rintro q _ _ U W X ⟨j,rfl,rfl⟩ Y;obtain⟨v,z⟩:=aF (l:=aw x) X;have Z:=(fh.1 (x6 z)).1;obtain⟨y,rfl⟩:=U9 Z.1;have A:=Qw (k:=k) (f:=f) z;have aM:=Qx (k:=k) (f:=f) (l:=(aw x).take q) λv z=>(fh.1 (U6 z)).1.1;have aa:f (y:Int)=x.un.getD y 0:=by rw[I];rfl
  refine bA Ω ?_;refine ii (λb a w'=>Ext J w'/\b=Δ (dn k ((aw x).take (q+1)) f).1/\a=Δ (dn k ((aw x).take (q+1)) f).2) (λb a w' ab=>by rw[aL];exact Y _ _ _ ab) λax L=>?_;rw[bb an.u ah.i Ψ (E.ext j) z];have M:∀{K:x3->Prop}{e:x4},Ext J e->K (Δ (f (y:Int)))->V x8 (u6 aC (Γ g1) 5) e λac=>V x8 (u5 cR ac) e λad=>V x8 (j9 cR ad (Δ (i:Int))) e λt39=>V x8 (u5 aq t39) e λae=>V x8 (j9 aq ae (Δ (y:Int))) e λaf=>V x8 (u5 am af) e K:=λ{K e}N ag=>by
   rw[aH aC.p 5 (C.ext N) rfl];refine gL (α:=Λ) (a:=x.un) (i:=i) rfl rfl cR.u aq.i Ψ (bm R N) (by rw[v8,G];rfl) λaN ak=>?_;rw[bb aq.u am.i Ψ (dJ ak) (getD_some (i:=y) Ω),<-aa];exact ag
  refine aW (λr w'=>U=w'/\r= .bool (decide ((dn k ((aw x).take q) f).2= -1\/f (y:Int)<(dn k ((aw x).take q) f).1))) ?_ λaO O=>?_
  .rintro _ _ ⟨rfl,rfl⟩;unfold eS at A;rw[aj];refine⟨λB=>M j (L _ _ _ ⟨j,?_,?_⟩),λB=>L _ _ _ ⟨j,?_,?_⟩⟩
   .rw[A,if_pos B]
   .rw[A,if_pos B]
   .rw[A,if_neg B]
   .rw[A,if_neg B]
  .rw[aR,aj];refine⟨λal=>O _ _ ⟨rfl,by rw[decide_eq_true (.inl Ω)]⟩,λal=>?_⟩;refine M j ?_;rw[aR];refine O _ _ ⟨rfl,?_⟩;congr 1;exact decide_eq_decide.2 ⟨.inr,λh=>h.resolve_left λh=>Ω⟩
 .rintro _ _ U W ⟨j,rfl,rfl⟩;rw[o8];exact b2 Ω ⟨H.trans j,rfl⟩
end
abbrev lC:Type:=l1 .u8×Int×Int×Int×Int
structure gi where
 d:Int
 i:Int
 pos:Int
 v:Int
 c:Int
def gi.ok(a:gi):Prop:=0<=a.d/\a.d<256
def gi.kind(a:gi):Nat:=(a.d % 7).toNat
def gi.bV(a:gi):List x3:=[.int .u8 a.d,Δ a.i,Δ a.pos,Δ a.v,Δ a.c]
def nj(x:lC):gi:=⟨x.1.val,x.2.1,x.2.2.1,x.2.2.2.1,x.2.2.2.2⟩
def Qz{R:af}{cs:List x3}{x:lC}(h:Seen R w cs x):cs=(nj x).bV:=by
 obtain⟨q,_,_,_,rfl,_,_,_,a,r,_,_,_,rfl,_,_,_,e,s,_,_,_,rfl,_,_,_,f,y,z,_,_,rfl,_,_,_,j,p⟩:=h;have a:q=[.int .u8 x.1]:=a;have e:r=[Δ x.2.1]:=e;have f:s=[Δ x.2.2.1]:=f;have j:y=[Δ x.2.2.2.1]:=j;have p:z=[Δ x.2.2.2.2]:=p;subst a e f j p;rfl
def QA{x:lC}(h:(n9.u8.min<=x.1.val/\x.1.val<=n9.u8.max)/\(X9.min<=x.2.1/\x.2.1<=X9.max)/\(X9.min<=x.2.2.1/\x.2.2.1<=X9.max)/\(X9.min<=x.2.2.2.1/\x.2.2.2.1<=X9.max)/\(X9.min<=x.2.2.2.2/\x.2.2.2.2<=X9.max)):(nj x).ok:=by
 have a:n9.u8.min=0:=Φ
 have e:n9.u8.max=255:=Φ
 rw[a,e]at h;exact⟨h.1.1,by have:=h.1.2;show x.1.val<256;omega⟩
def gi.one(a:gi):∀u∈a.bV,u.oneCell'=true:=by
 intro u hu;unfold gi.bV at hu;simp only[V4,List.not_mem_nil,or_false]at hu;rcases hu with rfl|rfl|rfl|rfl|rfl<;>rfl
def gi.QB(a:gi):a.kind<7:=by
 unfold gi.kind;have:=Int.emod_lt_of_pos a.d (show(0:Int)<7 by decide);omega
def tZ(k:Int)(a:gi):Int:=a.c.emod 18446744073709551616 % (k+1)
def kM(k:Int)(a:gi):gf:=⟨a.kind,a.i,a.pos,a.v,tZ k a⟩
def lD(n:aK)(s:ao)(a:gi):ao:=if a.kind=6 then(if eR n a.i a.v then dM s a.i.toNat a.v.toNat else s)else(bj n.k s (kM n.k a)).1
def xF{d:Int}{K:x3->Prop}(h:0<=d):V x8 (aJ .rem cI false true (.int .u8 d) (.int .u8 7)) w K=K (.int .u8 (((d % 7).toNat:Nat):Int)):=by
 rw[p7 Φ,Int.tmod_eq_emod_of_nonneg h];have:=Int.emod_nonneg d (show(7:Int)≠0 by decide);rw[Int.toNat_of_nonneg this]
section
variable{w:x4}{ab ad ak:Nat}{A R:af}{A9:Nat->af}{aA:af}{n:aK}{s u:ao}{t:ay}{h:List ay}{cs:List x3}{a:gi}
def EO(a:bi n.k n.sizes s){i:Int}(h:eR n i v):0<=i/\∃x,s.vars[i.toNat]?=σ x/\0<=v/\v<x.un.length:=by
 obtain⟨x,e,h1,_,f⟩:=h.var a;exact⟨h.1,x,e,h.2.2.1,by have:=h.2.2.2;omega⟩
def QC(f:cz s/\ea (dr n) s/\n.funs.length<=256)(j:bi n.k n.sizes s):cz (lD n s a)/\ea (dr n) (lD n s a)/\n.funs.length<=256:=by
 unfold lD;split
 .split
  .rename_i h;obtain⟨r,x,p,w,_⟩:=EO j h;have e:=jw (v:=a.v) p;have q:ea s (dM s a.i.toNat a.v.toNat):=xq (v:=a.v);exact⟨by rw[e];exact cz.vars f.1 p rfl,f.2.1.trans q,f.2.2⟩
  .exact f
 .exact Ql f j _
def QD(p:b3 w ab ad ak A R A9 aA n s u t h cs){i:Nat}{x:be}(C:u.vars[i]?=σ x):∃g cap y gy e,cs[3]?=σ (.slice (σ ⟨g,0,ν⟩) u.vars.length cap)/\w.cell? ⟨g,0+i*1,ν⟩=σ y/\au .i64 e w gy y (aw x)/\(∀r,leads y r->A9 0 r)/\
  ∀{J U:x4}{m:Int}{z:x3}{K:Unit->x4->Prop},Ext w J->ae (λr=>leads y r) J U->au .i64 e U gy z (aw {x with mask:=m})->(∀r,leads z r->leads y r)->(∀L,cm w ab ad ak A R A9 aA n s t h {u with vars:=u.vars.set i {x with mask:=m}} L->K () L)->
   aB x8 (o9 an (.pointer (σ ⟨g,0+i*1,ν⟩)) z) U K:=by
 have M:=p.olds;have aK:=(x5.1 C).1;obtain⟨szv,ai,aL,aM,aN,aO,N,_,aj,_,_,_,_,am⟩:=id M.doc;obtain⟨g,cap,full,ao,c,ap,e,E,aq,F,O,P,Q,av,ax⟩:=D3 (i:=i) (a:=aw x) aj (by rw[v8,C];rfl) λr _ h=>(am rfl).2 0 r h;obtain⟨y,rfl⟩:=V2.1 (al.len P);rw[u7]at e;have ay:full[i]?=σ y:=by have:=O 0 y rfl;simpa[show al.n (Λ)=1 from rfl]using this
 obtain⟨gy,az,S,aC⟩:=zO P;have j:∀r,leads y r->ap r:=λr f=>by
  rcases aC with rfl|aD
  .obtain⟨_,_,_,e,_⟩:=f;cases e
  .obtain⟨e,_⟩:=bR S f;rw[e];exact aD
 refine⟨g,cap,y,gy,az,by rw[N,<-e];rfl,by have:=E.cell (o:=i) ay;rw[X6,U4];exact this,S,λr f=>(Q r (j r f)).1,λ{J U m V K}G H W X aE=>?_⟩;have aP:=G.size;have aQ:=H.size;have F:i*1+1<=full.length:=F;obtain⟨_,_,_,Y⟩:=c8 W.ls;have Z:¬leads y g:=λh=>av (j g h);refine bp (o:=0+i*1) an.i (by rw[Y];rfl) (by rw[Y];rfl) ((E.ext G).aa H Z) Ω λaf ag aR B=>?_;have B:ac af g ao (over full (i*1) [V]):=by
  have e:=D4 (full:=full) (c:=[y]) (o:=i*1) (q:=0) (x:=V) O F Ξ;rw[X6]at B;rw[Nat.add_zero]at e;rw[e]at B;exact B
 have aS:g<w.heap.size:=E.lt;have I:ae (λr=>leads y r\/r=g) w af:=((G.aa _).trans (H.mono λr _ h=>.inl h)).trans (ag.mono λr _ h=>.inr h);have aF:=br W ag λr f he=>by have he:r=g:=he;exact Z (he▸X r f)
 have aG:=ax I (λr _ h=>h.imp (j r) id) B (na (R:=aA) aF) λr f=>.inl (j r (X r f));have ah:∀r,r<w.heap.size->(leads y r\/r=g)->A9 0 r/\r<w.heap.size:=λr f h=>h.elim (λh=>Q r (j r h)) λh=>by rw[h];exact aq
 obtain⟨cn,aH,aI⟩:=M.ol (u':={u with vars:=u.vars.set i {x with mask:=m}}) (λq r h=>h.2) (v:=ai) (by rw[N];rfl) I ah (by show bl _ _ _ _ ((u.vars.set i {x with mask:=m}).map aw);rw[U8];exact aG) rfl (pF C rfl) (pF C rfl) rfl rfl;refine aE _ ⟨I.mono λr f h=>.inl ⟨0,(ah r f h).1⟩,cn,cs,aH,λq r f=>?_⟩;rcases aI q r f with⟨aJ,h⟩|h
 .exact .inl ⟨aJ,h.1⟩
 .exact .inr h
end
section
variable{Z aA:af}{w w':x4}{ab ad ak:Nat}{A R:af}{A9:Nat->af}{n:aK}{s s':ao}{t:ay}{cs:List x3}{a:gi}
def kd(Z aA:af)(w:x4)(ab ad ak:Nat)(n:aK)(s':ao)(w':x4):Prop:=ae (λr=>Z r/\¬aA r) w w'/\∃jA,(∀r,jA r->Z r\/w.heap.size<=r)/\fa jA aA w' ab ad ak n s'
def fa.QE{aI:af}{cn:Nat->af}{bn:ay}(p:b3 w ab ad ak A R A9 aA n s s t [] cs)(f:∀r,Z r↔ic A R A9 aA ak r)(I:cz s'/\ea (dr n) s'/\n.funs.length<=256)(x:¬Z 0)(K:Laid w)(y:ae (eA w) w J)(z:Grow A w aI J)(j:∀q r,cn q r->A9 q r)(L:cm J ab ad ak aI R cn aA n s' bn [] s' U):kd Z aA w ab ad ak n s' U:=by
 obtain⟨B,C,bB,M,N⟩:=L;have Q:=y.size;have S:=B.size;have O:=p.Eo;have E:ae (λr=>Z r/\¬aA r) w U:=((tI z.1 y).mono (T:=λr=>Z r/\¬aA r) λr _ h=>⟨(f r).2 (.inl h.1),λh'=>(p.read r h').1 h.2⟩).trans
  (B.mono λr _ h=>⟨(f r).2 (h.elim (λ⟨q,h⟩=>.inr (.inr (.inl ⟨q,j q r h⟩))) λh=>.inr (.inr (.inr (.inr h)))),h.elim (λ⟨q,h⟩=>O q r (j q r h)) λh h'=>(p.read r h').2.2 h⟩)
 have V:=p.box.lt;have e:∀{r:Nat}{F:Prop},(F->ic A R A9 aA ak r)->F->Z r\/w.heap.size<=r:=λP h=>.inl ((f _).2 (P h));have G:∀r,ic aI R (λq r=>C q r/\r<U.heap.size) aA ak r->Z r\/w.heap.size<=r:=by
  intro r a;rcases a with a|a|⟨q,a,_⟩|a|a
  .exact (z.2.1 r a).elim (e .inl) .inr
  .exact e (λh=>.inr (.inl h)) a
  .exact (N q r a).elim (λ⟨H,h⟩=>e (λh=>.inr (.inr (.inl h))) ⟨H,j H r h⟩) λh=>.inr Ω
  .exact e (λh=>.inr (.inr (.inr (.inl h)))) a
  .exact e (λh=>.inr (.inr (.inr (.inr h)))) a
 exact⟨E,λr=>ic aI R (λq r=>C q r/\r<U.heap.size) aA ak r,G,aI,R,_,bn,bB,M.olds,⟨hA E (λh=>x h.1) K,λh=>(G 0 h).elim x λh=>Ω⟩,I,λr=>Iff.rfl,λq r a=>a.2⟩
def kd.same(h:fa Z aA w ab ad ak n s)(a:Ext w w'):kd Z aA w ab ad ak n s w':=⟨a.aa _,Z,λ_ h=>.inl h,h.ext a⟩
def kd.before(a:Ext w J)(h:kd Z aA J ab ad ak n s w'):kd Z aA w ab ad ak n s w':=by
 obtain⟨c,jA,e,f⟩:=h;have:=a.size;exact⟨(a.aa _).trans c,jA,λr j=>(e r j).imp id λh=>Ω,f⟩
end
def ua(s:ao):Prop:=∀f∈s.funs,f.live≠0
def QF(n:aK):ua (dr n):=by
 intro f a;unfold dr at a;obtain⟨g,_,rfl⟩:=l9.1 a;exact(by decide:(1:Int)≠0)
def QG{a b:ao}(h:ea a b)(k:ua a):ua b:=by
 intro g q;obtain⟨j,e⟩:=List.getElem?_of_mem q;have r:=(x5.1 e).1;obtain⟨f,p⟩:=aF (l:=a.funs) (i:=j) (by have:=h.funs;omega);rw[(h.fn j f g p e).2.2.1];exact k f (x6 p)
section
variable{w:x4}{ab ad:Nat}{A R:af}{n:aK}{s:ao}{t:ay}{ei:x3}
end
def lE(w0 w:x4)(ab ad ak:Nat)(n:aK):Prop:=Ext w0 w/\∃s Z aA,fa Z aA w ab ad ak n s/\∀r,Z r->w0.heap.size<=r
section
variable{w0 w w':x4}{ab ad ak:Nat}{n:aK}{s:ao}{Z aA:af}
def lE.ext(h:lE w0 w ab ad ak n)(a:Ext w w'):lE w0 w' ab ad ak n:=by
 obtain⟨e,s,Z,aA,f,j⟩:=h;exact⟨e.trans a,s,Z,aA,f.ext a,j⟩
end
def fa.live{Z aA:af}{ab ad ak:Nat}{n:aK}{s:ao}(h:fa Z aA w ab ad ak n s):ua s/\s.funs.length<=256:=by
 obtain⟨_,_,a,e⟩:=h.ok;refine⟨QG a (QF n),?_⟩;rw[a.funs];unfold dr;rw[u7];exact e
section
variable{w:x4}{ab ad:Nat}{A R:af}{n:aK}{s:ao}{t:ay}
def xG{i:Nat}{x:be}(e:bi n.k n.sizes s)(a:s.vars[i]?=σ x)(f:v∈aw x):eZ n s (i:Int) v=x.un.getD v.toNat 0:=by
 unfold eZ;rw[if_pos (ox e a f),r8];unfold fP;rw[a]
def pJ{i:Nat}{x:be}(a:s.vars[i]?=σ x):bH s (i:Int)=aw x:=by
 unfold bH;rw[r8,a]
def QH{i:Nat}{x:be}(e:bi n.k n.sizes s)(a:s.vars[i]?=σ x):dz n s (i:Int)=dn n.k (aw x) λv=>x.un.getD v.toNat 0:=by
 unfold dz;rw[pJ a];exact Qu λv f=>xG e a f
end
section
variable{w:x4}{ab ad gy:Nat}{A R:af}{A9:Nat->af}{aA:af}{n:aK}{s s0:ao}{t:ay}{ap:List ay}{cs:List x3}
def QI{i:Nat}{S:x3}{K:x4->Prop}(p:b3 w ab ad gy A R A9 aA n s (c0 s s0 i 0) t ap cs)(aX:Laid w)(al:ea s0 s)(hi:i<n.sizes.length)(aY:S=Γ ab)(aZ:bi n.k n.sizes s0)(a2:∀w',cm w ab ad gy A R A9 aA n s t ap (c0 s s0 (i+1) 0) w'->K w'):
  ef w λB=>
  V x8 (u6 aC (Γ gy) 3) B λt22=>
  V x8 (u5 b6 t22) B λN=>
  ai x8 yW [S,Δ (i:Int)] B λa6 I=>
   (Ext B I\/bZ x8 (u5 b6 t22) N I/\bZ x8 (u6 aC (Γ gy) 3) t22 I/\True)/\
  ai x8 yZ [a6] I λa7 C=>
   (Ext B C\/bZ x8 (u5 b6 t22) N C/\bZ x8 (u6 aC (Γ gy) 3) t22 C/\True)/\
   ai x8 yY [a7] C λa8 H=>
    (Ext B H\/bZ x8 (u5 b6 t22) N H/\bZ x8 (u6 aC (Γ gy) 3) t22 H/\True)/\
   V x8 (j9 b6 N (Δ (i:Int))) H λba=>
    aB x8 (o9 an ba a8) H λ(_:Unit)x=>
    V x8 (u6 aC (Γ gy) 5) x λbb=>
  V x8 (u5 cR bb) x λbc=>
  V x8 (j9 cR bc (Δ (i:Int))) x λbd=>
  V x8 (u5 aq bd) x λbf=>
  V x8 (W9 #[aq] ah #[bf]) x λbg=>
  bU (Δ 0) x λO E bh=>
   V x8 (aJ .lss ah false false O bg) E λbj=>
   Split bj (ef E λG=>
   V x8 (u6 aC (Γ gy) 5) G λU=>
   V x8 (u5 cR U) G λau=>
   V x8 (j9 cR au (Δ (i:Int))) G λav=>
   V x8 (u5 aq av) G λt45=>
   ai x8 uT [S,Δ (i:Int),O] G λt50 y=>
    (Ext G y\/bZ x8 (u5 aq av) t45 y/\bZ x8 (u5 cR U) au y/\bZ x8 (u6 aC (Γ gy) 5) U y/\True)/\
   V x8 (Y1 t50 0) y λbk=>
    V x8 (Y1 t50 1) y λbM=>
    V x8 (j9 aq t45 O) y λt53=>
    aB x8 (o9 am t53 bk) y λ(_:Unit)W=>
    V x8 (aJ .add ah false true O (Δ 1)) W λbl=>
   bh bl W)
   (K E):=by
 subst aY;have P:=p.dl.2.2.2.1;have bN:=P.vars;have bO:=aZ.vars;have ax:=al.vars;have bP:=P.dQ.2.1;obtain⟨j,ay⟩:=aF (l:=s0.vars) (i:=i) Ω;obtain⟨f,J⟩:=aF (l:=s.vars) (i:=i) Ω;obtain⟨z,X⟩:=aF (l:=n.sizes) (i:=i) hi;obtain⟨bm,Q⟩:=al.var i j f ay J;have bQ:=(P.var _ f z J X).1;have bS:=P.dQ.2.2 z (x6 X);have az:(c0 s s0 i 0).vars[i]?=σ j:=by
  show(dB s.vars s0.vars i)[i]?=_;rw[Ej ax Ω];exact ay
 intro B Y _ _;have Z:=p.ext Y;have bn:=aX.ext Y;obtain⟨bT,bV,bW,bo,bX,bY,b0,bp⟩:=Ew Z az;rw[aH aC.p 3 Z.box bo];refine(iE (i:=(i:Int)) Z.dl).mono ?_;rintro _ I _ ⟨⟨b1,b4,rfl,aE⟩,ac⟩;refine⟨.inl ac,?_⟩;refine l6.mono ?_;rintro _ C _ ⟨aI,a1,rfl,b5,ae⟩;refine⟨.inl (ac.trans aI),?_⟩;have aK:=j3 aE Ω (by rw[r8];exact J);have af:=ac.trans aI;refine(wi (L:=aw f) (l5 (g:=a1) aE.1) (λk vs w hk=>by
    obtain⟨v,ag,rfl⟩:=hk;exact⟨v,by rw[<-aK,v8,ag];rfl,rfl⟩) (λa b M aM=>⟨aM.1.aa M λh=>by have:=ae.lt;have h:C.heap.size<=a1:=h;omega,hA M (λh=>by have h:C.heap.size<=0:=h;have:=ae.lt;omega) aM.2⟩) ⟨ae,bn.ext af⟩ (by rw[<-aK,u7]) (by have:=ot f;omega)).mono ?_
 rintro _ H _ ⟨bq,b7,b9,aN⟩;have aO:=af.trans bq;refine⟨.inl aO,?_⟩;have ca:=af.size;refine bp (m:=f.mask) aO (by rw[Pw Q];exact aN) (λr br=>by obtain⟨cb,_⟩:=bR aN br;omega) λx d13=>?_;obtain⟨cc,cd,ce,aP,cg⟩:=id d13;have aQ:i<(c0 s s0 i 0).vars.length:=(x5.1 az).1;have aR:({c0 s s0 i 0 with vars:=(c0 s s0 i 0).vars.set i {j with mask:=f.mask}}:ao).vars[i]?=σ {j with mask:=f.mask}:=b8 aQ;obtain⟨ch,ci,aS,bt,bu,aj,_⟩:=ri aP aR;have aj:aG .i64 x aS j.un:=aj;rw[aH aC.p 5 aP.box bt,eK cR.u aq.i (x5.1 aR).1 λ_=>rfl,aD (v:=aS) (o:=0+i*1) Ψ (by rw[X6,U4];exact bu),aU aq.u aj];have bw:cm w ab ad gy A R A9 aA n s t ap {c0 s s0 i 0 with vars:=(c0 s s0 i 0).vars.set i {({j with mask:=f.mask}:be)with un:=dB f.un j.un 0}} x:=cm.comp (Y.aa _) (λq r h=>.inl ⟨q,h⟩) d13;refine bU.range j.un.length (λv E=>cm w ab ad gy A R A9 aA n s t ap {c0 s s0 i 0 with vars:=(c0 s s0 i 0).vars.set i {({j with mask:=f.mask}:be)with un:=dB f.un j.un v}} E) Ω bw ?_ ?_
 .rintro v E bB ag d14 bC;obtain⟨tZ,cj,ck,bD,bE⟩:=id d14;obtain⟨c,M⟩:=aF (l:=f.un) (i:=v) Ω;refine bA Ω ?_;intro G aT _ _;have ak:=bD.ext aT;have aV:({c0 s s0 i 0 with vars:=(c0 s s0 i 0).vars.set i {({j with mask:=f.mask}:be)with un:=dB f.un j.un v}}:ao).vars[i]?=σ {({j with mask:=f.mask}:be)with un:=dB f.un j.un v}:=b8 aQ;obtain⟨cl,cn,bF,bG,bH,cp,bI⟩:=ri ak aV;rw[aH aC.p 5 ak.box bG,eK cR.u aq.i (x5.1 aV).1 λ_=>rfl,aD (v:=bF) (o:=0+i*1) Ψ (by rw[X6,U4];exact bH)];refine(m3 (i:=(i:Int)) (v:=(v:Int)) ak.dl).mono ?_;rintro _ y _ ⟨rfl,aW⟩;refine⟨.inl aW,?_⟩;have bJ:eR n i v:=⟨Ω,Ω,Ω,by rw[r8,u4,X,V5];omega⟩;have bK:fP s (i:Int).toNat (v:Int).toNat=c:=by
   unfold fP;rw[r8,J,r8];show f.un.getD v 0=c;rw[u4,M];rfl
  rw[if_pos bJ,bK,bx,bz];refine bI aW (by show v<(dB f.un j.un v).length;rw[xt Q];exact ag) λW d17=>?_;rw[aL];refine bC _ ?_;have bL:=cm.comp tZ bE (cm.comp (aT.aa _) (λq r h=>.inl ⟨q,h⟩) d17.xx);have e:ev {c0 s s0 i 0 with vars:=(c0 s s0 i 0).vars.set i {({j with mask:=f.mask}:be)with un:=dB f.un j.un v}} i {({j with mask:=f.mask}:be)with un:=dB f.un j.un v} ((dB f.un j.un v).set v c)={c0 s s0 i 0 with vars:=(c0 s s0 i 0).vars.set i {({j with mask:=f.mask}:be)with un:=dB f.un j.un (v+1)}}:=by
   unfold ev;simp only;rw[List.set_set,tM Q M]
  rw[<-e];exact bL
 .rintro E bB d14;refine b2 Ω (a2 _ ?_);have e:({c0 s s0 i 0 with vars:=(c0 s s0 i 0).vars.set i {({j with mask:=f.mask}:be)with un:=dB f.un j.un j.un.length}}:ao)=c0 s s0 (i+1) 0:=by
   rw[tL Q,Pv bm];show(⟨s.zero,(dB s.vars s0.vars i).set i f,dB s.funs s0.funs 0,s0.cP⟩:ao)=_;rw[tM ax J];rfl
  rw[<-e];exact d14
end
def set_self{α:Type}{l:List α}{i:Nat}{x:α}(h:l[i]?=σ x):l.set i x=l:=by
 refine Y9 λj=>?_;by_cases e:i=j
 .subst e;rw[b8 (x5.1 h).1,h]
 .rw[Y4 e]
section
variable{w:x4}{ab ad gy:Nat}{A R:af}{A9:Nat->af}{aA:af}{n:aK}{s s0:ao}{t:ay}{ap:List ay}{cs:List x3}
def QJ{j m:Nat}{Y:x3}{K:x4->Prop}(p:b3 w ab ad gy A R A9 aA n s (c0 s s0 m j) t ap cs)(Z:ea s0 s)(ac:j<s0.funs.length)(aU:∀f∈s0.funs,f.live≠0)(aV:Y=Γ ab)(aW:∀w',cm w ab ad gy A R A9 aA n s t ap (c0 s s0 m (j+1)) w'->K w'):
  V x8 (u6 aC (Γ gy) 6) w λaY=>
  V x8 (u5 dp aY) w λaZ=>
  V x8 (j9 dp aZ (Δ (j:Int))) w λa1=>
  V x8 (u6 cW a1 0) w λt66=>
  V x8 (u6 aX t66 1) w λa2=>
  V x8 (u5 an a2) w λa6=>
  ai x8 uS [a6] w λae C=>
  V x8 (W9 #[b6] ah #[ae]) C λt70=>
  bU (Δ 0) C λE z a7=>
   V x8 (aJ .lss ah false false E t70) z λa8=>
   Split a8 (V x8 (j9 b6 ae E) z λba=>
   V x8 (u5 an ba) z λbb=>
   ef z λB=>
   V x8 (u6 aC (Γ gy) 6) B λt77=>
   V x8 (u5 dp t77) B λaf=>
   V x8 (j9 dp af (Δ (j:Int))) B λaj=>
   V x8 (u6 cW aj 0) B λL=>
   V x8 (u6 aX L 2) B λM=>
   V x8 (u5 aq M) B λak=>
   ai x8 y0 [Y,Δ (j:Int),bb] B λau x=>
    (Ext B x\/bZ x8 (u5 aq M) ak x/\bZ x8 (u6 aX L 2) M x/\bZ x8 (u6 cW aj 0) L x/\bZ x8 (u5 dp t77) af x/\bZ x8 (u6 aC (Γ gy) 6) t77 x/\True)/\
   V x8 (Y1 au 0) x λbd=>
    V x8 (Y1 au 1) x λbN=>
    V x8 (j9 aq ak E) x λbe=>
    aB x8 (o9 am be bd) x λ(_:Unit)N=>
    V x8 (aJ .add ah false true E (Δ 1)) N λbf=>
   a7 bf N)
   (K z):=by
 subst aV;have av:=p.dl.2.2.2.1;have aw:=Z.funs;obtain⟨f0,O⟩:=aF (l:=s0.funs) ac;obtain⟨f1,G⟩:=aF (l:=s.funs) (i:=j) Ω;obtain⟨bg,ax,ay,P⟩:=Z.fn j f0 f1 O G;have bi:=aU f0 (x6 O);have bj:f1.live≠0:=by rw[ay];exact bi
 have az:=x6 G;obtain⟨bk,bl,_⟩:=av.funs f1 az;obtain⟨aE,bO⟩:=kG av az;have bn:f1.ag.length=f1.sc.length:=by rw[bl];simp[bI]
 have Q:(c0 s s0 m j).funs[j]?=σ f0:=by
  show(dB s.funs s0.funs j)[j]?=_;rw[Ej aw ac];exact O
 have bo:=(x5.1 Q).1;obtain⟨szv,bP,bQ,bR,bS,bT,bp,_,_,_,_,_,bq,_⟩:=p.look;rw[aH aC.p 6 bp rfl];refine jM (i:=j) rfl dp.u cW.i bq (by rw[v8,Q];rfl) λb o bV H I=>?_;obtain⟨bW,aI,v3,rfl,h1,S,bX⟩:=nb I;rw[aS cW.p rfl,aS aX.p rfl,aD (v:=aI) Ψ (H 1 _ rfl)];have S:aG .i64 w aI f1.ag:=by rw[ax];exact dJ S
 refine(vx f1.ag S ⟨by rw[bn];exact bk.scope.2,aE⟩).mono ?_;rintro br C _ ⟨U,W⟩;have bY:=U.size;rw[gq b6.u W];have bt:=p.olds.ext U;have bu:cm C ab ad gy A R (λq r=>A9 q r/\r<w.heap.size) aA n s t ap {c0 s s0 m j with funs:=(c0 s s0 m j).funs.set j {f0 with cs:=dB f1.cs f0.cs 0}} C:=by
  have e:({c0 s s0 m j with funs:=(c0 s s0 m j).funs.set j {f0 with cs:=dB f1.cs f0.cs 0}}:ao)=c0 s s0 m j:=by
   show({c0 s s0 m j with funs:=(c0 s s0 m j).funs.set j f0}:ao)=_;rw[set_self Q]
  rw[e];exact cm.same bt (Ext.refl _)
 have b0:=p.box.lt;refine bU.range (bc f1.ag).length (λk z=>(cm C ab ad gy A R (λq r=>A9 q r/\r<w.heap.size) aA n s t ap {c0 s s0 m j with funs:=(c0 s s0 m j).funs.set j {f0 with cs:=dB f1.cs f0.cs k}} z)/\Seen (λr=>w.heap.size<=r/\r<C.heap.size) z [br] (bc f1.ag)) (mG W) ⟨bu,nK W λr H h=>⟨h.elim id False.elim,H⟩⟩ ?_ ?_
 .rintro k z bw hk ⟨d20,aK⟩ bB;obtain⟨bC,b1,b4,bD,aM⟩:=id d20;obtain⟨tl,aN⟩:=aF (l:=bc f1.ag) hk;obtain⟨c,I⟩:=aF (l:=f1.cs) (i:=k) Ω;have aP:=iS aE aN;refine bA Ω ?_;refine gL (α:=Λ) (a:=tl) rfl rfl b6.u an.i Ψ aK aN λaO bE=>?_;intro B J _ _;have X:=bD.ext J;have aQ:({c0 s s0 m j with funs:=(c0 s s0 m j).funs.set j {f0 with cs:=dB f1.cs f0.cs k}}:ao).funs[j]?=σ {f0 with cs:=dB f1.cs f0.cs k}:=b8 bo;obtain⟨b5,cap,eM,eN,y,bF,bG,_,b7,bH⟩:=Eu X aQ;rw[aH aC.p 6 X.box bF,eK dp.u cW.i (x5.1 aQ).1 λ_=>rfl,aS cW.p rfl,aS aX.p rfl,aD (v:=y) (o:=0+j*4+0+2) Ψ (by rw[X6];exact bG 2 _ rfl)];refine(tz (j:=j) X.dl ((dJ (iO bE)).ext J)).mono ?_;rintro _ x _ ⟨rfl,aR⟩;refine⟨.inl aR,?_⟩;obtain⟨bJ,bK⟩:=xy G bj aP;have bL:m4 s j tl=c:=by
   rw[bK];unfold bh;rw[aP];simp only;rw[r8,u4,I];rfl
  rw[if_pos bJ,bL,bx,bz];refine bH aR (by show k<(dB f1.cs f0.cs k).length;rw[xt P];omega) λN d23=>?_;rw[aL];have aT:=cm.comp bC aM (cm.comp (J.aa _) (λq r h=>.inl ⟨q,h⟩) d23);have e:dG {c0 s s0 m j with funs:=(c0 s s0 m j).funs.set j {f0 with cs:=dB f1.cs f0.cs k}} j {f0 with cs:=dB f1.cs f0.cs k} ((dB f1.cs f0.cs k).set k c)={c0 s s0 m j with funs:=(c0 s s0 m j).funs.set j {f0 with cs:=dB f1.cs f0.cs (k+1)}}:=by
   unfold dG;simp only;rw[List.set_set,tM P I]
  rw[e]at aT;refine bB _ ⟨aT,?_⟩;obtain⟨bM,b9,ca,cb,cc⟩:=id d23;refine al.aa (bm aK J) bM λr H h h'=>?_;have h:=h.elim False.elim id;rcases h' with⟨q,h'⟩|h'
  .rcases aM q r h' with⟨cd,h'⟩|h'
   .have:=h'.2;omega
   .omega
  .have h':r=gy:=h';omega
 .rintro z bw ⟨d20,_⟩;refine b2 Ω (aW _ ?_);have e:({c0 s s0 m j with funs:=(c0 s s0 m j).funs.set j {f0 with cs:=dB f1.cs f0.cs (bc f1.ag).length}}:ao)=c0 s s0 m (j+1):=by
   rw[show(bc f1.ag).length=f0.cs.length by omega,tL P,Px ⟨bg,ax,ay⟩];show(⟨s.zero,dB s.vars s0.vars m,(dB s.funs s0.funs j).set j f1,s0.cP⟩:ao)=_;rw[tM aw G];rfl
  rw[<-e];exact cm.comp (U.aa _) (λq r h=>.inl ⟨q,h.1⟩) d20
end
section
variable{w:x4}{ab ad ak:Nat}{A R:af}{A9:Nat->af}{aA:af}{n:aK}{s s0:ao}{t:ay}{ap:List ay}{cs:List x3}
def xH(p:b3 w ab ad ak A R A9 aA n s s0 t ap cs)(ao:Laid w)(H:ea s0 s)(I:bi n.k n.sizes s0)(aK:∀f∈s0.funs,f.live≠0)(aM:s0.funs.length<=1000)(aN:s0.cP.length<=1000):
  ai x8 FZ [Γ ab,.agg cs.toArray] w λr w'=>Ext w w'/\∃e bB,r= .agg bB.toArray/\fQ true e aA w' bB n.k n.sizes s/\∀q r,e q r->w.heap.size<=r:=by
 have bl:=I.dQ.2.1;have bm:=I.vars;obtain⟨aO,bn⟩:=bt.len p.doc;have bo:=rn ao;refine az func12 ?_;refine bk λg1 J bp aq P=>?_;have P:ac J g1 aC cs:=P;refine bw aC.i λgt U bq au av=>?_;have L:=aq.trans au;rw[bE aC.p aC.i aO (P.ext au).range];refine(O8 (p.doc.ext L) (λr a=>by have:=(p.read r a).2.1;have:=L.size;omega) I aM aN).mono ?_;rintro _ x _ ⟨Q,e,bB,rfl,aw,B⟩;obtain⟨aP,aQ⟩:=bt.len aw;have br:=L.size;have bu:=aq.size;have z3:=Q.size;have lt:=av.lt;refine bw aC.i λgy bx bz aR aT=>?_;refine b1 (vs:=bB) aC.i aP rfl aQ aT λy aV bC ax=>?_;have M:Ext x y:=aR.put aV Ω;have S:=(L.trans Q).trans M;have bD:=M.size;have bF:=ax.lt;have ay:b3 y ab ad gy A R (λq r=>e q r/\r<x.heap.size) aA n s s0 t ap bB:=by
  have N:=p.ext S;refine⟨N.dl,N.ho,ax,(bt.old aw).ext M,λq r a=>⟨λh=>?_,λh=>?_,by have:=a.2;omega⟩,λr a=>⟨(N.read r a).1,(N.read r a).2.1,by have:=(p.read r a).2.1;omega⟩,λh=>?_,λh=>?_⟩
  .have:=ml p.dl r (.inl h);have:=B q r a.1;omega
  .have:=ml p.dl r (.inr h);have:=B q r a.1;omega
  .have:=ml p.dl gy (.inl h);omega
  .have:=ml p.dl gy (.inr h);omega
 refine(pA ay.dl).mono ?_;rintro _ bG _ ⟨rfl,aB⟩;have aW:=ay.ext aB;rw[aS aC.p rfl];refine Ev aW λaX d7=>?_;have aD:cm y ab ad gy A R (λq r=>e q r/\r<x.heap.size) aA n s t ap (c0 s s0 0 0) aX:=cm.comp (aB.aa _) (λq r h=>.inl ⟨q,h⟩) d7;obtain⟨bH,bI,bJ,aY,bK⟩:=id aD;obtain⟨szv,bL,bM,bN,bO,bP,aZ,a1,_⟩:=aY.look;rw[aH aC.p 1 aZ rfl,aU an.u a1];have a2:∀{z:x4},ae (λr=>(∃q,e q r/\r<x.heap.size)\/r=gy) y z->Laid z:=λa6=>hA a6 (λh=>by
  rcases h with⟨q,h,_⟩|h
  .have:=B q 0 h;omega
  .omega) (ao.ext S)
 refine bU.range n.sizes.length (λi z=>cm y ab ad gy A R (λq r=>e q r/\r<x.heap.size) aA n s t ap (c0 s s0 i 0) z) Ω aD ?_ ?_
 .rintro i z C hi d8 W;obtain⟨X,a7,a8,Y,aE⟩:=id d8;refine bA Ω ?_;refine QI (K:=λZ=>V x8 (aJ .add ah false true (Δ (i:Int)) (Δ 1)) Z λt55=>C t55 Z) Y (a2 X) H hi rfl I λZ d14=>?_;rw[aL];exact W _ (cm.comp X aE d14)
 rintro z C d8;refine b2 Ω ?_;obtain⟨X,a7,a8,Y,aE⟩:=id d8;obtain⟨_,_,_,_,bQ,_,ba,_,_,_,_,_,bb,_⟩:=Y.look;have bc:(c0 s s0 n.sizes.length 0).funs.length=s0.funs.length:=xt H.funs;rw[aH aC.p 6 ba rfl,gq dp.u bb,u7,bc];refine bU.range s0.funs.length (λj O=>cm y ab ad gy A R (λq r=>e q r/\r<x.heap.size) aA n s t ap (c0 s s0 n.sizes.length j) O) Ω d8 ?_ ?_
 .rintro j O C bd d18 W;obtain⟨E,af,ag,G,aj⟩:=id d18;refine bA Ω ?_;refine QJ (K:=λal=>V x8 (aJ .add ah false true (Δ (j:Int)) (Δ 1)) al λbe=>C be al) G H bd aK rfl λal d20=>?_;rw[aL];exact W _ (cm.comp E aj d20)
 rintro O C d18;refine b2 Ω ?_;rw[show n.sizes.length=s0.vars.length by omega,Pu H]at d18;obtain⟨E,af,ag,G,aj⟩:=d18;obtain⟨am,bf⟩:=bt.len G.doc;have bR:=E.size;rw[bE aC.p aC.i am G.box.range];have aF:∀r,(∃q,e q r/\r<x.heap.size)\/r=gy->U.heap.size<=r:=λr a=>by
  rcases a with⟨q,h,_⟩|h
  .exact B q r h
  .omega
 have bg:ac O gt aC _:=((av.ext Q).ext M).aa E λh=>by have:=aF gt h;omega
 refine b1 (vs:=ag) aC.i am rfl bf bg λbS aG bT bh=>?_;rw[fb aC.p aC.i am bh.range];have aI:∀q r,af q r->U.heap.size<=r:=λq r a=>by
  rcases aj q r a with⟨bj,h,_⟩|h
  .exact B bj r h
  .omega
 refine⟨(S.then E λr a h=>by have:=aF r h;omega).then aG λr a h=>by have h:r=gt:=h;omega,af,ag,rfl,G.doc.aa aG λr a h h'=>?_,λq r h=>by have:=aI q r h;omega⟩;have h':r=gt:=h';rcases h with⟨q,h⟩|h
 .have:=aI q r h;omega
 .have:=(p.read r h).2.1;omega
end
section
variable{w:x4}{ab ad ak:Nat}{A R S:af}{A9:Nat->af}{aA:af}{n:aK}{s s0:ao}{t:ay}{ap:List ay}{cs:List x3}
def QK{all:x3}{L:List (Λ)}(p:b3 w ab ad ak A R A9 aA n s s0 t ap cs)(V:Laid w)(M:ea s0 s)(N:bi n.k n.sizes s0)(W:∀f∈s0.funs,f.live≠0)(X:s0.funs.length<=1000)(Y:s0.cP.length<=1000)(Z:cz s0)(aa:cz s)(B:Seen S w [all] L)(ae:∀a∈L,hh s0 a)(af:∀a,hh s0 a->eW n.k s a=eW n.k s0 a):
  ai x8 F4 [Γ ab,.agg cs.toArray,all] w λr w'=>r= .bool true/\Ext w w':=by
 obtain⟨ag,aI⟩:=bt.len p.doc;refine az func15 ?_;refine bk λg1 J aJ e j=>?_;have j:ac J g1 aC cs:=j;rw[bE aC.p aC.i ag j.range];refine(xH (p.ext e) (V.ext e) M N W X Y).mono ?_;rintro _ U _ ⟨ah,aK,bB,rfl,O,aM⟩;obtain⟨al,am⟩:=bt.len O;refine bw aC.i λgy aN aP ao aq=>?_;refine b1 (vs:=bB) aC.i al rfl am aq λq au aQ av=>?_;have P:Ext U q:=ao.put au Ω;have C:=ah.trans P;have E:=e.trans C;have aw:kH q g1 n.k n.sizes s0:=fR.box (fQ.pD (p.ext e).doc) C (j.ext C);have ax:kH q gy n.k n.sizes s:=fR.box (fQ.pD O) P av;rw[gq b6.u (bm B E)];refine b4.range L.length (λi _ G=>Ext q G) (mG B) (Ext.refl _) ?_ ?_
 .rintro i ay G aB hi x aD;obtain⟨tl,Q⟩:=aF (l:=L) hi;have H:=ae tl (x6 Q);refine bA Ω ?_;refine gL (α:=Λ) (a:=tl) rfl rfl b6.u an.i Ψ (bm B (E.trans x)) Q λaO y=>?_;have y:=dJ (iO y);intro aR I _ _;have K:=x.trans I;refine(ax.ext K).load λaS aE=>?_;refine(aw.ext K).load λei aG=>?_;refine(D5 aE p.dl.2.2.2.1 aa (Eh M H) (y.ext I)).mono ?_;rintro _ aT _ ⟨rfl,z⟩;refine⟨.inl z,(D5 (aG.ext z) N Z H (y.ext (I.trans z))).mono ?_⟩;rintro _ aU _ ⟨rfl,aH⟩;rw[af tl H,bN,aj];refine⟨λh=>absurd rfl h,λ_=>?_⟩;rw[aL];exact aD _ _ ((K.trans z).trans aH)
 .rintro ay G aB x;exact b2 Ω ⟨rfl,E.trans x⟩
end
def EP{p:x3}(aF:aG .u8 w p pl)(V:Bytes pl)(a2:e5 w):ai x8 F9 [p] w (Py w (pl.take 300)):=by
 refine az func25 ?_;refine bw aC.i λz J bO ag Y=>?_;have Y:ac J z aC z12:=Y;rw[aU cM.u (aF.ext ag),lW];refine Jp (i:=min pl.length 300) Ω cM.u cI.i (aF.ext ag) Ω λbP ak=>?_;have a6:pl.take (min pl.length 300)=pl.take 300:=by
  by_cases h:pl.length<=300
  .rw[Nat.min_eq_left h,o8,j4 h]
  .rw[Nat.min_eq_right Ω]
 rw[a6]at ak;have Z:Bytes (pl.take 300):=λb a=>V b (U6 a);have a7:(pl.take 300).length<=300:=by rw[o7];omega
 generalize pl.take 300=q at ak Z a7;refine(Oz ak Ω).mono ?_;rintro bR U _ ⟨al,bS,am⟩;have aH:=ag.trans al;refine(Mi am.ls Z Ω (a2.ext aH)).mono ?_;rintro bT bU _ ⟨W,B⟩;have aI:=aH.trans W;cases E:gw q with
 |none=>
  rw[E]at B;obtain⟨n,e,rfl,he⟩:=B;rw[gY,gZ,ha];refine(Dk (am.ext W).ls Z Ω).mono ?_;rintro a8 an _ ⟨M,ba,bb,ao,_⟩;obtain rfl:=ao E;rw[gY,gZ,ha];refine aW (λv X=>v= .bool true/\Ext an X) ?_ ?_
  .rintro _ X ⟨rfl,H⟩;rw[bQ,dq (cs:=#[Δ 0,.slice ν 0 0,Δ 0,.slice ν 0 0,.slice ν 0 0,.slice ν 0 0,.slice ν 0 0,.slice ν 0 0]) Ψ];obtain⟨_,_,s,C⟩:=DH;refine b1 (vs:=z12) aC.i rfl rfl (by intro u hu;simp[z12]at hu;rcases hu with rfl|rfl|rfl|rfl<;>rfl) ((((Y.ext al).ext W).ext M).ext H) λbV bc bW bd=>?_;rw[fb aC.p aC.i rfl bd.range];refine⟨((aI.trans M).trans H).then bc λr B he=>by have he:r=z:=he;omega,_,_,false,rfl,⟨rfl,(DH).elim λ_ h=>by obtain⟨_,_,h⟩:=h;exact λu hu=>by simp[z12]at hu;rcases hu with rfl|rfl|rfl|rfl<;>rfl⟩,.inl ⟨rfl,rfl⟩,λf aJ=>?_⟩;rw[E]at aJ;cases aJ
  .intro ax K;rw[bN,aj];exact⟨λ_=>K _ _ ⟨rfl,Ext.refl _⟩,λh=>absurd he h⟩
 |some f=>
  rw[E]at B;obtain⟨bX,n,rfl,be⟩:=B;obtain⟨N,bg,O,bh,bi⟩:=Ox Ω E;have P:=B8 O;have ae:=w5 O;rw[gY,gZ,ha];refine(Dk (am.ext W).ls Z Ω).mono ?_;rintro a8 an _ ⟨M,ba,bb,_,ao⟩;obtain⟨bY,rfl,bj⟩:=ao f E;rw[gY,gZ,ha];refine aW (λv X=>v= .bool false/\Ext an X) ?_ ?_
  rotate_left
  .intro ax K;rw[bN,aj];refine⟨λh=>absurd rfl h,λ_=>?_⟩;rw[dc vb.u];exact K _ _ ⟨rfl,Ext.refl _⟩
  rintro _ X ⟨rfl,H⟩;rw[aY];have aK:=(aI.trans M).trans H;refine(Nq ((be.ext M).ext H) O bg ⟨bh,bi⟩).mono ?_;rintro bZ bk _ ⟨ap,bl⟩;have af:=aK.trans ap;have Q:=((((Y.ext al).ext W).ext M).ext H).ext ap;have aL:=(bj.ext H).ext ap;have b0:=af.size;have b2:w.heap.size<=z:=Ω
  have b3:=Q.lt;rcases bl with⟨bm,e,he,rfl⟩|⟨b4,rfl,bn⟩
  .rw[bx,bz];refine Oy.mono ?_;rintro _ aM _ ⟨rfl,j⟩;refine ii (λaq t4 x=>aq= .pointer ν/\t4= .bool false/\Ext w x/\∃cs:List x3,ac x z aC cs/\cs.length=8/\∀u∈cs,u.oneCell'=true) ?_ ?_
   .rintro _ _ x ⟨rfl,rfl,au,cs,av,s,C⟩;rw[fb aC.p aC.i s av.range];exact⟨au,_,cs,false,rfl,⟨s,C⟩,.inl ⟨rfl,rfl⟩,λb5 aN bo=>absurd bo (by rw[E]at aN;cases aN;exact bm)⟩
   .intro ax K;have bp:=j.size;refine(Du (aL.ext j) O).mono ?_;rintro bq aw _ ⟨y,ay⟩;refine(D1 (R:=λr=>w.heap.size<=r/\∃c,ac aw r ah c) (λr h=>h.2.elim λc a=>a.lt) (λr c V a=>⟨Ω,c,a⟩) ay P.1 ae).mono ?_;rintro br bt _ ⟨G,A9,cs,rfl,S,aB⟩;obtain⟨s,C⟩:=S.len;rw[bf,aj];refine⟨λh=>absurd h he,λ_=>?_⟩;refine b1 (vs:=cs) aC.i s rfl C (((Q.ext j).ext y).ext G) λbu L aO aD=>?_;exact K _ _ _ ⟨rfl,rfl,(((af.trans j).trans y).trans G).then L λr B he=>by have he:r=z:=he;omega,cs,aD,s,C⟩
  .rw[bx,bz];obtain⟨b6,bA,aP,bB⟩:=bn;have z5:=aK.size;refine(NM (R0:=λr=>w.heap.size<=r/\r<bk.heap.size) bA aP (λr o h I=>⟨by have:=bB r o h I;omega,(j5.1 (aP.aV r o h I)).1⟩) (λr h=>h.2) P.1 ae).mono ?_;rintro _ aM _ ⟨j,ab,ad,A,R,t,rfl,bC,aQ,aR,aS,bD⟩;have aT:bF aM ab ad A R (cH f) (dr (cH f)) t:=⟨bC,aQ,OB P.1 ae aQ aR,Nz P.1,P.1⟩;refine ii (λaq t4 x=>aq=Γ ab/\t4= .bool true/\Ext w x/\∃cs:List x3,ac x z aC cs/\cs.length=8/\(∀u∈cs,u.oneCell'=true)/\∃R' A9 aA,bF x ab ad A R' (cH f) (dr (cH f)) t/\fQ true A9 aA x cs (cH f).k (cH f).sizes (dr (cH f))/\(∀q r,A9 q r->¬A r/\¬R' r/\w.heap.size<=r)/\(∀r,aA r->¬eA x r/\r<x.heap.size/\w.heap.size<=r)/\∀r,R' r->w.heap.size<=r) ?_ ?_
   .rintro _ _ x ⟨rfl,rfl,au,cs,av,s,C,R',A9,aA,bE,S,bG,bH⟩;rw[fb aC.p aC.i s av.range];exact⟨au,_,cs,true,rfl,⟨s,C⟩,.inr ⟨rfl,f,E,ab,ad,A,R',t,N,A9,aA,O,rfl,bE,aR,λr B=>by have:=aS r B;omega,S,bG,bH⟩,λ_ _ _=>rfl⟩
   .intro ax K;have bp:=j.size;refine(Du (aL.ext j) O).mono ?_;rintro bq aw _ ⟨y,ay⟩;refine(D1 (R:=λr=>w.heap.size<=r/\∃c,ac aw r ah c) (λr h=>h.2.elim λc a=>a.lt) (λr c V a=>⟨Ω,c,a⟩) ay P.1 ae).mono ?_;rintro br bt _ ⟨G,A9,cs,rfl,S,aB⟩;obtain⟨s,C⟩:=S.len;rw[bf,aj];refine⟨λ_=>?_,λh=>absurd rfl h⟩;rw[zA ds.u];have aX:=((Q.ext j).ext y).ext G;have bI:=((af.trans j).trans y).trans G;refine b1 (vs:=cs) aC.i s rfl C aX λbu L aO aD=>?_;have aZ:=(aT.ext y).ext G;obtain⟨R',a1,bJ⟩:=aZ.1.put aX L λh=>by have:=aS z h;omega
    have b7:=((af.trans j).trans y).size;have b8:=G.size;obtain⟨_,_,_,_,⟨_,_,bK,bL⟩,_⟩:=(aT.ext y).1;have b9:=Q.lt;have ca:=(j.trans y).size;have bM:=S.aa L λr B h he=>by
     have he:r=z:=he;rcases h with⟨q,h⟩|⟨_,c,a⟩
     .have:=aB q r h;omega
     .subst he;exact absurd (ez a (((Q.ext j).ext y))) Φ
    refine K _ _ _ ⟨rfl,rfl,bI.then L λr B he=>by have he:r=z:=he;omega,cs,aD,s,C,R',A9,_,⟨bJ,aZ.2⟩,bM,λq r h=>?_,λr h=>?_,λr h=>?_⟩
    .have cb:=aB q r h;refine⟨λaE=>by have:=bL r aE;omega,λaE=>by have:=bK r (a1 r aE).1;omega,Ω⟩
    .obtain⟨V,c,a⟩:=h;have cc:=a.lt;have aO:=L.size;refine⟨Ow ((a.ext G).aa L λhe=>?_) Φ,Ω,V⟩;have he:r=z:=he;subst he;exact absurd (ez a (((Q.ext j).ext y))) Φ
    .rcases bD r (a1 r h).1 with h|h
     .exact h.1
     .omega
section
variable{Z aA:af}{w w':x4}{ab ad ak:Nat}{A R:af}{A9:Nat->af}{n:aK}{s s':ao}{t:ay}{cs:List x3}{a:gi}
def QL(h:fa Z aA w ab ad ak n s)(W:a.ok):ai x8 uR [Γ ab,Γ ak,.agg a.bV.toArray] w λ_ w'=>kd Z aA w ab ad ak n (lD n s a) w':=by
 obtain⟨A,R,A9,t,cs,p,⟨aB,Q⟩,aE,S,aF⟩:=id h;have N:=p.dl.2.2.2.1;have br:=N.fx;have bt:=a.QB;have G:¬A 0:=λh=>Q ((S 0).2 (.inl h));have X:=QC (a:=a) aE N;refine az func28 ?_;refine bk λga J bu aG Y=>?_;have Y:ac J ga c6 [.int .u8 a.d,Δ a.i,Δ a.pos,Δ a.v,Δ a.c]:=Y;intro U aJ _ _;have C:=aG.trans aJ;have B:=Y.ext aJ;have bw:=aG.size;have bx:=C.size;have bz:=B.lt;have ae:(a.d % 7).toNat=a.kind:=rfl;obtain⟨szv,bA,bB,bC,bD,bE,aV,_⟩:=p.oj;have aW:cs[0]?=σ (Δ n.k):=by rw[aV];rfl
 have hu:T3.wrap a.c=a.c.emod 18446744073709551616:=rfl;have aX:0<=a.c.emod 18446744073709551616:=Int.emod_nonneg _ Φ;have bF:=Int.emod_nonneg (a.c.emod 18446744073709551616) (show n.k+1≠0 by omega);have bG:=Int.emod_lt_of_pos (a.c.emod 18446744073709551616) (show 0<n.k+1 by omega);have aY:a.c.emod 18446744073709551616 % (n.k+1)=tZ n.k a:=rfl;rw[aH c6.p 4 B rfl,fp am.u fC.u,aP aC.p 0 (p.box.ext C) aW,aL,wrap_i64 Ω Ω,fp am.u fC.u,wrap_u64 (x:=n.k+1) Ω Ω,hu,p7 Ω,Int.tmod_eq_emod_of_nonneg aX,fp fC.u am.u,wrap_i64 Ω Ω,aY,
  aH c6.p 0 B rfl,xF W.1,ae,bf,aj]
 have E:=p.ext C;refine⟨λaf=>?_,λaf=>?_⟩
 .have af:a.kind=6:=Ω
  have H:lD n s a=if eR n a.i a.v then dM s a.i.toNat a.v.toNat else s:=by unfold lD;rw[if_pos af]
  refine dh (λw'=>kd Z aA w ab ad ak n (lD n s a) w') (λw' h=>h) λax aK=>?_;rw[aH c6.p 1 B rfl,aH c6.p 3 B rfl];refine(w3 (i:=a.i) (v:=a.v) E.dl (.inl p.ho.1)).mono ?_;rintro bH bI _ ⟨aZ,a1⟩;by_cases I:eR n a.i a.v
  rotate_left
  .obtain⟨rfl,a2⟩:=aZ I;rw[bf,aj];exact⟨λh=>absurd h Φ,λ_=>aK _ (by rw[H,if_neg I];exact kd.same h (C.trans a2))⟩
  obtain⟨rfl,aM,aI,y,ag,a6⟩:=a1 I;rw[if_pos I]at H;rw[bf,aj];refine⟨λ_=>?_,λh=>absurd rfl h⟩;have a7:=E.prog aM ag a6 E.ho.set (λ_ h=>.inl h) (λ_ _ _ h=>h) E.box.lt;obtain⟨a8,x,O,ba,bJ⟩:=EO N I;obtain⟨al,V⟩:=U9 a8;rw[V,r8]at O;intro ao ap _ _;have j:=a7.ext ap;have aq:∀r,A r->r<w.heap.size:=λr h=>ml p.dl r (.inl h);have P:=(B.aa ag.1 λh=>by have:=aq ga h;omega).ext ap;rw[V]at P;have aN:al<s.vars.length:=(x5.1 O).1;obtain⟨g,cap,aO,gy,e,au,bb,bc,bd,be⟩:=QD j O;have bK:=ot x;have bL:x.un.length<=32:=by obtain⟨bM,aQ,bN,bg,_⟩:=I.var N;rw[V,r8,O]at aQ;cases aQ;exact bg
  have av:∀r,leads aO r->r≠ga/\r≠ak:=λr f=>by
   have h1:A9 0 r/\r<U.heap.size:=bd r f;exact⟨λhe=>by have:=aF 0 r h1.1;omega,λhe=>(p.apart 0 r h1.1).2.2 he⟩
  rw[aP aC.p 3 j.box au,aH c6.p 1 P rfl,aP aC.p 3 j.box au,aH c6.p 1 P rfl,eK b6.u an.i aN λ_=>rfl,aD (v:=aO) (o:=0+al*1) Ψ bb,k0];refine(Pc (p:=λy=>decide (y=a.v)) bc Ω λw' y bh bO=>?_).mono ?_
  .refine az func73 ?_;rw[aH c6.p 3 (P.aa bh λh=>(av ga h).1 rfl) rfl,bf];exact⟨rfl,Ext.refl _⟩
  rintro bP aw _ ⟨ay,bi,bl⟩;have bm:=P.aa ay λh=>(av ga h).1 rfl;have bn:=j.box.aa ay λh=>(av ak h).2 rfl;refine⟨.inr ⟨l3 Ψ (bm.cell (o:=0+1) rfl),Go.Vc.js λK=>aS c6.p rfl,l3 Ψ (bn.cell (o:=0+3) au),Go.Vc.js λK=>aS aC.p rfl,Go.Vc.js λK=>bY,trivial⟩,?_⟩;rw[eK b6.u an.i aN λ_=>rfl];refine be (m:=((x.mask.toNat ||| 2 ^ a.v.toNat:Nat):Int)) (Ext.refl _) ay (by rw[xm ba];exact bi) bl λbQ aR=>aK _ ?_;have bo:dM s a.i.toNat a.v.toNat={s with vars:=s.vars.set al {x with mask:=((x.mask.toNat ||| 2 ^ a.v.toNat:Nat):Int)}}:=by rw[V,r8];unfold dM;rw[O]
  rw[H];rw[<-bo]at aR;have bp:=cm.comp (ap.aa _) (λq r f=>.inl ⟨q,f⟩) aR;exact kd.before C (fa.QE E S (by rw[<-H];exact X) Q (aB.ext C) aM ag (λq r (f:A9 q r/\r<U.heap.size)=>f.1) bp)
 have bR:(kM n.k a).kind=a.kind:=rfl;have H:lD n s a=(bj n.k s (kM n.k a)).1:=by unfold lD;rw[if_neg Ω]
 rw[aH c6.p 0 B rfl,xF W.1,ae,fp cI.u ah.u,wrap_i64 Ω Ω,aH c6.p 1 B rfl,aH c6.p 2 B rfl,aH c6.p 3 B rfl];refine(Qm (m:=kM n.k a) E N aE.1 Ω).mono ?_;rintro _ ao _ ⟨rfl,aT⟩;obtain⟨aU,bS,bT,j,bU⟩:=id aT;have aq:∀r,(∃q,A9 q r)\/r=ak->r<w.heap.size:=λr f=>f.elim (λ⟨q,h⟩=>aF q r h) λh=>by rw[h];exact p.box.lt
 have z:=B.aa aU λf=>by have:=aq ga f;omega
 have L:Laid ao:=hA aU (λh=>Q ((S 0).2 (h.elim (λh=>.inr (.inr (.inl h))) λh=>.inr (.inr (.inr (.inr h)))))) (aB.ext C);have M:∀{r:x3}{aw:x4},oy [] ao ab ad A R n s (kM n.k a) r aw->kd Z aA w ab ad ak n (lD n s a) aw:=λbq=>by
  rw[H]at X ⊢;exact kd.before C (fa.step E S X Q aT (Ext.refl _) bq.2)
 rw[aH c6.p 0 z rfl,xF W.1,ae,bf,aj];refine⟨λhk=>?_,λbW=>?_⟩
 .rw[aH c6.p 1 z rfl,aH c6.p 2 z rfl,aH c6.p 3 z rfl];exact(P6 (a:=kM n.k a) Ω j.dl L G j.ho.m).mono λr w' _ f=>M f
 rw[bf,aj];refine⟨λhk=>?_,λbX=>?_⟩
 .rw[aH c6.p 1 z rfl,aH c6.p 2 z rfl,aH c6.p 3 z rfl];exact(P7 (a:=kM n.k a) Ω j.dl L G j.ho.m).mono λr w' _ f=>M f
 rw[bf,aj];refine⟨λhk=>?_,λbZ=>?_⟩
 .rw[aH c6.p 1 z rfl];exact(EJ (a:=kM n.k a) Ω j.dl L G j.ho.m).mono λr w' _ f=>M f
 rw[bf,aj];refine⟨λhk=>?_,λb0=>?_⟩
 .rw[aH c6.p 1 z rfl];exact(Qd (a:=kM n.k a) Ω j.dl L G j.ho.m).mono λr w' _ f=>M f
 rw[bf,aj];refine⟨λhk=>?_,λb1=>?_⟩
 .rw[aH c6.p 1 z rfl,aH c6.p 3 z rfl];exact(EK (a:=kM n.k a) Ω j.dl L G j.ho.m).mono λr w' _ f=>M f
 .rw[aH c6.p 1 z rfl,aH c6.p 3 z rfl];exact(Qe (a:=kM n.k a) Ω j.dl L G j.ho.m).mono λr w' _ f=>M f
end
section
variable{w0 w w':x4}{ab ad ak:Nat}{n:aK}{s:ao}{Z aA:af}
def lE.QM{a:gi}(h:lE w0 w ab ad ak n)(p:a.ok):ai x8 uR [Γ ab,Γ ak,.agg a.bV.toArray] w λ_ w'=>lE w0 w' ab ad ak n:=by
 obtain⟨e,s,Z,aA,q,f⟩:=h;refine(QL q p).mono ?_;rintro v J _ ⟨x,y,A,B⟩;have z:=e.size;exact⟨e.then x λr j h=>by have:=f r h.1;omega,_,y,aA,B,λr j=>(A r j).elim (f r) λh=>Ω⟩
def QN{e:x3}{L:List lC}{K:x3->x4->Prop}{i:Nat}{x:lC}(j:Seen fc w [e] L)(q:L[i]?=σ x)(r:∀g w',Ext w w'->w.heap.size<=g->ac w' g c6 (nj x).bV->K (Γ g) w'):
  V x8 (j9 nB e (Δ (i:Int))) w λs=>
  V x8 (u5 c6 s) w λy=>
  aB x8 (Instr.alloc c6 true (.tuple #[])) w λa f=>
  aB x8 (o9 c6 a y) f λ(_:Unit)h=>K a h:=by
 refine l2 (α:=lC) c6.p rfl nB.u c6.i j q λcs z=>?_;obtain rfl:=Qz z;refine bw c6.i λgy f F A B=>?_;refine b1 (vs:=(nj x).bV) c6.i rfl rfl (gi.one _) B λh C G E=>?_;exact r _ _ (A.put C Ω) Ω E
def QO{r:x3}{L:List lC}{m:Int}{K:x4->Prop}(h:lE w0 w ab ad ak n)(e:Seen fc w0 [r] L)(H:∀x∈L,(nj x).ok)(I:∀w',lE w0 w' ab ad ak n->K w'):
  V x8 (W9 #[nB] ah #[r]) w λJ=>
 bU (Δ 0) w λj a k=>
  V x8 (aJ .lss ah false false j J) a λM=>
  Split M (ct (α:=x4->Prop) (λ(y:x4)=>
   V x8 (aJ .add ah false true j (Δ 1)) y λN=>
   k N y) λz=>
  V x8 (j9 nB r j) a λO=>
  V x8 (u5 c6 O) a λP=>
  aB x8 (Instr.alloc c6 true (.tuple #[])) a λb A=>
  aB x8 (o9 c6 b P) A λ(_:Unit)q=>
  V x8 (aJ .lss ah false true j (Δ m)) q λQ=>
  Split Q (V x8 (u5 c6 b) q λR=>
   ai x8 uR [Γ ab,Γ ak,R] q λZ B=>
   z B)
   (z q))
   (K a):=by
 rw[gq nB.u (bm e h.1)];refine bU.range L.length (λi s=>lE w0 s ab ad ak n) (mG e) h ?_ ?_
 .rintro i s S hi f U;obtain⟨x,C⟩:=aF (l:=L) hi;have W:=H x (x6 C);refine bA Ω ?_;refine dh (λa=>lE w0 a ab ad ak n) (λa X=>by rw[aL];exact U _ X) λax E=>?_;refine QN (bm e f.1) C λgy A G _ Y=>?_;rw[aR,aj];refine⟨λ_=>?_,λ_=>E _ (f.ext G)⟩;rw[bE c6.p c6.i rfl Y.range];exact((f.ext G).QM W).mono λv B _ e=>E _ e
 .rintro s S f;exact b2 Ω (I _ f)
end
def EQ(w:x4)(pl:Λ)(r:x3)(w':x4):Prop:=Ext w w'/\((∃cs:List x3,r= .tuple #[.pointer ν,.agg cs.toArray,.bool false]/\cs.length=8/\∀u∈cs,u.oneCell'=true)\/∃f ab ad ak Z aA s cs,r= .tuple #[Γ ab,.agg cs.toArray,.bool true]/\gw (pl.take 300)=σ f/\(cH f).k<=1000/\
 fa Z aA w' ab ad ak (cH f) s/\gV [] Z aA w' ab ad ak (cH f) s s cs/\∀r,Z r->w.heap.size<=r)
def QP{p aa:x3}{L:List lC}(aw:aG .u8 w p pl)(ay:∀b∈pl,0<=b/\b<256)(aD:Seen fc w [aa] L)(aE:∀x∈L,(nj x).ok)(aF:e5 w)(M:Laid w):ai x8 FV [p,aa] w (EQ w pl):=by
 have a6:=rn M;refine az func8 ?_;refine bw aC.i λj J a7 y af=>?_;have a8:=af.lt;have ba:=y.size;refine(EP (aw.ext y) ay (aF.ext y)).mono ?_;rintro _ U _ ⟨N,bb,cs,ok,rfl,⟨E,G⟩,aI,_⟩;rw[gY,gZ,ha];refine bw aC.i λak bc bd aJ aK=>?_;refine b1 (vs:=cs) aC.i E rfl G aK λH aL be O=>?_;have ag:Ext U H:=aJ.put aL Ω;have I:=N.trans ag;have ah:=y.trans I;have bf:=N.size;have out:∀{a:x4}{z:List x3}{K:x3->x4->Prop},Ext J a->ac a ak aC z->z.length=8->(∀u∈z,u.oneCell'=true)->(∀e,ae (λr=>r=j) a e->K (.agg z.toArray) e)->
   V x8 (u5 aC (Γ ak)) a λt25=>aB x8 (o9 aC (Γ j) t25) a λ(_:Unit)e=>V x8 (do loadVar aC (<-asAddr (Γ j))) e λr=>K r e:=λ{a z K}aM aN P aO aP=>by
  rw[bE aC.p aC.i P aN.range];refine b1 (vs:=z) aC.i P rfl aO (af.ext aM) λe B bg aQ=>?_;rw[fb aC.p aC.i P aQ.range];exact aP _ B
 have no:∀{e:x4},(∃a,Ext H a/\ae (λr=>r=j) a e)->EQ w pl (.tuple #[.pointer ν,.agg cs.toArray,.bool false]) e:=λ⟨a,q,aR⟩=>⟨(ah.trans q).then aR λr C h=>by have h:r=j:=h;omega,.inl ⟨cs,rfl,E,G⟩⟩;rcases aI with⟨rfl,rfl⟩|⟨rfl,f,aS,aT⟩
 .refine aW (λv Q=>Q=H/\v= .bool true) ?_ λax S=>?_
  .rintro _ _ ⟨rfl,rfl⟩;rw[bQ];intro a q _ _;exact out (I.trans q) (O.ext q) E G λe B=>no ⟨a,q,B⟩
  .rw[bJ,W3,bQ];exact S _ _ ⟨rfl,rfl⟩
 obtain⟨ab,ad,Z,aA,rfl,al,aU⟩:=Qn aT ag O Ω N.size (rn (M.ext y)) (M.ext ah);obtain⟨szv,bh,bi,bj,bk,bl,aV,_⟩:=al.look;refine aW (λv Q=>Q=H/\v= .bool (decide (1000<(cH f).k))) ?_ λax S=>?_
 rotate_left
 .rw[bJ,X3,aY,aH aC.p 0 aV rfl,bS];exact S _ _ ⟨rfl,rfl⟩
 rintro _ _ ⟨rfl,rfl⟩;rw[aj];refine⟨λhk=>?_,λhk=>?_⟩
 .intro a q _ _;exact out (I.trans q) (O.ext q) E G λe B=>no ⟨a,q,B⟩
 refine QO (w0:=J) ⟨I,_,Z,aA,al,aU⟩ (bm aD y) aE λbn aX=>?_;obtain⟨am,s,an,aZ,a1,ao⟩:=aX;intro bo W _ _;have ap:=a1.ext W;obtain⟨X,aq,a2⟩:=ap.cw;have au:X.length=8/\∀u∈X,u.oneCell'=true:=by
  obtain⟨A,R,A9,t,p,_⟩:=id aq;exact bt.len p.doc
 have av:∀r,an r->¬r=j:=λr C h=>by have:=ao r C;omega
 refine out (am.trans W) a2 au.1 au.2 λbp Y=>⟨((y.trans am).trans W).then Y λr C h=>by have h:r=j:=h;omega,.inr ⟨f,ab,ad,ak,an,aZ,s,X,rfl,aS,Ω,ap.side Y av (λh=>by have h:0=j:=h;omega),aq.side Y av (λh=>by have h:0=j:=h;omega),λr C=>by have:=ao r C;omega⟩⟩
section
variable{w:x4}{ab ad:Nat}{A R:af}{n:aK}{s:ao}{t:ay}
def QQ{i:Nat}(h:bF w ab ad A R n s t)(f:Laid w)(e:j7 n s (i:Int)=true):ai x8 y3 [Γ ab,Δ (i:Int)] w λr w'=>Ext w w'/\r= .tuple #[Δ (dz n s (i:Int)).1,Δ (dz n s (i:Int)).2,Δ 0]:=by
 obtain⟨_,x,a,_⟩:=DM h.2.2.2.1 e;rw[r8]at a;refine(OL (i:=(i:Int)) h f).mono ?_;rintro r q _ ⟨j,_,p⟩;refine⟨j,?_⟩;rw[p x e (by rw[r8];exact a)];unfold dz;rw[pJ a]
end
def QR{of:Int->Int}:(l=[]/\(dn k l of).2= -1)\/(dn k l of).2∈l:=by
 have key:∀(l:Λ)(p:Int×Int),(l.foldl (eS of) p).2=p.2\/(l.foldl (eS of) p).2∈l:=λl=>by
  induction l with
  |nil=>exact λp=>.inl rfl
  |cons v l a=>
   intro p;rw[S0];rcases a (eS of p v)with h|h
   .rw[h];unfold eS;split
    .exact .inr (.head _)
    .exact .inl rfl
   .exact .inr (.tail _ h)
 cases l with
 |nil=>exact .inl ⟨rfl,rfl⟩
 |cons v l=>
  right;unfold dn;rw[S0];have e:eS of (k,-1) v=(of v,v):=by unfold eS;rw[if_pos (.inl rfl)]
  rw[e];rcases key l (of v,v)with h|h
  .rw[h];exact .head _
  .exact .tail _ h
def gF(s:ao):Nat:=(s.vars.map λx=>(aw x).length).sum
def eH(k:Int)(s:ao):Nat:=gF s+(k-s.zero).toNat
def QS{l:List Nat}{i x y:Nat}(h:l[i]?=σ x):(l.set i y).sum+x=l.sum+y:=by
 induction l generalizing i with
 |nil=>simp at h
 |cons a l e=>
  cases i with
  |zero=>simp at h;subst h;rw[List.set_cons_zero,List.sum_cons,List.sum_cons];omega
  |succ i=>rw[List.set_cons_succ,List.sum_cons,List.sum_cons];have:=e (i:=i) (by simpa using h);omega
def ER{s:ao}{i:Nat}{x y:be}(a:s.vars[i]?=σ x):gF {s with vars:=s.vars.set i y}+(aw x).length=gF s+(aw y).length:=by
 unfold gF;rw[U8];exact QS (by rw[v8,a];rfl)
section
variable{n:aK}{s:ao}
def QT{x:be}(hm:0<=x.mask)(h:v∈aw x):(aw {x with mask:=((x.mask.toNat ||| 2 ^ v.toNat:Nat):Int)}).length<(aw x).length:=by
 have a:=(fh.1 h).1.1;have f:((x.mask.toNat:Nat):Int)=x.mask:=Ω
 have e:aw {x with mask:=((x.mask.toNat ||| 2 ^ v.toNat:Nat):Int)}=(aw x).filter λu=>decide (u≠v):=by
  unfold aw;rw[List.filter_filter];refine List.filter_congr λu hu=>?_;obtain⟨q,_,rfl⟩:=l9.1 hu;simp only;rw[xg a Ω,f];cases dropped x.mask (q:Int)<;>simp
 rw[e];refine Nat.lt_of_le_of_ne (Q0 _ _) λhe=>?_;have:=(List.filter_eq_self).1 (List.filter_sublist.eq_of_length he) v h;simp at this
def QU{i:Int}(f:bi n.k n.sizes s)(p:cz s):ib n.k n.sizes s (bj n.k s (e9 i v)).1/\(bj n.k s (e9 i v)).1.zero=s.zero/\(∀j u,eZ n (bj n.k s (e9 i v)).1 j u=eZ n s j u)/\
  ((bj n.k s (e9 i v)).2≠0->(bj n.k s (e9 i v)).1=s/\∀x,dN s i v=σ x->cT n.k s.zero (x.un.getD v.toNat 0)<n.k)/\
  ((bj n.k s (e9 i v)).2=0->gF (bj n.k s (e9 i v)).1<gF s/\v∉bH (bj n.k s (e9 i v)).1 i):=by
 have a:bj n.k s (e9 i v)=match dN s i v with
  |none=>(s,1)
  |some x=>if cT n.k s.zero (x.un.getD v.toNat 0)<n.k then(s,7)else(dM s i.toNat v.toNat,0):=by
  unfold bj e9;simp only;rw[if_neg Ω,if_neg Ω,if_neg Ω,if_neg Ω,if_pos trivial];cases dN s i v<;>rfl
 cases q:dN s i v with
 |none=>
  rw[q]at a;rw[a];exact⟨.rfl f p,rfl,λ_ _=>rfl,λ_=>⟨rfl,λx e=>by cases e⟩,λh=>by cases h⟩
 |some x=>
  rw[q]at a;simp only at a;obtain⟨E,e,F,w⟩:=j8 q;by_cases r:cT n.k s.zero (x.un.getD v.toNat 0)<n.k
  .rw[if_pos r]at a;rw[a];exact⟨.rfl f p,rfl,λ_ _=>rfl,λ_=>⟨rfl,λy A=>by cases A;exact r⟩,λh=>by cases h⟩
  .rw[if_neg r]at a;have z:=(fh.1 w).1;have B:(dM s i.toNat v.toNat).zero=s.zero:=by rw[jw e]
   have C:ib n.k n.sizes s (bj n.k s (e9 i v)).1:=Ei f p (by show 4<5;omega) (λj u hu=>by rw[a]at hu;exact((Ed f e z.1).1 hu).1) (by rw[a];show s.zero<=(dM s i.toNat v.toNat).zero;omega);refine⟨C,by rw[a];exact B,λj u=>by rw[a];exact Pr e,λh=>absurd (by rw[a]) h,λ_=>⟨?_,λhm=>?_⟩⟩
   .rw[a];show gF (dM s i.toNat v.toNat)<gF s;rw[jw e];have G:=(x5.1 e).1;have H:=f.vars;have h1:=f.var i.toNat x _ e (x7 Ω);have I:=QT h1.2.2.1 w;have:=ER (s:=s) (y:={x with mask:=((x.mask.toNat ||| 2 ^ v.toNat:Nat):Int)}) e;omega
   .rw[a]at hm;exact((Ed f e z.1).1 hm).2 rfl rfl
theorem xI{i:Int}:∀(L:Λ)(s:ao)(b:Bool),bi n.k n.sizes s->cz s->ib n.k n.sizes s (dA n.k i L (s,b)).1/\(dA n.k i L (s,b)).1.zero=s.zero/\(∀j u,eZ n (dA n.k i L (s,b)).1 j u=eZ n s j u)/\gF (dA n.k i L (s,b)).1<=gF s/\
  ((dA n.k i L (s,b)).2=false->b=false/\(dA n.k i L (s,b)).1=s)/\((dA n.k i L (s,b)).2=true->b=true\/gF (dA n.k i L (s,b)).1<gF s)/\
  ∀v∈L,v∈bH (dA n.k i L (s,b)).1 i->0<=i->∀x,s.vars[i.toNat]?=σ x->x.gone=0->cT n.k s.zero (eZ n s i v)<n.k
 |[],s,b,f,q=>⟨.rfl f q,rfl,λ_ _=>rfl,o6 _,λh=>⟨h,rfl⟩,λh=>.inl h,λ_ h=>by cases h⟩
 |v::L,s,b,f,q=>by
  obtain⟨p,G,H,r,w⟩:=QU (i:=i) (v:=v) f q;have e:dA n.k i (v::L) (s,b)=dA n.k i L ((bj n.k s (e9 i v)).1,decide ((bj n.k s (e9 i v)).2=0)||b):=rfl;obtain⟨A,P,Q,I,R,S,T⟩:=xI (i:=i) L (bj n.k s (e9 i v)).1 (decide ((bj n.k s (e9 i v)).2=0)||b) p.ok p.lA;rw[e];have J:gF (bj n.k s (e9 i v)).1<=gF s:=by
   by_cases h:(bj n.k s (e9 i v)).2=0
   .exact Nat.le_of_lt (w h).1
   .rw[(r h).1];exact o6 _
  refine⟨p.trans A,P.trans G,λj u=>(Q j u).trans (H j u),Y7 I J,λh=>?_,λh=>?_,λu hu B C x a K=>?_⟩
  .obtain⟨h1,E⟩:=R h;rw[U7,decide_eq_false_iff_not]at h1;rw[E];exact⟨h1.2,(r h1.1).1⟩
  .rcases S h with h1|h1
   .rw[Bool.or_eq_true,decide_eq_true_eq]at h1;rcases h1 with h1|h1
    .exact .inr (Nat.lt_of_le_of_lt I (w h1).1)
    .exact .inl h1
   .exact .inr (T8 h1 J)
  .rcases V4.1 hu with rfl|hu
   .by_cases h:(bj n.k s (e9 i u)).2=0
    .exact absurd (A.pG i u B) (w h).2
    .have M:u∈aw x:=by
      have h1:=p.pG i u (A.pG i u B);unfold bH at h1;rw[a]at h1;exact h1
     have U:dN s i u=σ x:=by
      unfold dN;rw[if_pos C,a];simp only;rw[if_pos ⟨K,M⟩]
     have E:=(r h).2 x U;have V:=(x5.1 a).1;have W:=f.vars;obtain⟨z,F⟩:=aF (l:=n.sizes) (i:=i.toNat) Ω;have aa:=(f.var i.toNat x z a F).1;have ab:=f.dQ.2.2 z (x6 F);have X:=(fh.1 M).1;have Y:eR n i u:=⟨C,Ω,X.1,by rw[u4,F,V5];omega⟩;have Z:eZ n s i u=x.un.getD u.toNat 0:=by unfold eZ fP;rw[if_pos Y,a]
     rw[Z];exact E
   .have N:=p.same;have V:=(x5.1 a).1;have W:=N.vars;obtain⟨y,O⟩:=aF (l:=(bj n.k s (e9 i v)).1.vars) (i:=i.toNat) Ω;have h1:=N.var i.toNat x y a O;have:=T u hu B C y O (h1.1.trans K);rw[G,H]at this;exact this
def kN(n:aK)(s:ao)(i:Int):Prop:=er s i.toNat=false->bH s i≠[]/\(dz n s i).1=0/\∀v∈bH s i,cT n.k s.zero (eZ n s i v)<n.k
def ES{i:Int}(e:bi n.k n.sizes s):(dz n s i).2<0↔bH s i=[]:=by
 rcases QR (k:=n.k) (l:=bH s i) (of:=eZ n s i)with⟨h1,a⟩|h
 .unfold dz;rw[a];exact⟨λ_=>h1,λ_=>Φ⟩
 .have h:(dz n s i).2∈bH s i:=h;generalize (dz n s i).2=w at h;have f:0<=w:=by
   unfold bH at h;split at h
   .exact (fh.1 h).1.1
   .cases h
  refine⟨λa=>Ω,λa=>?_⟩;rw[a]at h;cases h
def QV{i:Int}(f:bi n.k n.sizes s)(E:cz s)(B:0<=i)(hi:i<n.sizes.length)(w:er s i.toNat=false)(F:bH s i≠[]):
  (bj n.k s (kI i (dz n s i).1)).2=0/\ib n.k n.sizes s (bj n.k s (kI i (dz n s i).1)).1/\gF (bj n.k s (kI i (dz n s i).1)).1=gF s/\(bj n.k s (kI i (dz n s i).1)).1.zero=min (s.zero+(dz n s i).1) n.k:=by
 have M:=f.vars;obtain⟨x,h⟩:=aF (l:=s.vars) (i:=i.toNat) Ω;have G:x.gone=0:=by unfold er at w;rw[h]at w;simpa using w
 have C:bH s i=aw x:=by unfold bH;rw[h]
 have H:∀v∈aw x,eZ n s i v=x.un.getD v.toNat 0:=λv r=>by
  obtain⟨z,p⟩:=aF (l:=n.sizes) (i:=i.toNat) Ω;have N:=(f.var i.toNat x z h p).1;have O:=f.dQ.2.2 z (x6 p);have A:=(fh.1 r).1;have I:eR n i v:=⟨B,hi,A.1,by rw[u4,p,V5];omega⟩;unfold eZ fP;rw[if_pos I,h]
 have A:=Ec (i:=i) f;have J:=(Pp (c:=(dz n s i).1) (Pq (i:=i) f)).1 (Int.le_refl _);have K:(dz n s i).1<=gS x:=Pl (by rw[<-C];exact F) λv r=>by
  have:=J.2 v (by rw[C];exact r);rw[H v r]at this;exact this
 have q:=(Pm (k:=n.k) (a:=kI i (dz n s i).1) B h G).2.1 rfl A K;have L:∀j u,u∈bH (bj n.k s (kI i (dz n s i).1)).1 j->u∈bH s j:=λj u hu=>by
  rw[q]at hu;have e:bH (hq s i.toNat x (λg=>df n.k g (dz n s i).1) λg=>cT n.k g (dz n s i).1) j=bH s j:=Pj h rfl Ea;have hu:u∈bH (hq s i.toNat x (λg=>df n.k g (dz n s i).1) λg=>cT n.k g (dz n s i).1) j:=hu;rw[e]at hu;exact hu
 have p:(bj n.k s (kI i (dz n s i).1)).1.zero=min (s.zero+(dz n s i).1) n.k:=by rw[q];rfl
 have P:=f.zero;refine⟨by rw[q],Ei f E (by show 2<5;omega) L (by rw[p];omega),?_,p⟩;rw[q];show gF (hq s i.toNat x _ _)=gF s;have:=ER (s:=s) (y:={x with un:=dZ (λg=>df n.k g (dz n s i).1) x.un (aw x)}) h;rw[Ea]at this;exact Nat.add_right_cancel this
def ET{i:Int}{b:Bool}(j:bi n.k n.sizes s)(L:cz s)(G:0<=i)(hi:i<n.sizes.length):ib n.k n.sizes s (fj n i (s,b)).1/\eH n.k (fj n i (s,b)).1<=eH n.k s/\
  ((fj n i (s,b)).2.2=true->er s i.toNat=false/\bH (fj n i (s,b)).1 i=[])/\((fj n i (s,b)).2.2=false->(fj n i (s,b)).2.1=true->b=true\/eH n.k (fj n i (s,b)).1<eH n.k s)/\
  ((fj n i (s,b)).2.2=false->(fj n i (s,b)).2.1=false->b=false/\(fj n i (s,b)).1=s/\kN n s i):=by
 have W:=j.vars;obtain⟨x,w⟩:=aF (l:=s.vars) (i:=i.toNat) Ω;generalize a:fj n i (s,b)=r;unfold fj at a;simp only at a;by_cases z:er s i.toNat=true
 .rw[if_pos z]at a;subst a;exact⟨.rfl j L,o6 _,λh=>(by cases h),λ_ h=>.inl h,λ_ h=>⟨h,rfl,λH=>(by rw[z]at H;cases H)⟩⟩
 rw[if_neg z]at a;have A:er s i.toNat=false:=by simpa using z
 have I:x.gone=0:=by unfold er at A;rw[w]at A;simpa using A
 obtain⟨f,B,Q,R,M,N,C⟩:=xI (n:=n) (i:=i) (bH s i) s false j L;generalize dA n.k i (bH s i) (s,false)=q at f B Q R M N C a;have J:eH n.k q.1<=eH n.k s:=by unfold eH;rw[B];omega
 have S:er q.1 i.toNat=false:=by
  have X:=f.same.vars;obtain⟨y,O⟩:=aF (l:=q.1.vars) (i:=i.toNat) Ω;unfold er;rw[O];simpa[(f.same.var _ x y w O).1]using I
 by_cases E:(dz n q.1 i).2<0
 .rw[if_pos E]at a;subst a;exact⟨f,J,λ_=>⟨A,(ES f.ok).1 E⟩,λh=>(by cases h),λh=>(by cases h)⟩
 .have F:bH q.1 i≠[]:=λh=>E ((ES f.ok).2 h);rw[if_neg E]at a;by_cases K:0<(dz n q.1 i).1
  .obtain⟨Y,T,U,V⟩:=QV f.ok f.lA G hi S F;rw[if_pos K]at a;have Z:q.1.zero<n.k:=by
    obtain⟨v,p⟩:=List.exists_mem_of_ne_nil _ F;have h1:=C v (f.pG i v p) p G x w I;have H:=(w7 (n:=n) (s:=s) (i:=i) (v:=v) j).1;rw[B];unfold cT at h1;omega
   have P:eH n.k (bj n.k q.1 (kI i (dz n q.1 i).1)).1<eH n.k s:=by
    refine T8 ?_ J;unfold eH;rw[U,V];omega
   subst a;exact⟨f.trans T,Nat.le_of_lt P,λh=>(by cases h),λ_ _=>.inr P,λ_ h=>(by cases h)⟩
  .rw[if_neg K]at a;subst a;refine⟨f,J,λh=>(by cases h),λ_ h=>?_,λ_ h=>?_⟩
   .have h:(q.2||b)=true:=h;rw[Bool.or_eq_true]at h;rcases h with h|h
    .refine .inr ?_;have:=(N h).resolve_left Φ;show eH n.k q.1<_;unfold eH;rw[B];omega
    .exact .inl h
   .have h:(q.2||b)=false:=h;rw[U7]at h;obtain⟨_,e⟩:=M h.1;rw[e]at K F C;have aa:=Ec (i:=i) j;exact⟨h.2,e,λ_=>⟨F,Ω,λv p=>C v p p G x w I⟩⟩
theorem EU:∀(L:List Nat)(s:ao)(b:Bool),bi n.k n.sizes s->cz s->(∀i∈L,i<n.sizes.length)->ib n.k n.sizes s (hs n L (s,b)).1/\eH n.k (hs n L (s,b)).1<=eH n.k s/\
  ((hs n L (s,b)).2.2=true->(hs n L (s,b)).2.1=false/\∃i∈L,er s i=false/\bH (hs n L (s,b)).1 (i:Int)=[])/\((hs n L (s,b)).2.2=false->(hs n L (s,b)).2.1=true->b=true\/eH n.k (hs n L (s,b)).1<eH n.k s)/\
  ((hs n L (s,b)).2.2=false->(hs n L (s,b)).2.1=false->b=false/\(hs n L (s,b)).1=s/\∀i∈L,kN n s (i:Int))
 |[],s,b,w,B,_=>⟨.rfl w B,o6 _,λh=>(by cases h),λ_ h=>.inl h,λ_ h=>⟨h,rfl,λ_ hi=>by cases hi⟩⟩
 |i::L,s,b,w,B,C=>by
  obtain⟨e,z,A,G,H⟩:=ET (n:=n) (i:=(i:Int)) (b:=b) w B Ω (by have:=C i (.head _);omega);rw[r8]at A;generalize f:hs n (i::L) (s,b)=r;unfold hs at f;generalize fj n (i:Int) (s,b)=q at e z A G H f;by_cases p:q.2.2=true
  .rw[if_pos p]at f;subst f;exact⟨e,z,λ_=>⟨rfl,i,.head _,(A p).1,(A p).2⟩,λh=>(by cases h),λh=>(by cases h)⟩
  .have I:q.2.2=false:=by simpa using p
   rw[if_neg p]at f;subst f;obtain⟨P,J,Q,R,S⟩:=EU L q.1 q.2.1 e.ok e.lA λj a=>C j (.tail _ a);refine⟨e.trans P,Y7 J z,λh=>?_,λh1 E=>?_,λh1 E=>?_⟩
   .obtain⟨h1,j,a,F,T⟩:=Q h;refine⟨h1,j,.tail _ a,?_,T⟩;have V:=C j (.tail _ a);have W:=w.vars;have X:=e.same.vars;obtain⟨x,K⟩:=aF (l:=s.vars) (i:=j) Ω;obtain⟨y,M⟩:=aF (l:=q.1.vars) (i:=j) Ω;unfold er at F ⊢;rw[M]at F;rw[K];have:=(e.same.var j x y K M).1;simpa[this]using F
   .rcases R h1 E with h|h
    .rcases G I h with h|h
     .exact .inl h
     .exact .inr (Nat.lt_of_le_of_lt J h)
    .exact .inr (T8 h z)
   .obtain⟨U,N,O⟩:=S h1 E;obtain⟨f1,f2,f3⟩:=H I U;rw[f2]at N O;refine⟨f1,?_,λj a=>?_⟩
    .rw[f2];exact N
    .rcases V4.1 a with rfl|a
     .exact f3
     .exact O j a
def EV(j:bi n.k n.sizes s)(p:cz s):ib n.k n.sizes s (gE n s).1/\((gE n s).2.2=true->(gE n s).2.1=false/\∃i<n.sizes.length,er s i=false/\bH (gE n s).1 (i:Int)=[])/\
  ((gE n s).2.2=false->(gE n s).2.1=true->eH n.k (gE n s).1<eH n.k s)/\((gE n s).2.2=false->(gE n s).2.1=false->(gE n s).1=s/\∀i<n.sizes.length,kN n s (i:Int)):=by
 obtain⟨h1,_,q,r,f⟩:=EU (n:=n) (W5 n.sizes.length) s false j p λi hi=>List.mem_range.1 hi;unfold gE;refine⟨h1,λh=>?_,λa e=>(r a e).resolve_left Φ,λa e=>⟨(f a e).2.1,λi hi=>(f a e).2.2 i (List.mem_range.2 hi)⟩⟩;obtain⟨w,i,hi,x⟩:=q h;exact⟨w,i,List.mem_range.1 hi,x⟩
end
def ub(n:aK):Nat->ao->ao×Bool
 |0,s=>(s,false)
 |f+1,s=>if(gE n s).2.2=true then((gE n s).1,true)else if(gE n s).2.1=true then ub n f (gE n s).1 else((gE n s).1,false)
section
variable{n:aK}{s:ao}
def xJ(n:aK)(s:ao):Prop:=∀i<n.sizes.length,kN n s (i:Int)
end
theorem EW{c:Nat}:∀{l:List Nat},(∀x∈l,x<=c)->l.sum<=l.length*c
 |[],_=>Ξ
 |a::l,h=>by
  have h1:=EW (l:=l) λx e=>h x (.tail _ e);have f:=h a (.head _);rw[List.sum_cons,Z2,U5];omega
section
variable{n:aK}{s s':ao}
open Classical in
end
section
variable{n:aK}{s:ao}
def QW{s':ao}{i:Nat}(h:ea s s')(hi:i<s.vars.length):er s' i=er s i:=by
 have f:=h.vars;obtain⟨x,a⟩:=aF (l:=s.vars) hi;obtain⟨y,e⟩:=aF (l:=s'.vars) (i:=i) Ω;unfold er;rw[a,e];simp only;rw[(h.var i x y a e).1]
end
def QX{P:Nat->Prop}:∀m,P m->∃m,P m/\∀k,P k->m<=k:=λm=>by
 induction m using Nat.strongRecOn with
 |ind m a=>
  intro hm;by_cases h:∃k,k<m/\P k
  .obtain⟨k,h1,e⟩:=h;exact a k h1 e
  .exact⟨m,hm,λk hk=>Nat.le_of_not_lt λf=>h ⟨k,f,hk⟩⟩
open Classical in
def bU.sink{a:x3}{B:x3->x4->(x3->x4->Prop)->Prop}(ax:Nat->x4->Prop){m:Nat}(q:ax m w)(I:∀(m:Nat)(a:x3)(w':x4)(k:x3->x4->Prop),ax m w'->(∀bW a f,bW<m->ax bW f->k a f)->B a w' k):bU a w B:=by
 have j:∀{w:x4},(∃m,ax m w)->∃m,ax m w/\∀k,ax k w->m<=k:=λ⟨m,h⟩=>QX (P:=λm=>ax m _) m h;refine⟨λ_ w=>∃m,ax m w,λ_ w=>if h:∃m,ax m w then Classical.choose (j h)else 0,⟨m,q⟩,λa w' p=>?_⟩;obtain⟨h1,r⟩:=Classical.choose_spec (j p);refine I _ a w' _ h1 λbW _ f s e=>⟨⟨bW,e⟩,?_⟩;have x:=(Classical.choose_spec (j ⟨bW,e⟩)).2 bW e;show dite _ _ _<dite _ _ _;rw[dif_pos p,dif_pos ⟨bW,e⟩];omega
theorem EX{k i:Int}:∀(L M:Λ)(p:ao×Bool),dA k i (L++M) p=dA k i M (dA k i L p)
 |[],_,_=>rfl
 |v::L,M,p=>by
  rw[List.cons_append,dA,dA];exact EX L M _
def QY{i:Int}{L:Λ}{j:Nat}{p:ao×Bool}(h:L[j]?=σ v):dA k i (L.take (j+1)) p=((bj k (dA k i (L.take j) p).1 (e9 i v)).1,decide ((bj k (dA k i (L.take j) p).1 (e9 i v)).2=0)||(dA k i (L.take j) p).2):=by
 rw[u9,h,l7,EX];rfl
section
variable{ap:List ay}{w:x4}{ab ad:Nat}{A R:af}{n:aK}{s:ao}{t:ay}
def QZ{i:Nat}{x:be}(h:bF w ab ad A R n s t)(Z:Laid w)(aG:¬A 0)(aH:eB ap t)(z:s.vars[i]?=σ x):ai x8 Gn [Γ ab,Δ (i:Int)] w λr w'=>r= .bool (dA n.k (i:Int) (aw x) (s,false)).2/\cU ap w ab ad A R n (dA n.k (i:Int) (aw x) (s,false)).1 w':=by
 refine ik func53 ?_;refine bk λg1 J bd an C=>?_;refine bk λaJ U bg af E=>?_;have bh:=ac.lt C;have bi:=ac.lt E;refine bw ec.i λf bl bm aK aL=>?_;refine bp (o:=0) ec.i rfl rfl aL (by show 0<1;omega) λH aM bo O=>?_;have O:ac H f ec [.bool false]:=O;have P:Ext U H:=aK.put aM Ω;have C:ac H g1 ds [Γ ab]:=(ac.ext C af).ext P;have E:ac H aJ ah [Δ (i:Int)]:=ac.ext E P;have ag:=(an.trans af).trans P;have bq:=an.size;have br:=af.size;have bt:=P.size;have bu:=C.lt;have bx:=E.lt;have bz:=O.lt;have bA:=rn Z;rw[aD (v:=Γ ab) Ψ (C.Qz rfl),aD (v:=Δ (i:Int)) Ψ (E.Qz rfl)];refine(iE (i:=(i:Int)) (h.ext ag)).mono ?_;rintro _ bB _ ⟨⟨b,ak,rfl,Q⟩,ao⟩;refine(l6 (b:=b) (n:=ak)).mono ?_;rintro _ q _ ⟨aN,I,rfl,bC,aq⟩;have au:=j3 Q Ω (show s.vars[(i:Int).toNat]?=σ x by rw[r8];exact z);have L:=ao.trans aN;have z5:=ao.size;have z46:=L.size;have bD:=aq.lt;refine kj.old ⟨_,false,jk,#[Γ I],_,_,_,_,λj w'=>eT ap w ab ad A R n w.heap.size (λr=>q.heap.size<=r) (dA n.k (i:Int) ((aw x).take j) (s,false)).1 w'/\ae (λr=>r<w.heap.size\/q.heap.size<=r\/r=f) q w'/\ac w' f ec [.bool (dA n.k (i:Int) ((aw x).take j) (s,false)).2],λ_ _ _=>False,rfl,(l5 (g:=I) Q.1).s,?_,
  λ_ _ z h=>⟨h.1.ext z,h.2.ext z⟩,λ_ _ _ z h=>⟨h.1.ext z,h.2.1.trans (z.aa _),h.2.2.ext z⟩,λ_ _ _ _ _ h=>h,⟨aq,Z.ext (ag.trans L)⟩,⟨eT.start h Z aG aH (ag.trans L) (o6 _),ae.refl _ _,O.ext L⟩,?_,?_,λ_ _ h=>h.elim,λ_ _ _ h=>h.elim⟩
 .rintro _ _ _ _ ⟨_,_,_,_,rfl⟩;rfl
 .rintro _ j _ bE ⟨av,aO⟩ ⟨bG,rfl,v,aP,aQ⟩ ⟨S,V,W⟩;cases aQ;intro aR M _ _;have aS:(aw x)[j]?=σ (v:Int):=by rw[<-au,v8,aP];rfl
  have aV:∀{g:Nat}{e:r9}{cs:List x3},w.heap.size<=g->g<f->ac H g e cs->ac aR g e cs:=λaT aU aW=>((aW.ext L).aa V Ω).ext M;have al:=QY (k:=n.k) (i:=(i:Int)) (p:=(s,false)) aS;obtain⟨bH,bI,aX,aY,aZ,a1⟩:=S.EA;have ax:∀{B:x4}{c:x3}{d:Bool},d=(dA n.k (i:Int) ((aw x).take (j+1)) (s,false)).2->ac B I b5 [.int .u64 b,Δ ak]->Laid B->eT ap w ab ad A R n w.heap.size (λr=>q.heap.size<=r) (dA n.k (i:Int) ((aw x).take (j+1)) (s,false)).1 B->ae (λr=>r<w.heap.size\/q.heap.size<=r\/r=f) q B->ac B f ec [c]->
    ∀{K:Unit->x4->Prop},(∀y,(ac y I b5 [.int .u64 b,Δ ak]/\Laid y)/\(eT ap w ab ad A R n w.heap.size (λr=>q.heap.size<=r) (dA n.k (i:Int) ((aw x).take (j+1)) (s,false)).1 y/\ae (λr=>r<w.heap.size\/q.heap.size<=r\/r=f) q y/\ac y f ec [.bool (dA n.k (i:Int) ((aw x).take (j+1)) (s,false)).2])->K () y)->
    aB x8 (o9 ec (Γ f) (.bool d)) B K:=λ{B c d}Q X G ay az a2{K}a6=>by
   subst Q;refine bp (o:=0) ec.i rfl rfl a2 Ξ λy Y bJ a7=>?_;have z9:=az.size;exact a6 _ ⟨⟨X.aa Y λh=>by have h:I=f:=h;omega,hA Y (λh=>by have h:0=f:=h;omega) G⟩,ay.own Y λr N=>by have N:r=f:=N;subst N;exact⟨Ω,Ω⟩,az.trans (Y.mono λr _ N=>.inr (.inr N)),a7⟩
  rw[aD (v:=Γ ab) Ψ ((aV Ω Ω C).Qz rfl),aD (v:=Δ (i:Int)) Ψ ((aV Ω Ω E).Qz rfl)];have bK:=V.size;refine(EK (a:=e9 (i:Int) (v:Int)) rfl (aX.ext M) (aO.ext M) aZ aY).mono ?_;rintro _ aA _ ⟨rfl,a8,aC,aI,bn,ba,aE,bb,bL⟩;rw[<-show(dA n.k (i:Int) ((aw x).take (j+1)) (s,false)).1=(bj n.k (dA n.k (i:Int) ((aw x).take j) (s,false)).1 (e9 (i:Int) (v:Int))).1 by rw[al]]at aE;obtain⟨X,G,ay⟩:=a1 (D':=λr=>q.heap.size<=r) (iD M a8) ((Grow.ext M).trans ba) aE bb (λr h=>h) λr aT aU=>Ω
  have am:ac aA f ec _:=W.aa G Ω;rw[bf,aj];have aF:ae (λr=>r<w.heap.size\/q.heap.size<=r\/r=f) q aA:=V.trans (G.mono λr _ h=>h.imp id .inl);refine⟨λhe=>?_,λhe=>?_⟩
  .have e:(dA n.k (i:Int) ((aw x).take (j+1)) (s,false)).2=true:=by rw[al,decide_eq_true he,Bool.true_or]
   exact ax e.symm (av.aa G Ω) aC X aF am λy h=>⟨h.1,h.2,λh=>by cases h⟩
  .have e:(dA n.k (i:Int) ((aw x).take (j+1)) (s,false)).2=(dA n.k (i:Int) ((aw x).take j) (s,false)).2:=by rw[al,decide_eq_false he,Bool.false_or]
   rw[aD Ψ (am.Qz rfl)];exact ax e.symm (av.aa G Ω) aC X aF am λy h=>⟨h.1,h.2,λh=>by cases h⟩
 .rintro k bM rfl ⟨S,V,W⟩;rw[j4 (by rw[<-au,u7];exact o6 _)]at S W;rw[aD Ψ (W.Qz rfl)];intro bN bc _;exact⟨rfl,S.done bc⟩
def Q6{N i:Nat}(h:i<N):(W5 N).drop i=i::(W5 N).drop (i+1):=by
 rw[W0 (by simpa using h),List.getElem_range]
def Q7(ap:List ay)(w:x4)(ab ad:Nat)(A R:af)(n:aK)(q:ao×Bool×Bool)(r:x3)(w':x4):Prop:=r= .tuple #[.bool q.2.1,Δ (if q.2.2=true then 8 else 0)]/\cU ap w ab ad A R n q.1 w'
def EY(h:bF w ab ad A R n s t)(af:Laid w)(ag:¬A 0)(ah:eB ap t)(ak:cz s):ai x8 F8 [Γ ab] w (Q7 ap w ab ad A R n (gE n s)):=by
 have E:=h.2.2.2.1;have aK:=E.vars;have aM:=E.dQ.2.1;refine az func21 ?_;rw[dc ds.u];simp only[Z6,aY];refine(wX h).mono ?_;rintro _ J _ ⟨rfl,al⟩;refine pR.range n.sizes.length (λi _ _ c U=>∃s1 b,c= .bool b/\cU ap w ab ad A R n s1 U/\ib n.k n.sizes s s1/\gE n s=hs n ((W5 n.sizes.length).drop i) (s1,b)) Ω ⟨s,false,rfl,cU.same h af ag ah al,.rfl E ak,rfl⟩ ?_ ?_
 .rintro i aN t3 _ U am hi ⟨s1,b,rfl,hm,j,p⟩ an;refine bA Ω ?_;obtain⟨aO,aP,V,ao,aq,au,av⟩:=hm.open;have aQ:=j.ok.vars;obtain⟨x,W⟩:=aF (l:=s1.vars) (i:=i) Ω;rw[Q6 hi,hs]at p;have ay:bH s1 (i:Int)=aw x:=pJ W;refine Ac (λ_ _ r w'=>r= .bool (fj n (i:Int) (s1,b)).2.1/\(fj n (i:Int) (s1,b)).2.2=false/\cU ap w ab ad A R n (fj n (i:Int) (s1,b)).1 w') ?_ λax y=>?_
  .rintro _ _ _ aS ⟨rfl,he,aA⟩;rw[aL];refine an _ _ _ _ ⟨_,_,rfl,aA,j.trans (ET (i:=(i:Int)) (b:=b) j.ok j.lA Ω Ω).1,?_⟩;rw[p,if_neg (by rw[he];decide)]
  refine(qZ (i:=(i:Int)) V).mono ?_;rintro _ aT _ ⟨rfl,B⟩;rw[decide_eq_true Ω,T6,r8,cg];refine⟨λC=>?_,λC=>?_⟩
  .have e:fj n (i:Int) (s1,b)=(s1,b,false):=by unfold fj;rw[r8,if_pos C]
   rw[e]at y;exact y _ _ _ _ ⟨rfl,rfl,hm.ext B⟩
  have f:fj n (i:Int) (s1,b)=(let q:=dA n.k (i:Int) (aw x) (s1,false);if(dz n q.1 (i:Int)).2<0 then(q.1,false,true)else if 0<(dz n q.1 (i:Int)).1 then((bj n.k q.1 (kI (i:Int) (dz n q.1 (i:Int)).1)).1,true,false)else(q.1,q.2||b,false)):=by
   unfold fj;rw[r8,if_neg (by rw[C];decide),ay]
  have X:=(xI (i:=(i:Int)) (aw x) s1 false j.ok j.lA).1;simp only at f;generalize aB:dA n.k (i:Int) (aw x) (s1,false)=q at f X;refine aW (λr w'=>r= .bool (q.2||b)/\cU ap w ab ad A R n q.1 w') ?_ λaU Y=>?_
  rotate_left
  .refine (QZ (V.ext B) (ao.ext B) aq au W).mono ?_;rintro _ aC _ ⟨rfl,Z⟩;rw[aB]at Z ⊢;have aa:cU ap w ab ad A R n q.1 aC:=by
    obtain⟨G,H,I,K,L,M,N,O⟩:=Z;exact av ⟨iD B G,H,I,K,(Grow.ext B).trans L,M,N,O⟩
   rw[cg];exact⟨λh=>Y _ _ ⟨by rw[h,Bool.true_or],aa⟩,λh=>Y _ _ ⟨by rw[h,Bool.false_or],aa⟩⟩
  rintro _ aV ⟨rfl,P⟩;obtain⟨aX,t5,ac,ae,aD,aE,aG⟩:=P.open;have aH:er q.1 i=false:=by rw[QW X.same Ω];exact C
  have aI:j7 n q.1 (i:Int)=true:=by
   unfold j7;rw[r8,aH,decide_eq_true (show(0:Int)<=i/\(i:Int)<n.sizes.length by omega)];rfl
  refine(QQ ac ae aI).mono ?_;rintro _ aZ _ ⟨z,rfl⟩;rw[gY,gZ,ha,aR,aj];refine⟨λQ=>?_,λQ=>?_⟩
  .rw[if_pos Q]at f;rw[f,if_pos rfl]at p;rw[p];exact⟨rfl,P.ext z⟩
  rw[if_neg Q]at f;rw[bS,aj];refine⟨λS=>?_,λS=>?_⟩
  .rw[if_pos S]at f;rw[f]at y;refine(EJ (a:=kI (i:Int) (dz n q.1 (i:Int)).1) rfl (ac.ext z) (ae.ext z) aD aE).mono ?_;rintro _ a1 _ ⟨_,aJ⟩;refine y _ _ _ _ ⟨rfl,rfl,?_⟩;obtain⟨G,H,I,K,L,M,N,O⟩:=aJ;exact aG ⟨iD z G,H,I,K,(Grow.ext z).trans L,M,N,O⟩
  .rw[if_neg S]at f;rw[f]at y;exact y _ _ _ _ ⟨rfl,rfl,P.ext z⟩
 .rintro _ _ _ U am ⟨s1,b,rfl,hm,j,p⟩;refine b2 Ω ?_;rw[List.drop_eq_nil_of_le Ξ,hs]at p;rw[p];exact⟨rfl,hm⟩
def oz(n:aK)(s:ao):ao×Bool:=ub n (eH n.k s+1) s
def Q8(h:bF w ab ad A R n s t)(C:Laid w)(E:¬A 0)(G:eB ap t)(H:cz s):ai x8 FY [Γ ab] w λr w'=>r=Δ (if(oz n s).2=true then 8 else 0)/\cU ap w ab ad A R n (oz n s).1 w':=by
 have I:=h.2.2.2.1;refine az func11 ?_;refine bU.sink (λm J=>∃s1 f,cU ap w ab ad A R n s1 J/\bi n.k n.sizes s1/\cz s1/\eH n.k s1=m/\m<f/\ub n f s1=oz n s) ⟨s,_,cU.same h C E G (Ext.refl _),I,H,rfl,Nat.lt_succ_self _,rfl⟩ ?_;rintro m _ J T ⟨s1,f,hm,K,x,V,W,a⟩ L;obtain⟨f,rfl⟩:∃g,f=g+1:=⟨f-1,Ω⟩;obtain⟨X,Y,M,N,O,P,Q⟩:=hm.open;obtain⟨p,Z,y,aa⟩:=EV (n:=n) K x;rw[ub]at a;refine(EY M N O P x).mono ?_;rintro _ U _ ⟨rfl,j⟩;have j:=Q j;generalize gE n s1=q at p y a j;rw[bx,bz];refine aW (λr w'=>w'=U/\r= .bool (q.2.2|| !q.2.1)) ?_ λax z=>?_
 .rintro _ _ ⟨rfl,rfl⟩;rw[cg];refine⟨λe=>?_,λe=>?_⟩
  .cases he:q.2.2 with
   |true=>
    rw[he,if_pos rfl]at a;rw[<-a];exact⟨by rw[if_pos rfl],j⟩
   |false=>
    rw[he,Bool.false_or,Bool.not_eq_true']at e;rw[he,e,if_neg Φ,if_neg Φ]at a;rw[<-a];exact⟨rfl,j⟩
  .rw[U7,Bool.not_eq_false']at e;have ac:=y e.1 e.2;rw[e.1,e.2,if_neg Φ,if_pos rfl]at a;exact L (eH n.k q.1) _ _ Ω ⟨q.1,f,j,p.ok,p.lA,rfl,Ω,a⟩
 rw[bN,aj];refine⟨λB=>z _ _ ⟨rfl,?_⟩,λhe=>?_⟩
 .cases he:q.2.2 with
  |true=>rfl
  |false=>rw[he]at B;exact absurd rfl B
 .have he:q.2.2=false:=by
   cases S:q.2.2 with
   |true=>rw[S]at he;exact absurd Φ he
   |false=>rfl
  rw[bJ];exact z _ _ ⟨rfl,by rw[he,Bool.false_or]⟩
end
def kO:Λ:=[116,32,49,32,50,32,49,32,57,32,50,32,49,32,48,32,48,32,50,32,48,32,49,32,49,32,57]
def gW:cb:=⟨[116],9,[2],[⟨[0],[2],0,[([0],1),([1],9)]⟩]⟩
def Q9:gw kO=σ gW:=by
 have h:(match gw kO with
  |some f=>decide (f.name=gW.name/\f.k=gW.k/\f.sizes=gW.sizes)&&decide (f.funs.map (λx=>(x.scope,x.sizes,x.other,x.lines))=gW.funs.map λx=>(x.scope,x.sizes,x.other,x.lines))
  |none=>false)=true:=by decide+kernel
 cases p:gw kO with
 |none=>rw[p]at h;cases h
 |some f=>
  rw[p]at h;simp only[U3,decide_eq_true_eq]at h;obtain⟨⟨h1,q,r⟩,e⟩:=h;obtain⟨nm,k,w,j⟩:=f;simp only at h1 q r e;subst h1;subst q;subst r;have:j=gW.funs:=by
   have s:j.length=1:=by have:=congrArg Q4 e;simpa[gW]using this
   match j,s with
   |[x],_=>
    obtain⟨a,b,c,d⟩:=x;simp[gW]at e;obtain⟨rfl,rfl,rfl,rfl⟩:=e;rfl
  subst this;rfl
def Ra:mf gW.funs<=16384:=by decide+kernel
def EZ:ao:=(oz (cH gW) (dr (cH gW))).1
def Rb:(oz (cH gW) (dr (cH gW))).2=false/\EZ.zero=1/\(EZ.vars[0]?.map λx=>(aw x,x.un.length))=σ ([0],2):=by decide+kernel
def Rc{b n:Nat}(a:k9 b n):ai x8 yX [iR b n] w λr w'=>r=Δ (pI b:Int)/\Ext w w':=by
 have e:b<4294967296:=by
  have:=a.2;have:(2:Nat) ^ n<=2 ^ 32:=T9 Ω a.1;omega
 refine az func27 ?_;refine bk λg J q f h=>?_;rw[aH b5.p 0 h rfl];refine(ED e).mono ?_;rintro _ U _ ⟨rfl,j⟩;exact⟨rfl,f.trans j⟩
def Re(V:e5 w)(C:Laid w):ai x8 FU [] w λv w'=>v= .bool true/\Ext w w':=by
 refine az func7 ?_;refine jK (k:=1) (cs:=(ints .u8 kO).toArray) cM.u cI.i Ω Ψ λg J aY e s=>?_;have E:au .u8 cI J g (.slice (σ ⟨g,0,ν⟩) 27 27) kO:=au.of (n:=27) (bX.full (by simpa using s) (by simp[kO]) (by simp[maxLen]));refine PC s λy G H=>?_;have e:Ext w y:=e.put G Ω;have W:aG .u8 y (.slice (σ ⟨g,0,ν⟩) 27 27) kO:=by
  obtain⟨X,b,o,base,cap,Y,Z,aa,ac,ae⟩:=E.ls;cases Y;cases ac (by simp[kO]);exact⟨X,g,0,_,27,rfl,Z,aa,λ_=>rfl,H _ _ ae⟩
 clear E s H G;refine(EP W (by intro b af;simp[kO]at af;omega) (V.ext e)).mono ?_;rintro _ U _ ⟨ag,ah,cs,ok,rfl,⟨al,am⟩,an,ao⟩;have I:gw (kO.take 300)=σ gW:=by
  rw[j4 Φ];exact Q9
 have ap:ok=true:=ao gW I Ra;subst ap;obtain⟨f,K,ab,ad,A,R,t,N,A9,aA,aZ,rfl,aq,av,L,_⟩:∃f,gw (kO.take 300)=σ f/\tN y.heap.size U ah cs f:=by
  rcases an with⟨h,_⟩|⟨_,h⟩
  .cases h
  .exact h
 rw[I]at K;cases K;have M:=e.trans ag;rw[gY,gZ,ha];refine bw aC.i λak a1 a2 ay aB=>?_;refine b1 (vs:=cs) aC.i al rfl am aB λaD aE a6 aF=>?_;have z:Ext U aD:=ay.put aE Ω;have aH:=aq.ext z;have aJ:¬A 0:=λh=>by have:=L 0 h;have:=rn (C.ext e);omega
 refine aW (λv aK=>v= .bool true/\Ext w aK) (λ_ _ h=>h) λax aL=>?_;rw[bQ];refine(Q8 aH (C.ext (M.trans z)) aJ av.2.2.1.m (En _)).mono ?_;rintro _ aM _ ⟨rfl,hm⟩;obtain⟨aN,aO,aP⟩:=Rb;obtain⟨a7,a8,aI,bn,aQ,O,_⟩:=hm;have aR:Ext w aM:=(M.trans z).then aQ.1 λr ba h=>by have:=L r h;have:=e.size;omega
 rw[aN,if_neg Φ,bf,aj];refine⟨λ_=>?_,λh=>absurd rfl h⟩;refine(pA O).mono ?_;rintro _ bb _ ⟨rfl,P⟩;have aS:(oz (cH gW) (dr (cH gW))).1.zero=1:=aO;rw[aS,bf,aj];refine⟨λ_=>?_,λh=>absurd rfl h⟩;refine(iE (i:=0) (O.ext P)).mono ?_;rintro _ bc _ ⟨⟨b,Q,rfl,p⟩,aT⟩;refine(Rc p.1).mono ?_;rintro _ bd _ ⟨rfl,aU⟩;have aV:((oz (cH gW) (dr (cH gW))).1.vars[0]?.map λx=>(aw x,x.un.length))=σ ([0],2):=aP;obtain⟨x,S,j⟩:=X2.1 aV;cases B:aw x with
 |nil=>rw[B]at j;cases j
 |cons a l=>
 rw[B]at j;simp only[S3]at j;have q:=j3 p Ω S;have be:=(p.2.2 x Ω S).1;have aF:b<2 ^ Q:=p.1.2;have aX:Q=2:=Ω
 subst aX;rw[B,j.1]at q;rw[bf];refine aL _ _ ⟨?_,((aR.trans P).trans aT).trans aU⟩;rcases(show b=0\/b=1\/b=2\/b=3 by omega)with rfl|rfl|rfl|rfl
 .exact absurd q Φ
 .rfl
 .exact absurd q Φ
 .exact absurd q Φ
def Rf{sv:x3}(h:aG .i64 w sv l)(I:∀x∈l,1<=x/\x<=32)(ap:l.length<=64):
  ai x8 FW [sv] w λv w'=>Ext w w'/\∃L,bl (eo w.heap.size) bu w' [v] L/\Qo l L:=by
 refine az func9 ?_;have aq:=k3 l I;refine aW (λv U=>Ext w U/\∃b,v= .bool b/\(b=true->l.length<=11/\aN l<=90)) ?_ λax M=>?_
 rotate_left
 .rw[aU an.u h,aR,aj];refine⟨λav=>?_,λ_=>M _ _ ⟨Ext.refl _,false,rfl,λh=>by cases h⟩⟩;refine(Qt h I).mono ?_;rintro _ J _ ⟨⟨c,rfl,Q⟩,e⟩;rw[lU];exact M _ _ ⟨e,_,rfl,λh=>⟨Ω,by rw[<-Q Ω];exact of_decide_eq_true h⟩⟩
 rintro _ J ⟨e,b,rfl,S⟩;rw[cg];refine⟨λV=>?_,λ_=>?_⟩
 .obtain⟨aw,ay⟩:=S V;refine(vw l (h.ext e) ⟨Ω,I,Ω⟩).mono ?_;rintro v U _ ⟨f,p⟩;have aA:=io I;have W:=e.size;exact⟨e.trans f,bc l,al.mono p (λr _ h=>by have h:J.heap.size<=r:=h;show w.heap.size<=r;omega) λ_ _ h=>h,Ω,λa C=>Qq C⟩
 have W:=e.size;refine b4.range 60 (λk out U=>Ext J U/\bl (eo J.heap.size) bu U [out] ((W5 k).map (kL l))) Ω ⟨Ext.refl _,fU⟩ ?_ ?_
 .rintro k out U X hk ⟨f,p⟩ Y;refine bA Ω ?_;have E:=e.trans f;rw[aU an.u (h.ext E)];refine jL (k:=.i64) an.u ah.i Ω Ω λs Z aB N O=>?_;have aa:au .i64 ah Z s (.slice (σ ⟨s,0,ν⟩) l.length l.length) (o5 l.length 0):=by
   refine au.of (n:=l.length) ⟨Ξ,.inr ⟨l.length,ints .i64 (o5 l.length 0),rfl,O,Ω,by simp only[maxLen];omega,Ξ,Ξ⟩⟩
  have ab:=E.trans N;have aC:=f.size;have aD:=O.lt;rw[aU an.u (h.ext ab)];refine bU.range l.length (λq B=>Ext U B/\au .i64 ah B s (.slice (σ ⟨s,0,ν⟩) l.length l.length) (upto (kL l k) 0 q)) h.le ⟨N,by rw[o2,rp];exact aa⟩ ?_ ?_
  .rintro q B ac ad ⟨y,j⟩ ae;obtain⟨z,G⟩:=aF (l:=l) ad;have aE:=I z (x6 G);refine bA Ω ?_;have aH:0<=(k:Int)*(2*(q:Int)+1)/\(k:Int)*(2*(q:Int)+1)<=60*200:=⟨Int.mul_nonneg Ω Ω,Int.mul_le_mul Ω Ω Ω Ω⟩;have aI:0<=(k:Int) / 3/\(k:Int) / 3<=60:=Ω
   have aJ:(2*(q:Int)+1)=2*(q:Int)+1:=rfl;rw[bb an.u ah.i Ψ (h.ext (E.trans y)) G,gp,wrap_i64 (x:=2*(q:Int)) Ω Ω,aL,wrap_i64 Ω Ω,gp,wrap_i64 Ω Ω,p6 Φ,Int.tdiv_eq_ediv_of_nonneg Ω,wrap_i64 Ω Ω,aL,wrap_i64 Ω Ω,p7 Ω,Int.tmod_eq_emod_of_nonneg Ω,
    h0 rfl an.u ah.i j (by rw[nS,rp];omega)]
   refine h2 ah.i j (by rw[nS,rp];omega) λaf H aK ag=>?_;rw[aL];refine ae _ ⟨y.then H λr ak he=>by have he:r=s:=he;omega,?_⟩;rw[<-pa (EN G)];exact ag
  rintro B ac ⟨y,j⟩;refine b2 Ω ?_;rw[show upto (kL l k) 0 l.length=kL l k by rw[<-rp l k,o3]]at j;have z4:=y.size;refine im (α:=Λ) (a:=kL l k) (A:=eo U.heap.size) (R:=bu) b6.u an.i Φ (kp (k2 j (R:=bu))) (al.mono (k2 j) (λr _ h=>by subst h;show U.heap.size<=r;omega) λ_ _ h=>h) λaM af K _ H=>?_;have P:=y.trans K;have z5:=K.size;refine mH (α:=Λ) (a:=kL l k) (A:=eo U.heap.size) b6.u an.i rfl (bm (l0 p) P) H (bm (al.mono (k2 j) (λr _ h=>by subst h;show U.heap.size<=r;omega) λ_ _ h=>h) K) (λr _ h h'=>?_) (by simp only[u7,List.length_range];omega) (by simp only[u7,List.length_range];omega) λaO aP am ao=>?_
  .rcases h' with h'|h'
   .have:=h.2;have:U.heap.size<=r:=h';omega
   .exact h'
  rw[aL];refine Y _ _ ⟨(f.trans P).then ao (λr ak h=>by have:=h.1;have:J.heap.size<=r:=this;omega),?_⟩;rw[List.range_succ,Z4,List.map_singleton];refine al.mono am (λr _ h=>?_) λ_ _ h=>h;show J.heap.size<=r;rcases h with h|h|h
  .exact h.1
  .have:U.heap.size<=r:=h;omega
  .omega
 .rintro out U X ⟨f,p⟩;rw[show((60:Nat):Int)=60 from rfl,aR,aj];refine⟨λh=>Ω,λ_=>⟨e.trans f,_,al.mono p (λr _ h=>by have h:J.heap.size<=r:=h;show w.heap.size<=r;omega) λ_ _ h=>h,Ξ,λa C=>?_⟩⟩;obtain⟨k,_,rfl⟩:=l9.1 C;exact Qp k I
section
variable{w:x4}{ei:x3}{n:aK}{s:ao}
def Rg{i:Nat}{x:be}(f:bi n.k n.sizes s)(a:s.vars[i]?=σ x):kN n s (i:Int)↔(x.gone=0->aw x≠[]/\(dn n.k (aw x) λv=>x.un.getD v.toNat 0).1=0/\∀v∈aw x,min (s.zero+x.un.getD v.toNat 0) n.k<n.k):=by
 unfold kN;rw[r8,pJ a,QH f a];have q:er s i=decide (x.gone≠0):=by unfold er;rw[a]
 rw[q,decide_eq_false_iff_not];refine⟨λh r=>?_,λh r=>?_⟩
 .obtain⟨h1,j,p⟩:=h Ω;refine⟨h1,j,λv e=>?_⟩;have:=p v e;rw[xG f a e]at this;exact this
 .obtain⟨h1,j,p⟩:=h Ω;refine⟨h1,j,λv e=>?_⟩;rw[xG f a e];exact p v e
def Rh(h:fR w ei n.k n.sizes s)(f:bi n.k n.sizes s):ai x8 Gg [ei] w λr w'=>Ext w w'/\∃b:Bool,r= .bool b/\(b=true↔xJ n s):=by
 have aS:=f.vars;have aT:=f.dQ.2.1;have aV:=f.fx;have aX:=f.zero;refine az func43 ?_;refine bk λg1 J aY M af=>?_;have X:=h.box M af;obtain⟨szv,aZ,a1,a2,a6,a7,A,ag,_,Y,ak,al,a8,ba⟩:=id X;rw[aH aC.p 1 A rfl,aU an.u ag];refine b4.range n.sizes.length (λi _ U=>Ext J U/\∀q,q<i->kN n s ((q:Nat):Int)) Ω ⟨Ext.refl _,λq j=>absurd j (Nat.not_lt_zero _)⟩ ?_ ?_
 rotate_left
 .rintro _ U ao ⟨z,N⟩;exact b2 Ω ⟨M.trans z,true,rfl,λ_=>N,λ_=>rfl⟩
 rintro i bc U ao hi ⟨z,N⟩ ap;obtain⟨x,y⟩:=aF (l:=s.vars) (i:=i) Ω;have bd:=ot x;have H:=Rg f y;refine bA Ω ?_;have au:kN n s (i:Int)->∀q,q<i+1->kN n s ((q:Nat):Int):=λh q j=>by
  rcases Nat.lt_or_eq_of_le (Nat.le_of_lt_succ j)with h'|rfl
  .exact N q h'
  .exact h
 have no:∀{w':x4},Ext J w'->¬kN n s (i:Int)->Ext w w'/\∃b:Bool,x3.bool false= .bool b/\(b=true↔xJ n s):=λav B=>⟨M.trans av,false,rfl,λh=>(by cases h),λh=>absurd (h i hi) B⟩;refine aW (λ_ w'=>Ext J w'/\kN n s (i:Int)) (λ_ w' Z=>by rw[aL];exact ap _ _ ⟨Z.1,au Z.2⟩) λax aa=>?_;rw[aH aC.p 4 (A.ext z) rfl];refine gL (α:=Bool) (a:=decide (x.gone≠0)) (i:=i) rfl rfl hU.u ec.i Ψ (bm ak z) (by rw[v8,y];rfl) λay aA=>?_;obtain rfl:ay= .bool (decide (x.gone≠0)):=(List.cons.inj aA).1;rw[aj];refine⟨λaB=>aa _ _ ⟨z,H.2 λh=>absurd h aB⟩,λbe=>?_⟩;have ab:x.gone=0:=Ω
 refine(X.ext z).load λbg aD=>?_;refine(Qy (i:=i) aD f y).mono ?_;rintro _ bh _ ⟨aE,rfl⟩;have I:=z.trans aE;rw[bx,bz];have bj:0<=(dn n.k (aw x) λv=>x.un.getD v.toNat 0).1:=(Eb Ω λv _=>hr f y).1;refine aW (λr w'=>Ext J w'/\r= .bool (decide (aw x=[]\/0<(dn n.k (aw x) λv=>x.un.getD v.toNat 0).1))) ?_ λbl ac=>?_
 rotate_left
 .rw[aH aC.p 3 (A.ext I) rfl];refine gL (α:=Λ) (a:=aw x) (i:=i) rfl rfl b6.u an.i Ψ (bm Y I) (by rw[v8,y];rfl) λaG O=>?_;rw[aU an.u (dJ O),bf,aj];refine⟨λP=>ac _ _ ⟨I,by rw[decide_eq_true (.inl (c9 Ω))]⟩,λP=>?_⟩;rw[bS];refine ac _ _ ⟨I,?_⟩;congr 1;exact decide_eq_decide.2 ⟨λh=>.inr h,λh=>h.resolve_left λe=>by rw[e]at P;exact P rfl⟩
 rintro _ aI ⟨C,rfl⟩;rw[aj];refine⟨λK=>no C λB=>?_,λK=>?_⟩
 .obtain⟨h1,bn,_⟩:=H.1 B ab;exact K.elim h1 λh=>Ω
 have aJ:aw x≠[]:=λe=>K (.inl e);have aK:(dn n.k (aw x) λv=>x.un.getD v.toNat 0).1=0:=by
  have:¬0<(dn n.k (aw x) λv=>x.un.getD v.toNat 0).1:=λe=>K (.inr e);omega
 rw[aH aC.p 3 (A.ext C) rfl];refine gL (α:=Λ) (a:=aw x) (i:=i) rfl rfl b6.u an.i Ψ (bm Y C) (by rw[v8,y];rfl) λaG O=>?_;have Q:=dJ O;rw[aU an.u Q];refine b4.range (aw x).length (λq _ R=>Ext aI R/\∀v∈(aw x).take q,min (s.zero+x.un.getD v.toNat 0) n.k<n.k) Q.le ⟨Ext.refl _,λv E=>by cases E⟩ ?_ ?_
 rotate_left
 .rintro _ R aM ⟨G,j⟩;rw[o8]at j;exact b2 Ω (aa _ _ ⟨C.trans G,H.2 λ_=>⟨aJ,aK,j⟩⟩)
 rintro q bo R aM j ⟨G,aN⟩ aO;obtain⟨v,E⟩:=aF (l:=aw x) j;have ad:=x6 E;have aP:=(fh.1 ad).1;obtain⟨S,rfl⟩:=U9 aP.1;have bp:=hr (v:=S) f y;have aQ:=C.trans G;refine bA Ω ?_;rw[bb an.u ah.i Ψ (Q.ext G) E];intro bq ae _ _;have V:=aQ.trans ae;have L:=A.ext V;rw[aH aC.p 2 L rfl,aH aC.p 5 L rfl];refine gL (α:=Λ) (a:=x.un) (i:=i) rfl rfl cR.u aq.i Ψ (bm al V) (by rw[v8,y];rfl) λbr aR=>?_;rw[bb aq.u am.i Ψ (dJ aR) (getD_some (i:=S) Ω),aH aC.p 0 L rfl,aH aC.p 0 L rfl];refine(mb Ω Ω).mono ?_;rintro _ bt _ ⟨rfl,W⟩;refine⟨.inl W,?_⟩;rw[bf,aj];refine⟨λhe=>no (V.trans W) λB=>?_,λhe=>?_⟩
 .have:=(H.1 B ab).2.2 (S:Int) ad;rw[r8]at this;omega
 .rw[aL];refine aO _ _ ⟨(G.trans ae).trans W,λu hu=>?_⟩;rw[u9,E,l7,j0,j6]at hu;rcases hu with hu|rfl
  .exact aN u hu
  .rw[r8];omega
def Ri(h:fR w ei n.k n.sizes s)(f:bi n.k n.sizes s):ai x8 F7 [ei,Δ 1] w λr w'=>Ext w w'/\∃b:Bool,r= .bool b/\(b=true↔xJ n s):=by
 refine az func19 ?_;refine bk λg1 J x e a=>?_;have j:=h.box e a;rw[bf,aj];refine⟨λ_=>?_,λh=>absurd rfl h⟩;refine j.load λy p=>?_;refine(Rh p f).mono ?_;rintro _ U _ ⟨q,b,rfl,a⟩;exact⟨e.trans q,b,rfl,a⟩
end
section
variable{ap:List ay}{w:x4}{ab ad:Nat}{A R:af}{n:aK}{s:ao}{t:ay}
end
section
variable{w:x4}{ei:x3}{n:aK}{s:ao}
def Rj{cw:x3}(h:aG .i64 w cw l):ai x8 y2 [cw] w λr w'=>r= .bool (decide (l=[]))/\Ext w w':=by
 refine az func42 ?_;rw[aU an.u h,bf];refine⟨?_,Ext.refl _⟩;congr 1;exact decide_eq_decide.2 ⟨λh=>c9 Ω,λh=>by rw[h];rfl⟩
def Rk{sv:x3}{L:List (Λ)}{m:Bool}{S R:af}(h:al.rep (α:=List (Λ)) m S R w [sv] L):
  ai x8 Gf [sv,.func (.func y2) #[] #[]] w λv w'=>v= .bool (L.any λl=>decide (l=[]))/\Ext w w':=by
 refine az func41 ?_;refine ai.mono (K:=λv w'=>Ext w w'/\∃r:Int,v=Δ r/\(0<=r↔ ∃c∈L,c=[])) ?_ ?_
 .refine az func88 ?_;rw[gq b6.u h];refine b4.range L.length (λi _ J=>Ext w J/\∀c∈L.take i,c≠[]) (mG h) ⟨Ext.refl _,λc e=>by simp at e⟩ ?_ ?_
  .rintro i _ J k hi ⟨f,p⟩ hk;refine bA Ω ?_;obtain⟨x,q⟩:=aF (l:=L) hi;refine gL (α:=Λ) (a:=x) rfl rfl b6.u an.i Ψ (bm h f) q λu hu=>?_;refine ai.mono (Rj (dJ hu)) ?_;rintro _ U _ ⟨rfl,s⟩;rw[aj];refine⟨λj=>⟨f.trans s,i,rfl,⟨λ_=>⟨x,x6 q,j⟩,λ_=>Ω⟩⟩,λy=>?_⟩;rw[aL];refine hk _ _ ⟨f.trans s,λc e=>?_⟩;rw[u9,q]at e;rcases j0.1 e with e|e
   .exact p c e
   .simp at e;subst e;exact y
  .rintro _ J k ⟨f,p⟩;rw[o8]at p;refine b2 Ω ?_;exact⟨f,-1,rfl,⟨λh=>Ω,λ⟨c,e,j⟩=>absurd j (p c e)⟩⟩
 .rintro _ J _ ⟨f,r,rfl,z⟩;rw[cS];refine⟨?_,f⟩;congr 1;rw[V7,decide_eq_true_eq,List.any_eq_true,z];exact⟨λ⟨c,e,j⟩=>⟨c,e,decide_eq_true j⟩,λ⟨c,e,j⟩=>⟨c,e,of_decide_eq_true j⟩⟩
def Rl(h:fR w ei n.k n.sizes s):ai x8 F6 [ei] w λr w'=>Ext w w'/\∃b:Bool,r= .bool b/\(b=true↔ ∃i,i<s.vars.length/\bH s ((i:Nat):Int)=[]):=by
 refine az func18 ?_;refine bk λg1 J A e f=>?_;obtain⟨szv,B,C,E,G,H,j,I,_,q,_⟩:=h.box e f;rw[aH aC.p 3 j rfl];refine(Rk q).mono ?_;rintro _ U _ ⟨rfl,y⟩;refine⟨e.trans y,_,rfl,?_⟩;rw[List.any_eq_true];constructor
 .rintro⟨l,z,he⟩;obtain⟨x,a,rfl⟩:=l9.1 z;obtain⟨i,hi⟩:=X5.1 a;exact⟨i,(x5.1 hi).1,by rw[pJ hi];exact of_decide_eq_true he⟩
 .rintro⟨i,hi,he⟩;obtain⟨x,a⟩:=aF (l:=s.vars) hi;rw[pJ a]at he;exact⟨aw x,l9.2 ⟨x,x6 a,rfl⟩,decide_eq_true he⟩
end
section
variable{w:x4}{ab ad ak:Nat}{Z aA:af}{n:aK}{s s0:ao}{cs:List x3}
def gV.facts{ap:List ay}(h:gV ap Z aA w ab ad ak n s s0 cs)(he:s.cP=[])(f:s.funs.length<=1000):ai x8 uQ [Γ ab] w λv w'=>Ext w w'/\∃g,au .i64 am w' g v (ng s)/\∀r,leads v r->w.heap.size<=r:=by
 obtain⟨A,R,A9,t,p,⟨a,_,_⟩,_⟩:=h;exact PJ p.dl a (λe h=>by rw[he]at h;cases h) Ω (by rw[he];exact X8 _)
def gG(ap:List ay)(S:af)(w:x4)(ab ad:Nat)(n:aK)(s s0:ao)(cs:List x3):Prop:=∃ak Z aA,gV ap Z aA w ab ad ak n s s0 cs/\(∀r,Z r->¬S r)/\∀r,S r->r<w.heap.size
variable{ap:List ay}{S:af}{w':x4}
def gG.ext(h:gG ap S w ab ad n s s0 cs)(a:Ext w w'):gG ap S w' ab ad n s s0 cs:=by
 obtain⟨ak,Z,aA,h1,e,f⟩:=h;have:=a.size;exact⟨ak,Z,aA,h1.ext a,e,λr j=>by have:=f r j;omega⟩
def gG.start{a:x4}{B:Nat}{ak:Nat}{Z aA:af}(f:gV [] Z aA U ab ad ak n s s0 cs)(p:∀r,Z r->B<=r)(j:Ext U a)(q:B<=U.heap.size):gG [] (λr=>r<B\/(U.heap.size<=r/\r<a.heap.size)) a ab ad n s s0 cs:=by
 have:=j.size;exact⟨ak,Z,aA,f.ext j,λr e h=>by have:=p r e;have:=f.lt r e;omega,λr e=>Ω⟩
def gG.own(h:gG ap S w ab ad n s s0 cs)(e:Ext w w'):gG ap (λr=>S r\/(w.heap.size<=r/\r<w'.heap.size)) w' ab ad n s s0 cs:=by
 obtain⟨ak,Z,aA,h1,f,j⟩:=h;have:=e.size;exact⟨ak,Z,aA,h1.ext e,λr a h=>h.elim (f r a) λh=>by have:=h1.lt r a;omega,λr a=>a.elim (λh=>by have:=j r h;omega) λh=>h.2⟩
def gG.go(h:gG ap S w ab ad n s s0 cs):∃A R t,bF w ab ad A R n s t/\Laid w/\¬A 0/\eB ap t/\∀{J U:x4}{s1:ao},Ext w J->cU ap J ab ad A R n s1 U->ae (λr=>¬S r) w U/\gG ap S U ab ad n s1 s0 cs:=by
 obtain⟨ak,Z,aA,h1,e,f⟩:=h;obtain⟨A,R,t,p,q,x,y,B⟩:=h1.go;refine⟨A,R,t,p,q,x,y,λ{J U s1}C hm=>?_⟩;obtain⟨j,jA,E,F⟩:=B C hm;have z:=j.size;exact⟨j.mono λr _ h=>e r h.1,ak,jA,aA,F,λr a=>(E r a).elim (e r) λh I=>by have:=f r I;omega,λr a=>by have:=f r a;omega⟩
def gG.less{S':af}(h:gG ap S w ab ad n s s0 cs)(I:∀r,S' r->S r):gG ap S' w ab ad n s s0 cs:=by
 obtain⟨ak,Z,aA,h1,e,f⟩:=h;exact⟨ak,Z,aA,h1,λr a h=>e r a (I r h),λr a=>f r (I r a)⟩
def gG.pair(h:gG ap S w ab ad n s s0 cs):∃ak A R A9 aA t,b3 w ab ad ak A R A9 aA n s s0 t ap cs/\Laid w:=by
 obtain⟨ak,Z,aA,⟨A,R,A9,t,p,⟨a,_⟩,_⟩,_⟩:=h;exact⟨ak,A,R,A9,aA,t,p,a⟩
def gG.facts(h:gG ap S w ab ad n s s0 cs)(he:s.cP=[])(a:s.funs.length<=1000):ai x8 uQ [Γ ab] w λv w'=>Ext w w'/\∃g,au .i64 am w' g v (ng s)/\∀r,leads v r->w.heap.size<=r:=by
 obtain⟨ak,Z,aA,h1,_⟩:=h;exact h1.facts he a
end
section
variable{n:aK}{s s':ao}
def Rm(a:bi n.k n.sizes s)(hk:n.k<=1000):eH n.k s<=3048:=by
 have j:=a.dQ.2.1;have p:=a.vars;have h:=EW (c:=32) (l:=s.vars.map λx=>(aw x).length) λc e=>by
  obtain⟨x,f,rfl⟩:=l9.1 e;obtain⟨i,hi⟩:=X5.1 f;have:=Po (i:=(i:Int)) a;unfold bH at this;rw[r8,hi]at this;exact this
 rw[u7]at h;have q:=a.zero.1;have:s.vars.length*32<=64*32:=X0 _ Ω;unfold eH gF;omega
def Rn(a:s.vars.length=s'.vars.length)(h:ng s=ng s'):eH n.k s=eH n.k s':=by
 have key:∀(L M:List be)(r f:Λ),L.length=M.length->L.flatMap ht++r=M.flatMap ht++f->(L.map λx=>(aw x).length)=M.map λx=>(aw x).length:=λL=>by
  induction L with
  |nil=>intro M r f a _;rw[c9 a.symm]
  |cons x L j=>
   intro M r f a e;cases M with
   |nil=>simp at a
   |cons y M=>
    rw[W6,W6,Y6,Y6]at e;obtain⟨⟨_,h1,_⟩,p⟩:=PL e;rw[T0,T0,h1,j M r f (by simpa using a) p]
 unfold ng at h;rw[Y6,Y6,Y6,Y6,List.singleton_append,List.singleton_append]at h;injection h with q h;unfold eH gF;rw[key _ _ _ _ a h,q]
end
def Ro{p aQ:x3}{L:List lC}{Q:x3->x4->Prop}(ao:∀w',Ext w w'->Q (.bool true) w')(bp:aG .u8 w p pl)(bq:∀b∈pl,0<=b/\b<256)(bu:Seen fc w [aQ] L)(bC:∀x∈L,(nj x).ok)(aR:e5 w)(aS:Laid w):
  ai x8 yU [p,aQ] w Q:=by
 refine az func5 ?_;refine(Re aR aS).mono ?_;rintro _ J _ ⟨rfl,G⟩;rw[bJ,X3,aY];refine(QP (bp.ext G) bq (bm bu G) bC (aR.ext G) (aS.ext G)).mono ?_;rintro _ U _ ⟨aT,bD⟩;have aU:=G.trans aT;have cG:=G.size;have cI:=aT.size;rcases bD with⟨cs,rfl,bF,bG⟩|⟨f,ab,ad,cJ,Z,aA,s,cs,rfl,cK,hk,ap,aq,bH⟩
 .rw[gY,gZ,ha];refine bw aC.i λak bI bK N av=>?_;refine b1 (vs:=cs) aC.i bF rfl bG av λC aw bL O=>?_;rw[bJ,W3,bQ,dc ds.u];exact ao _ (aU.trans (N.put aw Ω))
 rw[gY,gZ,ha];have M:cs.length=8/\∀u∈cs,u.oneCell'=true:=by
  obtain⟨A,R,A9,t,p,_⟩:=id aq;exact bt.len p.doc
 refine bw aC.i λak bI bK N av=>?_;refine b1 (vs:=cs) aC.i M.1 rfl M.2 av λC aw bL O=>?_;have P:Ext U C:=N.put aw Ω;have bM:=aU.trans P;rw[bJ,X3,aY];have bO:=aq.ext P;have bP:kH C ak (cH f).k (cH f).sizes s:=fR.box bO.ok.2 (Ext.refl _) O;obtain⟨szv,cL,cM,cN,cO,cQ,bS,bT,_⟩:=id bP;obtain⟨E,aV,bU,_⟩:=ap.ok;have ay:∀g∈s.funs,g.live≠0:=ap.live.1;have cR:s.funs.length<=256:=ap.live.2;have aB:s.cP=[]:=bU.cP;have aD:s.cP.length<=1000:=by rw[aB];exact X8 _
 rw[aH aC.p 1 bS rfl];refine(Rf bT E.dQ.2.2 E.dQ.2.1).mono ?_;rintro cw H _ ⟨V,aX,bV,cS,bW⟩;have aZ:=(gG.start (B:=w.heap.size) aq (λr j=>by have:=bH r j;omega) P Ω).own V;have z3:=P.size;have z5:=V.size;obtain⟨S,a1⟩:∃S:af,S=λr=>(r<w.heap.size\/(U.heap.size<=r/\r<C.heap.size))\/(C.heap.size<=r/\r<H.heap.size):=⟨_,rfl⟩;rw[<-a1]at aZ;have aE:∀r,((r<w.heap.size\/(U.heap.size<=r/\r<C.heap.size))\/(C.heap.size<=r/\r<H.heap.size))->S r:=λr h=>by rw[a1];exact h
 have bX:S ak:=aE ak (by have:=O.lt;have:=N.size;omega);have bY:∀r,r<w.heap.size->S r:=λr h=>aE r (.inl (.inl h));have bZ:Seen S H [cw] aX:=al.mono (nK bV λr j h=>(⟨h.elim id False.elim,j⟩:C.heap.size<=r/\r<H.heap.size)) (λr _ h=>h.elim) λr _ h=>aE r (.inr h);have b0:=bM.trans V;have b2:∀a∈aX,hh s a:=λa b3=>Qr E (bW a b3);refine b4.range 30000 (λi _ W=>∃s1,gG [] S W ab ad (cH f) s1 s cs/\ib (cH f).k (cH f).sizes s s1/\eH (cH f).k s1+i<=eH (cH f).k s/\ae (λr=>¬S r) H W) Ω ⟨s,aZ,.rfl E aV,Ω,ae.refl _ _⟩ ?_ ?_
 rotate_left
 .rintro t4 W b5 ⟨s1,_,_,b6,_⟩;have:=Rm E hk;omega
 rintro i t4 W b5 hi ⟨s1,a2,K,b6,b7⟩ b8;refine bA Ω ?_;have b9:s1.cP=[]:=by rw[K.same.cP,aB]
 have ca:s1.funs.length<=1000:=by have:=K.same.funs;omega
 refine(a2.facts b9 ca).mono ?_;rintro cb cT _ ⟨aF,cc,a6,cd⟩;have ce:=a2.own aF;obtain⟨A,R,t,cg,ch,ci,cj,ck⟩:=ce.go;refine(EY cg ch ci cj K.lA).mono ?_;rintro _ X _ ⟨rfl,hm⟩;obtain⟨a7,aI⟩:=ck (Ext.refl _) hm;obtain⟨Y,a8,ba,bb⟩:=EV (n:=cH f) K.ok K.lA;generalize gE (cH f) s1=q at Y a8 ba bb aI;have y:=K.trans Y;have cl:=aI.less (S':=S) λr h=>.inl h;have ag:ae (λr=>¬S r) H X:=(b7.trans (aF.aa _)).trans (a7.mono λr _ h I=>h (.inl I));have cU:=aF.size;have cm:au .i64 am X cc cb (ng s1):=br a6 a7 λr j h=>h (.inr ⟨cd r j,by obtain⟨e,h⟩:=bR a6 j;omega⟩);have cn:Ext w X:=b0.then ag λr j h=>h (bY r j);have bc:ac X ak aC cs:=(O.ext V).aa ag λh=>h bX;rw[bx,bz,bE aC.p aC.i M.1 bc.range];obtain⟨cV,cW,cX,cY,cZ,c0,aJ,aK⟩:=aI.pair;refine(QK aJ aK y.same E ay Ω aD aV y.lA (al.aa bZ ag λr j h h'=>h' (h.elim False.elim id)) b2 y.val).mono ?_;rintro _ c1 _ ⟨rfl,z⟩;rw[bJ,X3,aY];have bd:=bc.ext z;have be:=cn.trans z;have bg:q.1.cP=[]:=by rw[y.same.cP,aB]
 have bh:q.1.funs.length<=1000:=by have:=y.same.funs;omega
 cases he:q.2.2 with
 |true=>
  obtain⟨ah,cp,c2,c3,cq⟩:=a8 he;rw[if_pos rfl,bf,aj];refine⟨λ_=>?_,λh=>absurd rfl h⟩;refine aW (λv w'=>v= .bool true/\Ext w w') (λv w' h=>by rw[h.1];exact ao _ h.2) λax aM=>?_;rw[ah,bJ,W3,bQ,bE aC.p aC.i M.1 bd.range];refine(xH (aJ.ext z) (aK.ext z) y.same E ay Ω aD).mono ?_;rintro _ c4 _ ⟨cr,ct,bB,rfl,aN,cu⟩;refine(Rl (fQ.pD aN)).mono ?_;rintro _ c5 _ ⟨cz,b,rfl,aO⟩;rw[aO.2 ⟨cp,by have:=Y.ok.vars;omega,cq⟩];exact aM _ _ ⟨rfl,(be.trans cr).trans cz⟩
 |false=>
  rw[if_neg Φ,bf,aj];refine⟨λh=>absurd h Φ,λ_=>?_⟩;rw[bN,aj];refine⟨λh=>absurd rfl h,λ_=>?_⟩;have bi:=cm.ext z;have aP:=cl.ext z;cases ah:q.2.1 with
  |false=>
   obtain⟨bj,cA⟩:=bb he ah;rw[bJ,W3,bQ];refine aW (λv w'=>v= .bool true/\Ext w w') (λv w' h=>by rw[h.1];exact ao _ h.2) λax aM=>?_;refine(aP.facts bg bh).mono ?_;rintro c6 c7 _ ⟨bk,c8,bl,_⟩;rw[bj]at bl;refine(vj bl.ls (bi.ext bk).ls).mono ?_;rintro _ c9 _ ⟨rfl,cB⟩;have an:=bk.trans cB;rw[decide_eq_true rfl,bQ,bE aC.p aC.i M.1 (bd.ext an).range];refine(xH (aJ.ext (z.trans an)) (aK.ext (z.trans an)) y.same E ay Ω aD).mono ?_;rintro _ da _ ⟨cC,ct,bB,rfl,aN,cu⟩;refine(Ri (fQ.pD aN) y.ok).mono ?_;rintro _ db _ ⟨cD,b,rfl,aO⟩;rw[aO.2 (by rw[bj];exact cA)];exact aM _ _ ⟨rfl,((be.trans an).trans cC).trans cD⟩
  |true=>
   have dd:=ba he ah;rw[bJ,X3,aY];refine(aP.facts bg bh).mono ?_;rintro de df _ ⟨bn,dg,cE,_⟩;refine(vj cE.ls (bi.ext bn).ls).mono ?_;rintro _ dh _ ⟨rfl,cF⟩;have bo:=bn.trans cF;rw[decide_eq_false (λe=>by have:=Rn (n:=cH f) Y.same.vars e;omega),aY,aL];exact b8 _ _ ⟨q.1,aP.ext bo,y,Ω,ag.trans ((z.trans bo).aa _)⟩
def Rp{p a:x3}{L:List lC}(e:aG .u8 w p pl)(f:∀b∈pl,0<=b/\b<256)(h:Seen fc w [a] L)(j:∀x∈L,(nj x).ok)(q:e5 w)(r:Laid w):
  ai x8 yU [p,a] w λv w'=>v= .bool true/\Ext w w':=Ro (λw' s=>⟨rfl,s⟩) e f h j q r
end Go.Proofs.YtikkpokkcdocoaaGreatDoor
