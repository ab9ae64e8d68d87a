/- own texts, made small by a tool (wip/ holds them as they were written): no statement of the seat. -/
import Derived.Test.YtikkpokkcdocoabGreatDoorXe
set_option linter.unusedVariables false
set_option linter.unusedSimpArgs false
set_option linter.unnecessarySimpa false
open Array renaming getElem?_eq_some_iff→j4
open Bool renaming not_true→Y7,not_false→V0,and_eq_true→U1,true_and→U6
open Decidable renaming not_not→Y0
open Go renaming Value→x1,World→x3,TypeId→p8,IntKind→o6
open Go.Addr renaming add_mid→T3
open Go.Builtin renaming append_→Z2,len_→V2
open Go.Instr renaming loadAt→u5,fieldAt→u6,storeAt→o9,indexAt→c9,buildSlice→Y3
open Go.IntKind renaming i64→X9,u64→T0
open Go.Proofs.Tryz renaming prog→x7
open Int renaming toNat_natCast→r9,eq_ofNat_of_zero_le→U2
open List renaming getElem?_eq_some_iff→x4,mem_of_getElem?→x5,getElem?_eq_getElem→x6,getElem?_map→x8,getD_eq_getElem?_getD→u4,take_add_one→u7,length_map→u9,length_append→r8,replicate→p9,mem_append→o5,take_length→o7,length_take→n9,mem_singleton→l9,mem_map→j5,take_of_length_le→j6,length_cons→j9,eq_nil_of_length_eq_zero→c8,length_set→b8,getElem?_set_self→b9,map_append→Z3,getElem?_eq_none→Z4,getElem?_take_of_lt→Z9,getElem?_set_ne→Y4,ext_getElem?→Y5,append_assoc→Y6,range→X3,append_nil→X5,mem_iff_getElem?→X7,flatMap_cons→W0,drop_eq_getElem_cons→W3,length_eq_one_iff→W9,mem_cons→V4,length_singleton→V6,mem_filter→U5,map_set→U9,map_cons→T1,getElem_mem→T2,mem_range→T6,length_filter_le→T9,mem_of_mem_take→S0,length→S5,flatMap_append→S8,mem_flatMap→R2
open Nat renaming le_refl→o4,le_trans→Y8,zero_le→X6,zero_add→X8,add_mul→U4,mul_one→U7,pow_le_pow_right→S2,lt_of_lt_of_le→Q1,eq_zero_or_pos→Q2
open Option renaming toList_some→o8,some→c7,isNone_some→Z5,getD_some→V1,map→V7,isSome_some→S3,isSome_none→R3
open Option.some renaming injEq→Y2
open Prod.mk renaming injEq→T5
set_option maxHeartbeats 16000000
open Option renaming some→σ,none→ν
variable{V aa w:x3}{l pl:Λ}{v:Int}{B g1 j:Nat}
namespace Go.Proofs.YtikkpokkcdocoabGreatDoor
open Go Go.Vc Go.RowKit Go.Proofs Go.Proofs.Tryz
set_option maxRecDepth 100000
section
variable{aA:List aC}{w:x3}{ae gT:Nat}{A R:ak}{n:aJ}{s:au}{t:aC}{a:hK}
theorem eC.step{aT:ak}{s':au}{bp:aC}(h:bu w ae gT A R n s t)(f:Laid w)(e:¬A 0)(J:Ext w V)(p:ai (et V) V aa)(a:Grow A V aT aa)(q:bu aa ae gT aT R n s' bp)(r:fz aA bp):eC aA w ae gT A R n s' aa:=by
 refine⟨j7 J p,iI a.1 e (f.ext J),aT,bp,(Grow.ext J).trans a,q,r,λx=>(a.2.1 0 x).elim e λy=>?_⟩;obtain⟨z,B,C,E,⟨h1,_⟩,_⟩:=h.1;have:=h.lt (.inl h1);have:=J.size;omega
theorem yh(hk:a.kind=2):cB n.k s a=match gR s a.i with
  |none=>(s,1)
  |some x=>if dq n.k a.c (ja x)≠0 then(s,dq n.k a.c (ja x))else(kT s a.i.toNat x (λg=>dL n.k g a.c) λg=>dM n.k g a.c,0):=by
 unfold cB gR;rw[if_neg Ω,if_neg Ω,if_pos hk];cases (if 0<=a.i then s.vars[a.i.toNat]? else ν)with
 |none=>rfl
 |some x=>
  simp only;by_cases e:x.gone=0
  .rw[if_neg Ω,if_pos e]
  .rw[if_pos e,if_neg e]
theorem yi(hk:a.kind=3):cB n.k s a=match gR s a.i with
  |none=>(s,1)
  |some x=>if dq n.k a.c (if aF x=[]then-1 else s.zero)≠0 then(s,dq n.k a.c (if aF x=[]then-1 else s.zero))else(kT s a.i.toNat x (λg=>dM n.k g a.c) λg=>dL n.k g a.c,0):=by
 unfold cB gR;rw[if_neg Ω,if_neg Ω,if_neg Ω,if_pos hk];cases (if 0<=a.i then s.vars[a.i.toNat]? else ν)with
 |none=>rfl
 |some x=>
  simp only;by_cases e:x.gone=0
  .rw[if_neg Ω,if_pos e]
  .rw[if_pos e,if_neg e]
theorem QD(hk:a.kind=2)(h:bu w ae gT A R n s t)(K:Laid w)(X:¬A 0)(Y:fz aA t):am x7 G8 [Γ ae,Δ a.i,Δ a.c] w (oO aA w ae gT A R n s a):=by
 have B:=h.2.2.2.1;have e:=yh (n:=n) (s:=s) hk;refine gV func67 ?_;refine bf λg1 V bG aC C=>?_;refine bf λZ aa bH ac E=>?_;have C:af aa g1 cI [Γ ae]:=af.ext C ac;have E:af aa Z ah [Δ a.i]:=E;have ag:=aC.trans ac;have bI:=aC.size;have bJ:=ac.size;have bK:=C.lt;have bL:=E.lt;rw[aw (v:=Γ ae) Ψ (C.Qz rfl),aw (v:=Δ a.i) Ψ (E.Qz rfl)];refine(Fc (i:=a.i) (h.ext ag)).mono ?_;rintro _ bM _ ⟨aj,rfl⟩;have aY:=ag.trans aj;have z3:=aj.size;cases ad:gR s a.i with
 |none=>
  rw[ad]at e;rw[if_neg Ξ,bD,al];refine⟨λ_=>?_,λh=>absurd Φ h⟩;intro aZ a1 _;exact⟨by rw[e],by rw[e];exact eC.same h K X Y (aY.trans a1)⟩
 |some x=>
 rw[ad]at e;simp only at e;obtain⟨aD,J,bN⟩:=yg ad;obtain⟨u,hu⟩:=U2 aD;rw[hu,r9]at J;rw[hu,r9]at e;rw[if_pos (by rfl),bD,al];refine⟨λh=>absurd rfl h,λ_=>?_⟩;refine bo ao.i λL bO bP aE aG=>?_;refine bl ao.i rfl rfl aG (by simp[x1.cells]) λM ak bQ N=>?_;have N:af M L ao [Δ (-1)]:=N;have z5:=aE.size;have bR:=aG.lt;have an:=aj.trans aE;have ap:af M g1 cI [Γ ae]:=(C.ext an).ab ak Ω;have aq:af M Z ah [Δ a.i]:=(E.ext an).ab ak Ω;have O:Ext w M:=(ag.trans an).then ak (by rintro r aH rfl;omega);rw[aw (v:=Γ ae) Ψ (ap.Qz rfl),aw (v:=Δ a.i) Ψ (aq.Qz rfl)];refine(h3 (i:=a.i) (h.ext O)).mono ?_;rintro _ bS _ ⟨⟨b,a2,rfl,aI⟩,aJ⟩;refine(ll (b:=b) (n:=a2)).mono ?_;rintro _ a6 _ ⟨a7,aK,rfl,bT,aL⟩;have aM:=kd aI aD (show s.vars[a.i.toNat]?=σ x by rw[hu,r9];exact J);have f:=aJ.trans a7;have bU:=aJ.size;have bV:=aL.lt;have bW:=N.lt;have aN:∀j (v:Nat),(aF x)[j]?=σ (v:Int)->(((aF x).take (j+1)).map λv=>x.un.getD v.toNat 0).foldl kg (-1)=kg ((((aF x).take j).map λv=>x.un.getD v.toNat 0).foldl kg (-1)) (x.un.getD v 0):=λj v aO=>by
  rw[u7,aO,o8,Z3,List.foldl_append];rfl
 refine jf.old ⟨_,false,ic,#[Γ aK],_,_,_,_,λj w'=>ai (λr=>r=L) a6 w'/\af w' L ao [Δ ((((aF x).take j).map λv=>x.un.getD v.toNat 0).foldl kg (-1))],λ_ _ _=>False,rfl,(lk (g:=aK) aI.1).s,?_,
  λ_ _ J h=>⟨h.1.ext J,h.2.ext J⟩,λ_ _ _ J h=>⟨h.1.trans (J.ab _),h.2.ext J⟩,λ_ _ _ _ _ h=>h,⟨aL,K.ext (O.trans f)⟩,⟨ai.refl _ _,N.ext f⟩,?_,?_,λ_ _ h=>h.elim,λ_ _ _ h=>h.elim⟩
 .rintro _ _ _ _ ⟨_,_,_,_,rfl⟩;rfl
 .rintro _ j _ a8 ⟨aP,aQ⟩ ⟨aO,rfl,v,ba,bb⟩ ⟨q,P⟩;cases bb;intro bc aR _ _;have au:(aF x)[j]?=σ (v:Int):=by rw[<-aM,x8,ba];rfl
  have bd:=p4 B J (x5 au);have av:=q.trans (aR.ab _);have bg:Ext w bc:=(O.trans f).then av (by rintro r aH rfl;omega);rw[aw (v:=Γ ae) Ψ (((ap.ext f).ab av Ω).Qz rfl),aw (v:=Δ a.i) Ψ (((aq.ext f).ab av Ω).Qz rfl)];refine(oE (i:=a.i) (v:=(v:Int)) (h.ext bg)).mono ?_;rintro _ bh _ ⟨rfl,bi⟩;have bj:h2 s a.i.toNat (v:Int).toNat=x.un.getD v 0:=by
   unfold h2;rw[hu,r9,J];rfl
  rw[if_pos (by rw[hu];exact bd),bj,bq,br];have G:=aR.trans bi;have H:=P.ext G;refine aV (λr bk=>(r= .bool (decide ((((aF x).take j).map λv=>x.un.getD v.toNat 0).foldl kg (-1)<0\/x.un.getD v 0<(((aF x).take j).map λv=>x.un.getD v.toNat 0).foldl kg (-1))))/\bk=bh) ?_ λaB I=>?_
  .rintro _ _ ⟨rfl,rfl⟩;rw[al];refine⟨λQ=>?_,λS=>?_⟩
   .refine bl ao.i rfl rfl H Ξ λbm bn bX bt=>?_;have p:ai (λr=>r=L) a8 bm:=(G.ab _).trans bn;refine⟨⟨aP.ab p Ω,iI p Ω aQ⟩,⟨q.trans p,?_⟩,λh=>by cases h⟩;rw[aN j v au];unfold kg at Q ⊢;rw[if_pos Q];exact bt
   .refine⟨⟨aP.ext G,aQ.ext G⟩,⟨q.trans (G.ab _),?_⟩,λh=>by cases h⟩;rw[aN j v au];unfold kg at S H ⊢;rw[if_neg S];exact H
  rw[aw (v:=Δ _) Ψ (H.Qz rfl),aS,al];refine⟨λQ=>I _ _ ⟨by rw[decide_eq_true (Or.inl Q)],rfl⟩,λS=>?_⟩;rw[aw (v:=Δ _) Ψ (H.Qz rfl),aS];refine I _ _ ⟨?_,rfl⟩;congr 1;exact decide_eq_decide.2 ⟨.inr,λh=>h.resolve_left S⟩
 .rintro k ax rfl ⟨q,P⟩;rw[j6 (by rw[<-aM,u9];exact o4 _),QA λv _=>(h5 B J).1]at P;have aU:Ext w ax:=(O.trans f).then q (by rintro r aH rfl;omega);have aW:af ax g1 cI [Γ ae]:=(ap.ext f).ab q Ω;have bw:af ax Z ah [Δ a.i]:=(aq.ext f).ab q Ω;rw[aw (v:=Γ ae) Ψ (aW.Qz rfl),aw (v:=Δ (ja x)) Ψ (P.Qz rfl)];refine(uE (h.ext aU)).mono ?_;rintro _ bY _ ⟨ay,rfl⟩;have U:=aU.trans ay;refine c5 (λw'=>eC aA w ae gT A R n (cB n.k s a).1 w') ?_ λaB I=>?_
  .intro w' bx bZ W _;obtain⟨bz,bA,aT,bp,bB,bC,bE⟩:=bx;refine⟨?_,bz.trans (W.ab _),bA.ext W,aT,bp,bB.trans (Grow.ext W),bC.ext W,bE⟩;rw[e];split
   .rfl
   .rename_i y;rw[Y0.1 y]
  rw[be,al];refine⟨λy=>?_,λy=>I _ ?_⟩
  .obtain⟨p,hm⟩:=nq (λh=>h y);rw[aw (v:=Γ ae) Ψ ((aW.ext ay).Qz rfl),aw (v:=Δ a.i) Ψ ((bw.ext ay).Qz rfl),hu];refine(Fe (t:=t) (u:=u) (F1:=nO) (F2:=nP) (g:=λg=>dL n.k g a.c) (z:=λg=>dM n.k g a.c) (h.ext U) (K.ext U) X Y J (λv ad=>?_) ⟨nt B.zero p.1,λ{w A s' t}az=>rJ az B.zero p⟩).mono ?_
   .have aX:=h5 (v:=v.toNat) B J;exact⟨ns aX ⟨p.1,ya ad hm⟩,λ{w A s t}az=>uF az aX p (.inr (ya ad hm))⟩
   .rintro _ aZ _ bF;refine I _ ?_;rw[e,if_neg (λh=>h y)];exact bF.before U
  .rw[e,if_pos y];exact eC.same h K X Y U
theorem QE{b m:Nat}{i:Int}{x:bJ}(f:ul s n i b m)(hi:0<=i)(J:s.vars[i.toNat]?=σ x):b=0↔aF x=[]:=by
 have a:=kd f hi J;constructor
 .rintro rfl;rw[<-a];have:fs 0 m=[]:=List.eq_nil_iff_forall_not_mem.2 λv ad=>by
   have:=(wi.1 ad).2;simp at this
  rw[this];rfl
 .intro he;rw[he]at a;have ad:=List.map_eq_nil_iff.1 a;refine Nat.eq_of_testBit_eq λj=>?_;rw[Nat.zero_testBit];cases e:b.testBit j with
  |false=>rfl
  |true=>
   have p:j<m:=by
    rcases Nat.lt_or_ge j m with h|h
    .exact h
    .have:=Nat.testBit_lt_two_pow (x:=b) (i:=j) (Q1 f.1.2 (S2 Ω h));rw[this]at e;cases e
   have:j∈fs b m:=wi.2 ⟨p,e⟩;rw[ad]at this;cases this
theorem QF(hk:a.kind=3)(h:bu w ae gT A R n s t)(E:Laid w)(G:¬A 0)(H:fz aA t):am x7 G9 [Γ ae,Δ a.i,Δ a.c] w (oO aA w ae gT A R n s a):=by
 have I:=h.2.2.2.1;have f:=yi (n:=n) (s:=s) hk;refine az func68 ?_;refine(Fc (i:=a.i) h).mono ?_;rintro _ V _ ⟨K,rfl⟩;cases ad:gR s a.i with
 |none=>
  rw[ad]at f;rw[if_neg Ξ,bD,al];exact⟨λ_=>⟨by rw[f],by rw[f];exact eC.same h E G H K⟩,λh=>absurd Φ h⟩
 |some x=>
 rw[ad]at f;simp only at f;obtain⟨M,J,ah⟩:=yg ad;rw[if_pos (by rfl),bD,al];refine⟨λh=>absurd rfl h,λ_=>?_⟩;refine(rA (h.ext K)).mono ?_;rintro _ aa _ ⟨rfl,X⟩;have N:=K.trans X;refine aV (λr w'=>r=Δ (if aF x=[]then-1 else s.zero)/\Ext w w') ?_ λaB y=>?_
 .rintro _ ai ⟨rfl,O⟩;refine(uE (h.ext O)).mono ?_;rintro _ aj _ ⟨Y,rfl⟩;have B:=O.trans Y;refine c5 (λw'=>eC aA w ae gT A R n (cB n.k s a).1 w') ?_ λaB y=>?_
  .intro w' Z;refine⟨?_,Z⟩;rw[f];generalize (if aF x=[]then(-1:Int)else s.zero)=ak;split
   .rfl
   .rename_i p;rw[Y0.1 p]
  rw[be,al];refine⟨λp=>?_,λp=>y _ ?_⟩
  .obtain⟨C,hm⟩:=nq (λh=>h p);have P:a.c<=s.zero:=by
    split at hm
    .omega
    .exact hm
   obtain⟨u,hu⟩:=U2 M;rw[hu,r9]at J;rw[hu];refine(Fe (t:=t) (u:=u) (F1:=nP) (F2:=nO) (g:=λg=>dM n.k g a.c) (z:=λg=>dL n.k g a.c) (h.ext B) (E.ext B) G H J (λv ad=>?_) ⟨ns I.zero ⟨C.1,P⟩,λ{w A s' t}L=>uF L I.zero C (.inr P)⟩).mono ?_
   .have Q:=h5 (v:=v.toNat) I J;exact⟨nt Q C.1,λ{w A s t}L=>rJ L Q C⟩
   .rintro _ an _ ab;refine y _ ?_;rw[f,if_neg (λh=>h p),hu,r9];exact ab.before B
  .rw[f,if_pos p];exact eC.same h E G H B
 refine(h3 (i:=a.i) (h.ext N)).mono ?_;rintro _ ao _ ⟨⟨b,ac,rfl,S⟩,af⟩;refine(hs (b:=b) (n:=ac) S.1).mono ?_;rintro _ ap _ ⟨⟨q,rfl,T⟩,ag⟩;have U:=(N.trans af).trans ag;have W:=QE S M J;rw[be,al];refine⟨λh=>y _ _ ⟨by rw[if_pos (W.1 (T.1 h))],U⟩,λh=>y _ _ ⟨by rw[if_neg λe=>h (T.2 (W.2 e))],U⟩⟩
theorem QG(hk:a.kind=4)(h:bu w ae gT A R n s t)(p:Laid w)(q:¬A 0)(f:fz aA t):am x7 Ha [Γ ae,Δ a.i,Δ a.v] w (oO aA w ae gT A R n s a):=by
 have z:=h.2.2.2.1;have e:cB n.k s a=match ek s a.i a.v with
  |none=>(s,1)
  |some x=>if dM n.k s.zero (x.un.getD a.v.toNat 0)<n.k then(s,7)else(ej s a.i.toNat a.v.toNat,0):=by
  unfold cB;rw[if_neg Ω,if_neg Ω,if_neg Ω,if_neg Ω,if_pos hk]<;>cases ek s a.i a.v<;>rfl
 refine az func69 ?_;refine(yc h).mono ?_;rintro _ V _ ⟨B,rfl⟩;cases ad:ek s a.i a.v with
 |none=>
  rw[ad]at e;rw[if_neg Ξ,bD,al];exact⟨λ_=>⟨by rw[e],by rw[e];exact eC.same h p q f B⟩,λh=>absurd Φ h⟩
 |some x=>
 rw[ad]at e;simp only at e;obtain⟨Y,J,Z,K⟩:=kV ad;rw[if_pos (by rfl),bD,al];refine⟨λh=>absurd rfl h,λ_=>?_⟩;have E:fh n a.i a.v:=by
  have:=p4 z J K;rwa [show((a.i.toNat:Nat):Int)=a.i by omega]at this
 refine(oE (i:=a.i) (v:=a.v) (h.ext B)).mono ?_;rintro _ aa _ ⟨rfl,L⟩;have M:h2 s a.i.toNat a.v.toNat=x.un.getD a.v.toNat 0:=by
  unfold h2;rw[J]
 rw[if_pos E,M,bq,br];have G:=B.trans L;refine(rA (h.ext G)).mono ?_;rintro _ ab _ ⟨rfl,N⟩;have H:=G.trans N;refine(rJ (h.ext H) z.zero (h5 z J)).mono ?_;rintro _ ac _ ⟨rfl,O⟩;have I:=H.trans O;refine(kb (h.ext I)).mono ?_;rintro _ af _ ⟨rfl,P⟩;have C:=I.trans P;rw[aS,al];refine⟨λQ=>?_,λS=>?_⟩
 .rw[if_pos Q]at e;exact⟨by rw[e],by rw[e];exact eC.same h p q f C⟩
 .rw[if_neg S]at e;refine(xG (i:=a.i) (v:=a.v) (h.ext C) f.room).mono ?_;rintro r ag _ ⟨_,T⟩;obtain⟨rfl,U,aT,y,W,X⟩:=T E;refine⟨by rw[e],?_⟩;rw[e];exact eC.step h p q C U W X f.set
theorem QH(hk:5<=a.kind)(h:bu w ae gT A R n s t)(O:Laid w)(Q:¬A 0)(S:fz aA t):am x7 Hb [Γ ae,Δ a.i,Δ a.v] w (oO aA w ae gT A R n s a):=by
 have au:=h.2.2.2.1;have p:cB n.k s a=match ek s a.i a.v with
  |none=>(s,1)
  |some x=>(gj s a.i.toNat a.v (aF x),0):=by
  unfold cB;rw[if_neg Ω,if_neg Ω,if_neg Ω,if_neg Ω,if_neg Ω]<;>cases ek s a.i a.v<;>rfl
 refine gV func70 ?_;refine bf λg1 V aX U q=>?_;refine bf λav aa aY P z=>?_;refine bf λax B a1 I C=>?_;have q:af B g1 cI [Γ ae]:=(af.ext q P).ext I;have z:af B av ah [Δ a.i]:=af.ext z I;have C:af B ax ah [Δ a.v]:=C;have K:=(U.trans P).trans I;have a2:=U.size;have a6:=P.size;have z3:=I.size;have ay:=q.lt;have az:=z.lt;have aB:=C.lt;rw[aw (v:=Γ ae) Ψ (q.Qz rfl),aw (v:=Δ a.i) Ψ (z.Qz rfl),aw (v:=Δ a.v) Ψ (C.Qz rfl)];refine(yc (h.ext K)).mono ?_;rintro _ a7 _ ⟨E,rfl⟩;have W:=K.trans E;have z4:=E.size;cases ad:ek s a.i a.v with
 |none=>
  rw[ad]at p;rw[if_neg Ξ,bD,al];refine⟨λ_=>?_,λh=>absurd Φ h⟩;intro a8 aC _;exact⟨by rw[p],by rw[p];exact eC.same h O Q S (W.trans aC)⟩
 |some x=>
 rw[ad]at p;simp only at p;obtain⟨aD,J,ba,bb⟩:=kV ad;rw[if_pos (by rfl),bD,al];refine⟨λh=>absurd rfl h,λ_=>?_⟩;rw[aw (v:=Γ ae) Ψ ((q.ext E).Qz rfl),aw (v:=Δ a.i) Ψ ((z.ext E).Qz rfl)];refine(h3 (i:=a.i) (h.ext W)).mono ?_;rintro _ bc _ ⟨⟨b,aE,rfl,X⟩,Y⟩;refine(ll (b:=b) (n:=aE)).mono ?_;rintro _ L _ ⟨aG,Z,rfl,bd,ac⟩;have ag:=kd X aD J;have M:=(E.trans Y).trans aG;have be:=Y.size;have bg:=M.size;have bh:=ac.lt;refine jf.old ⟨_,false,ic,#[Γ Z],_,_,_,_,λj w'=>fA aA w ae gT A R n w.heap.size (λr=>L.heap.size<=r) (gj s a.i.toNat a.v ((aF x).take j)) w'/\ai (λr=>r<w.heap.size\/L.heap.size<=r) L w',λ_ _ _=>False,rfl,(lk (g:=Z) X.1).s,?_,
  λ_ _ J h=>⟨h.1.ext J,h.2.ext J⟩,λ_ _ _ J h=>⟨h.1.ext J,h.2.trans (J.ab _)⟩,λ_ _ _ _ _ h=>h,⟨ac,O.ext (K.trans M)⟩,⟨fA.start h O Q S (K.trans M) (o4 _),ai.refl _ _⟩,?_,?_,λ_ _ h=>h.elim,λ_ _ _ h=>h.elim⟩
 .rintro _ _ _ _ ⟨_,_,_,_,rfl⟩;rfl
 .rintro _ j _ bi ⟨aj,aH⟩ ⟨bj,rfl,v,aI,aJ⟩ ⟨G,H⟩;cases aJ;intro aK f _ _;have ak:(aF x)[j]?=σ (v:Int):=by rw[<-ag,x8,aI];rfl
  have aL:fh n a.i (v:Int):=by
   have:=p4 au J (x5 ak);rwa [show((a.i.toNat:Nat):Int)=a.i by omega]at this
  have aZ:∀{g:Nat}{e:p8}{cs:List x1},w.heap.size<=g->g<B.heap.size->af B g e cs->af aK g e cs:=λaM aN aO=>((aO.ext M).ab H Ω).ext f;have N:=Qz (s:=s) (i:=a.i.toNat) (v:=a.v) ak;obtain⟨bk,bl,aP,an,aQ⟩:=G.open;rw[aw (v:=Δ a.v) Ψ ((aZ Ω aB C).Qz rfl),bD,al];refine⟨λaR=>?_,λhe=>?_⟩
  .rw[if_pos aR]at N;rw[aw (v:=Γ ae) Ψ ((aZ Ω ay q).Qz rfl),aw (v:=Δ a.i) Ψ ((aZ Ω az z).Qz rfl)];refine(xG (i:=a.i) (v:=(v:Int)) (aP.ext f) an.room).mono ?_;rintro r bm _ ⟨_,aS⟩;obtain⟨rfl,aU,aT,y,aV,ao⟩:=aS aL;rw[<-N]at ao;have bn:=H.size;obtain⟨ap,aq,bo⟩:=aQ (D':=λr=>L.heap.size<=r) (j7 f aU) ((Grow.ext f).trans aV) ao an.set (λr h=>h) λr aM aN=>Ω
   exact⟨⟨aj.ab aq Ω,ap.2.1.1⟩,⟨ap,H.trans aq⟩,λh=>by cases h⟩
  .rw[if_neg he]at N;exact⟨⟨aj.ext f,aH.ext f⟩,⟨by rw[N];exact G.ext f,H.trans (f.ab _)⟩,λh=>by cases h⟩
 .rintro k bp rfl ⟨G,H⟩;rw[j6 (by rw[<-ag,u9];exact o4 _)]at G;intro bq aW _;exact⟨by rw[p],by rw[p];exact G.done aW⟩
end
theorem QI{cO:x1}(h:aH .i64 w cO l)(O:l.length<=1000000):am x7 HR [cO,Δ v] w λr w'=>Ext w w'/\(∃g,av .i64 ah w' g r (l.filter λy=>!decide (y=v)))/\∀q,leads r q->w.heap.size<=q:=by
 refine az func138 ?_;rw[aW an.u h];refine b5.range l.length (λi out f=>Ext w f/\(∃g,av .i64 ah f g out ((l.take i).filter λy=>!decide (y=v)))/\∀r,leads out r->w.heap.size<=r) h.le ⟨Ext.refl _,⟨0,av.nil _ _ _ _⟩,λr C=>by obtain⟨_,_,_,e,_⟩:=C;cases e⟩ ?_ ?_
 .rintro q out f E G ⟨a,⟨g,hm⟩,p⟩ H;obtain⟨y,s⟩:=aI (l:=l) G;have x:(l.take (q+1)).filter (λy=>!decide (y=v))=(l.take q).filter (λy=>!decide (y=v))++(if y≠v then[y]else[]):=by
   rw[u7,s,o8,List.filter_append];congr 1;by_cases aA:y=v<;>simp[aA]
  refine bH Ω ?_;refine aV (λz A=>Ext w A/\(∃g,av .i64 ah A g z ((l.take (q+1)).filter λy=>!decide (y=v)))/\∀r,leads z r->w.heap.size<=r) (λ_ _ I=>by rw[aO];exact H _ _ I) λaB B=>?_;rw[bh an.u ah.i Ψ (h.ext a) s,bD,al];refine⟨λJ=>?_,λhe=>B _ _ ⟨a,⟨g,by rw[x,if_neg he,X5];exact hm⟩,p⟩⟩;refine EX (w0:=w) a hm p ?_ λP w' K L M N=>B _ _ ⟨L,⟨K,by rw[x,if_pos J];exact M⟩,N⟩;have h1:=T9 (λy=>!decide (y=v)) (l.take q);rw[n9]at h1;omega
 .rintro out f E ⟨a,hm,p⟩;rw[o7]at hm;refine ct Ω ?_;exact⟨a,hm,p⟩
theorem yj{i:Nat}{v:Int}:∀(L:Λ)(s:au)(x:bJ),s.vars[i]?=σ x->(∀y∈L,0<=y)->∃m,gj s i v L={s with vars:=s.vars.set i {x with mask:=m}}/\aF {x with mask:=m}=(aF x).filter λy=>!(decide (y∈L)&& !decide (y=v))
 |[],s,x,J,_=>by
  refine⟨x.mask,?_,(List.filter_eq_self.2 λy _=>Ξ).symm⟩;have:s.vars.set i x=s.vars:=by
   apply Y5;intro q;by_cases e:i=q
   .subst e;rw[b9 (x4.1 J).1,J]
   .rw[Y4 e]
  show s={s with vars:=s.vars.set i x};rw[this]
 |w::L,s,x,J,f=>by
  have hw:=f w (.head _);have z:=(x4.1 J).1;rw[gj];by_cases e:w≠v
  .rw[if_pos e];have r:ej s i w.toNat={s with vars:=s.vars.set i {x with mask:=((x.mask.toNat ||| 2 ^ w.toNat:Nat):Int)}}:=by unfold ej;rw[J]
   obtain⟨m,h1,p⟩:=yj L (ej s i w.toNat) {x with mask:=((x.mask.toNat ||| 2 ^ w.toNat:Nat):Int)} (by rw[r];exact b9 z) λy a=>f y (.tail _ a);refine⟨m,?_,?_⟩
   .rw[h1,r];simp only[List.set_set]
   .rw[p,x9 hw,List.filter_filter];refine List.filter_congr λy _=>?_;by_cases a:y=w
    .subst a;simp[e]
    .simp[a]
  .rw[if_neg e];obtain⟨m,h1,p⟩:=yj L s x J λy a=>f y (.tail _ a);refine⟨m,h1,?_⟩;rw[p];have e:=Y0.1 e;refine List.filter_congr λy _=>?_;by_cases a:y=v
   .simp[a]
   .have:y≠w:=λh=>a (h.trans e);simp[a,this]
theorem filter_one(h:l.Nodup)(ad:v∈l):l.filter (λy=>decide (y=v))=[v]:=by
 induction l with
 |nil=>cases ad
 |cons a l p=>
  have f:=List.nodup_cons.1 h;by_cases e:a=v
  .subst e;rw[List.filter_cons_of_pos Ξ,List.filter_eq_nil_iff.2 λx J=>by simp;intro q;exact f.1 (q▸J)]
  .rw[List.filter_cons_of_neg (by simpa using e)];exact p f.2 ((V4.1 ad).resolve_left (Ne.symm e))
def jH(u:au)(a:hK):Option bJ:=if 3<a.kind then ek u a.i a.v else gR u a.i
section
variable{w:x3}{ae gT ap:Nat}{A R:ak}{A9:Nat->ak}{aG:ak}{n:aJ}{s u:au}{t:aC}{h:List aC}{cs:List x1}{a:hK}
theorem Ff{x:bJ}(h:jH u a=σ x):0<=a.i/\u.vars[a.i.toNat]?=σ x/\x.gone=0/\(3<a.kind->a.v∈aF x):=by
 unfold jH at h;split at h
 .obtain⟨h1,e,f,p⟩:=kV h;exact⟨h1,e,f,λ_=>p⟩
 .rename_i hk;obtain⟨h1,e,f⟩:=yg h;exact⟨h1,e,f,λh=>absurd h hk⟩
theorem QJ(h:¬(0<=a.i/\a.i<u.vars.length)):jH u a=ν:=by
 cases he:jH u a with
 |none=>rfl
 |some x=>
  obtain⟨h1,e,_⟩:=Ff he;exact absurd ⟨h1,by have:=(x4.1 e).1;omega⟩ h
theorem QK{x:bJ}(e:0<=a.i)(J:u.vars[a.i.toNat]?=σ x):jH u a=if x.gone=0/\(3<a.kind->a.v∈aF x)then σ x else ν:=by
 unfold jH;by_cases hk:3<a.kind
 .rw[if_pos hk];unfold ek;rw[if_pos e,J];simp only[hk,true_implies]
 .rw[if_neg hk];unfold gR;rw[if_pos e,J];simp only[hk,false_implies,and_true]
theorem QL(hk:2<=a.kind/\a.kind<=5)(h:jH u a=ν):cB n.k u a=(u,1):=by
 unfold jH at h;by_cases e:3<a.kind
 .rw[if_pos e]at h;unfold cB;rw[if_neg Ω,if_neg Ω,if_neg Ω,if_neg Ω,h];split<;>rfl
 .rw[if_neg e]at h;by_cases f:a.kind=2
  .rw[yh f,h]
  .rw[yi Ω,h]
theorem Fg{x:bJ}{c:Int}(q:0<=c):ja x<c↔aF x=[]\/∃v∈aF x,x.un.getD v.toNat 0<c:=by
 unfold ja;constructor
 .intro h;cases a:aF x with
  |nil=>exact .inl rfl
  |cons b l=>
   refine .inr ?_;rw[a]at h;simp only[T1]at h;by_cases e:∀v∈b::l,c<=x.un.getD v.toNat 0
   .have:=(p1 (l.map λv=>x.un.getD v.toNat 0) (x.un.getD b.toNat 0) c).2 ⟨e b (.head _),λy f=>by obtain⟨v,ad,rfl⟩:=j5.1 f;exact e v (.tail _ ad)⟩;omega
   .simp only[Classical.not_forall]at e;obtain⟨v,ad,r⟩:=e;exact⟨v,ad,Ω⟩
 .rintro (h|⟨v,ad,s⟩)
  .rw[h];show(-1:Int)<c;omega
  .cases a:aF x with
   |nil=>rw[a]at ad;cases ad
   |cons b l=>
    rw[a]at ad;simp only[T1];rcases Int.lt_or_le ((l.map λv=>x.un.getD v.toNat 0).foldl min (x.un.getD b.toNat 0)) c with aA|aA
    .exact aA
    .obtain⟨w,p⟩:=(p1 _ _ _).1 aA;rcases V4.1 ad with rfl|ad
     .omega
     .have:=p _ (j5.2 ⟨v,ad,rfl⟩);omega
def yk(n:aJ)(u:au)(x:bJ)(a:hK):Prop:=aF x=[]\/(a.kind=3/\u.zero<a.c)\/(a.kind=2/\∃v∈aF x,x.un.getD v.toNat 0<a.c)
theorem QM{x:bJ}(hk:a.kind=2\/a.kind=3)(h:jH u a=σ x):(¬(0<=a.c/\a.c<=n.k)->cB n.k u a=(u,3))/\((0<=a.c/\a.c<=n.k)->yk n u x a->cB n.k u a=(u,7))/\
  ((0<=a.c/\a.c<=n.k)->¬yk n u x a->cB n.k u a=(kT u a.i.toNat x (λg=>if a.kind=2 then dL n.k g a.c else dM n.k g a.c) (λg=>if a.kind=2 then dM n.k g a.c else dL n.k g a.c),0)/\(a.kind=2->∀v∈aF x,a.c<=x.un.getD v.toNat 0)/\(a.kind=3->a.c<=u.zero)):=by
 have ad:gR u a.i=σ x:=by unfold jH at h;rwa [if_neg Ω]at h
 rcases hk with hk|hk
 .have e:=yh (n:=n) (s:=u) hk;rw[ad]at e;simp only at e;simp only[hk];refine⟨λf=>?_,λf hi=>?_,λf hi=>?_⟩
  .have p:∀m,dq n.k a.c m=3:=λm=>by unfold dq;rw[if_pos f]
   rw[p,if_pos Φ]at e;exact e
  .have q:ja x<a.c:=(Fg f.1).2 (hi.elim .inl λh=>h.elim (λh=>Ω) λh=>.inr h.2);have p:∀m,m<a.c->dq n.k a.c m=7:=λm hm=>by unfold dq;rw[if_neg (λh=>h f),if_pos hm]
   rw[p _ q,if_pos Φ]at e;exact e
  .have q:¬ja x<a.c:=λh=>hi (((Fg f.1).1 h).elim .inl λh=>.inr (.inr ⟨hk,h⟩));have p:dq n.k a.c (ja x)=0:=by unfold dq;rw[if_neg (λh=>h f),if_neg q]
   rw[p,if_neg Φ]at e;refine⟨by rw[e];simp,λ_ v ad=>?_,λh=>absurd h Φ⟩;rcases Int.lt_or_le (x.un.getD v.toNat 0) a.c with aA|aA
   .exact absurd (.inr (.inr ⟨hk,v,ad,aA⟩)) hi
   .exact aA
 .have e:=yi (n:=n) (s:=u) hk;rw[ad]at e;simp only at e;simp only[hk];refine⟨λf=>?_,λf hi=>?_,λf hi=>?_⟩
  .have p:∀m,dq n.k a.c m=3:=λm=>by unfold dq;rw[if_pos f]
   rw[p,if_pos Φ]at e;exact e
  .have q:(if aF x=[]then-1 else u.zero)<a.c:=by
    by_cases r:aF x=[]
    .rw[if_pos r];omega
    .rw[if_neg r];rcases hi with hi|hi|hi
     .exact absurd hi r
     .exact hi.2
     .omega
   have p:∀m,m<a.c->dq n.k a.c m=7:=λm hm=>by unfold dq;rw[if_neg (λh=>h f),if_pos hm]
   rw[p _ q,if_pos Φ]at e;exact e
  .have r:¬aF x=[]:=λh=>hi (.inl h);have w:¬u.zero<a.c:=λh=>hi (.inr (.inl ⟨hk,h⟩));have p:dq n.k a.c u.zero=0:=by unfold dq;rw[if_neg (λh=>h f),if_neg w]
   rw[if_neg r,p,if_neg Φ]at e;exact⟨by rw[e];simp,λh=>absurd h Φ,λ_=>Ω⟩
end
section
variable{w:x3}{ae gT ap:Nat}{A R:ak}{A9:Nat->ak}{aG:ak}{n:aJ}{s u:au}{t:aC}{h:List aC}{cs:List x1}{a:hK}
theorem QN(p:cj w ae gT ap A R A9 aG n s u t h cs)(aq:bx n.k n.sizes u)(hk:2<=a.kind/\a.kind<=5):am x7 vD [Γ ap,Δ (a.kind:Int),Δ a.i,Δ a.pos,Δ a.v,Δ a.c] w λr w'=>r=Δ (cB n.k u a).2/\dr w ae gT ap A R A9 aG n s t h (cB n.k u a).1 w':=by
 have cr:=aq.vars;have cw:=aq.eV;refine az func64 ?_;have bM:cs[0]?=σ (Δ n.k):=by obtain⟨_,_,_,_,_,_,rfl,_⟩:=p.oI;rfl
 rw[aQ ba.p 0 p.box bM,aS,al];refine⟨λh=>Ω,λ_=>?_⟩;refine aV (λr w'=>r= .bool (!(jH u a).isSome)/\Ext w w') ?_ λaB a7=>?_
 rotate_left
 .rw[bV];refine p.look.load λfd cz=>?_;refine(PJ (i:=a.i) cz).mono ?_;rintro _ V _ ⟨rfl,W⟩;rw[bE,bZ];refine⟨λO=>a7 _ _ ⟨by rw[QJ (λh=>by rw[cr]at h;rw[decide_eq_true h]at O;cases O)];rfl,W⟩,λO=>?_⟩;have a8:0<=a.i/\a.i<n.sizes.length:=by simpa using O
  obtain⟨x,J⟩:=aI (l:=u.vars) (i:=a.i.toNat) Ω;have bo:=QK a8.1 J;obtain⟨szv,cA,dl,aT,dm,bp,bO,_,_,cC,cD,dn,dp,dq⟩:=(p.look).ext W;rw[aQ ba.p 4 bO rfl];refine mQ (α:=Bool) (a:=decide (x.gone≠0)) (i:=a.i.toNat) rfl Ω kv.u eh.i Ψ cD (by rw[x8,J];rfl) λbR bq=>?_;have bq:[bR]=[x1.bool (decide (x.gone≠0))]:=bq;obtain rfl:bR=x1.bool (decide (x.gone≠0)):=by simpa using bq
  rw[al];refine⟨λP=>a7 _ _ ⟨by rw[bo,if_neg λh=>P h.1];rfl,W⟩,λP=>?_⟩;have P:=Y0.1 P;rw[bN,al];refine⟨λbr=>?_,λbr=>a7 _ _ ⟨by rw[bo,if_pos ⟨P,λh=>absurd h Ω⟩];rfl,W⟩⟩;rw[aQ ba.p 3 bO rfl];refine mQ (α:=Λ) (a:=aF x) (i:=a.i.toNat) rfl Ω dx.u an.i Ψ cC (by rw[x8,J];rfl) λds cE=>?_;refine(xH (eG cE)).mono ?_;rintro _ aa _ ⟨rfl,I⟩;rw[bE];refine a7 _ _ ⟨?_,W.trans I⟩;rw[bo];by_cases ad:a.v∈aF x
  .rw[if_pos ⟨P,λ_=>ad⟩,decide_eq_true ad];rfl
  .rw[if_neg λh=>ad (h.2 Ω),decide_eq_false ad];rfl
 rintro _ V ⟨rfl,W⟩;cases hm:jH u a with
 |none=>
  have f:=QL (n:=n) hk hm;rw[R3,V0,bT];exact⟨by rw[f],by rw[f];exact dr.same p W⟩
 |some x=>
 rw[S3,Y7,a1];obtain⟨cF,J,dt,cG⟩:=Ff hm;obtain⟨C,aK⟩:=U2 cF;rw[aK,r9]at J;have bt:=(x4.1 J).1;have H:∀y∈aF x,0<=y/\y<x.un.length:=λy N=>(i7.1 N).1;simp only[aK];have bS:∀v:Nat,0<=x.un.getD v 0/\x.un.getD v 0<=n.k:=λv=>h5 aq J;have M:=p.ext W;have du:cs[0]?=σ (Δ n.k):=bM;have bu:∀{aa:x3}{eT:au}{bU:List x1}{bw:Nat->ak}{aL:bJ},cj aa ae gT ap A R bw aG n s eT t h bU->eT.vars[C]?=σ aL->∃aT av y,aH .i64 aa y aL.un/\(∀{B:x3}{K:x1->x1->x1->x1->x1->Prop},Ext aa B->K (Γ ap) (.pointer (σ ⟨ap,0+5,ν⟩)) aT (.pointer (σ ⟨av,0+C*1,ν⟩)) y->
    ac x7 (bP (Γ ap)) B λax=>ac x7 (u6 ba ax 5) B λaC=>ac x7 (u5 eE aC) B λaM=>ac x7 (c9 eE aM (Δ (C:Int))) B λbb=>ac x7 (u5 ay bb) B λcH=>K ax aC aM bb cH)/\
   ∀{w':x3}{v:Nat}{c:Int}{K:Unit->x3->Prop},Ext aa w'->v<aL.un.length->(∀bW,jF aa ae gT ap A R bw aG n s t h (eB eT C aL (aL.un.set v c)) bW->K () bW)->ac x7 (c9 ay y (Δ (v:Int))) w' λa=>aD x7 (o9 ao a (Δ c)) w' K:=λ{aa eT bU bw aL}bX E=>by
  obtain⟨av,cI,y,cJ,cK,Z,bz⟩:=ye bX E;have cL:=(x4.1 E).1;refine⟨.slice (σ ⟨av,0,ν⟩) eT.vars.length cI,av,y,Z,λ{B K}aE aX=>?_,bz⟩;rw[aQ ba.p 5 (bX.box.ext aE) cJ,fb eE.u ay.i cL λ_=>rfl,aw (v:=y) (o:=0+C*1) Ψ (by rw[X8,U7];exact iH aE cK)];exact aX
 obtain⟨cM,cN,bc,bY,cO,af,cP,b0⟩:=Qf M J;have b1:∀{B:x3}{K:x1->x1->x1->Prop},Ext V B->K (Γ ap) (.pointer (σ ⟨ap,0+3,ν⟩)) (.slice (σ ⟨cM,0,ν⟩) u.vars.length cN)->
   ac x7 (bP (Γ ap)) B λax=>ac x7 (u6 ba ax 3) B λaC=>ac x7 (u5 dx aC) B λaM=>K ax aC aM:=λaE aX=>by
  rw[aQ ba.p 3 (M.box.ext aE) bY];exact aX
 have oJ:∀{B:x3}{K:x1->Prop},Ext V B->K bc->
   ac x7 (bP (Γ ap)) B λax=>ac x7 (u6 ba ax 3) B λaC=>ac x7 (u5 dx aC) B λaM=>ac x7 (c9 dx aM (Δ (C:Int))) B λbb=>ac x7 (u5 an bb) B K:=λaE aX=>by
  rw[aQ ba.p 3 (M.box.ext aE) bY,fb dx.u an.i bt λ_=>rfl,aw (v:=bc) (o:=0+C*1) Ψ (by rw[X8,U7];exact iH aE cO)];exact aX
 have low:∀{u':au}{w':x3},dr V ae gT ap A R A9 aG n s t h u' w'->dr w ae gT ap A R A9 aG n s t h u' w':=λbd=>dr.comp (W.ab _) (λq r H=>.inl ⟨q,H⟩) bd;refine aV (λ_ w'=>dr w ae gT ap A R A9 aG n s t h (cB n.k u a).1 w'/\(cB n.k u a).2=0) (λ_ w' bd=>⟨by rw[bd.2],bd.1⟩) λcQ bA=>?_;refine aV (λr w'=>r= .bool (decide (a.kind=2\/a.kind=3))/\V=w') ?_ λdv b2=>?_
 rotate_left
 .rw[be,al];refine⟨λE=>b2 _ _ ⟨?_,rfl⟩,λE=>?_⟩
  .congr 1;exact decide_eq_decide.2 ⟨λ_=>.inl Ω,λ_=>E⟩
  .rw[be];refine b2 _ _ ⟨?_,rfl⟩;congr 1;exact decide_eq_decide.2 ⟨λh=>.inr Ω,λh=>Ω⟩
 rintro _ _ ⟨rfl,rfl⟩;rw[al];refine⟨λcR=>?_,λdw=>?_⟩
 .
  obtain⟨cS,bf,bB⟩:=QM (n:=n) cR hm;refine Ax.mono ?_;rintro _ aa _ ⟨rfl,I⟩;have dy:=I;have b3:cu a.c n.k↔0<=a.c/\a.c<=n.k:=⟨λh=>h.2,λE=>⟨cw,E⟩⟩;rw[bE,bZ];refine⟨λO=>?_,λO=>?_⟩
  .have f:=cS λh=>absurd (b3.2 h) (by simpa using O);exact⟨by rw[f],by rw[f];exact low (dr.same M I)⟩
  have a8:=b3.1 (show cu a.c n.k by simpa using O);have bf:=bf a8;have bB:=bB a8;refine aV (λr w'=>Ext V w'/\∃b,r= .bool b/\(b=true↔aF x=[]\/(a.kind=3/\u.zero<a.c))) ?_ λdz bC=>?_
  rotate_left
  .refine oJ I ?_;rw[aW an.u (af.ext I),be,al];refine⟨λhe=>bC _ _ ⟨I,true,rfl,⟨λ_=>.inl (c8 Ω),λ_=>rfl⟩⟩,λbg=>?_⟩;have bg:aF x≠[]:=λh=>bg (by rw[h];rfl);rw[be,al];refine⟨λbr=>?_,λbr=>bC _ _ ⟨I,false,rfl,⟨(λh=>by cases h),λh=>h.elim (λh=>absurd h bg) λh=>Ω⟩⟩⟩;have bD:cs[2]?=σ (Δ u.zero):=by obtain⟨_,_,_,_,_,_,rfl,_⟩:=p.oI;rfl
   rw[aQ ba.p 2 (M.box.ext I) bD,bN];exact bC _ _ ⟨I,_,rfl,by rw[decide_eq_true_eq];exact⟨λh=>.inr ⟨Ω,h⟩,λh=>h.elim (λh=>absurd h bg) λh=>h.2⟩⟩
  rintro _ cT ⟨aN,b,rfl,b4⟩;rw[bZ];refine⟨λcU=>?_,λag=>?_⟩
  .have f:=bf ((b4.1 cU).elim .inl λh=>.inr (.inl h));exact⟨by rw[f],by rw[f];exact low (dr.same M aN)⟩
  have b6:¬(aF x=[]\/(a.kind=3/\u.zero<a.c)):=λh=>by rw[b4.2 h]at ag;cases ag
  refine oJ aN ?_;rw[aW an.u (af.ext aN)];refine b5.range (aF x).length (λq _ w'=>Ext V w'/\(a.kind=2->∀v∈(aF x).take q,a.c<=x.un.getD v.toNat 0)) af.le ⟨aN,λ_ v ad=>by simp at ad⟩ ?_ ?_
  .rintro q b7 aJ cV bF ⟨L,bi⟩ cW;obtain⟨v,ad⟩:=aI (l:=aF x) bF;have aj:=x5 ad;have bj:=H v aj;obtain⟨G,rfl⟩:=U2 bj.1;refine bH Ω ?_;rw[bh an.u ah.i Ψ (af.ext L) ad];refine aV (λr w'=>aJ=w'/\r= .bool (decide (a.kind=2/\x.un.getD G 0<a.c))) ?_ λdA b8=>?_
   .rintro _ _ ⟨rfl,rfl⟩;rw[al];refine⟨λaY=>?_,λbG=>?_⟩
    .have f:=bf (.inr (.inr ⟨aY.1,_,aj,aY.2⟩));exact⟨by rw[f],by rw[f];exact low (dr.same M L)⟩
    .rw[aO];refine cW _ _ ⟨L,λE y N=>?_⟩;rw[u7,ad,o8,o5,l9]at N;rcases N with N|rfl
     .exact bi E y N
     .rcases Int.lt_or_le (x.un.getD G 0) a.c with aA|aA
      .exact absurd ⟨E,aA⟩ bG
      .exact aA
   rw[be,al];refine⟨λE=>?_,λE=>b8 _ _ ⟨rfl,by rw[decide_eq_false λh=>E Ω]⟩⟩;obtain⟨aT,av,y,Z,look,_⟩:=bu (M.ext L) J;refine look (Ext.refl _) ?_;rw[bh ay.u ao.i Ψ Z (getD_some (i:=G) Ω),bN];refine b8 _ _ ⟨rfl,?_⟩;congr 1;exact decide_eq_decide.2 ⟨λh=>⟨Ω,h⟩,λh=>h.2⟩
  rintro b7 aJ cV ⟨L,bi⟩;rw[o7]at bi;have cX:¬yk n u x a:=λhi=>hi.elim (λh=>b6 (.inl h)) λh=>h.elim (λh=>b6 (.inr h)) λ⟨E,v,ad,aY⟩=>by have:=bi E v ad;omega
  obtain⟨f,dC,dD⟩:=bB cX;rw[aK,r9]at f;refine ct Ω ?_;refine oJ L ?_;rw[aW an.u (af.ext L)];obtain⟨g,P⟩:∃g:Int->Int,g=λg=>if a.kind=2 then dL n.k g a.c else dM n.k g a.c:=⟨_,rfl⟩;obtain⟨z,bI⟩:∃z:Int->Int,z=λg=>if a.kind=2 then dM n.k g a.c else dL n.k g a.c:=⟨_,rfl⟩;rw[<-P,<-bI]at f;have cY:=M.ext L;have cZ:=af.ext L;have ca:=rH x;obtain⟨cb,dE⟩:∃cb,bc=cb:=⟨_,rfl⟩;have c0:eB u C x (ed g x.un ((aF x).take 0))=u:=by
   unfold eB;show{u with vars:=u.vars.set C x}=u;have:u.vars.set C x=u.vars:=by
    apply Y5;intro i;by_cases e:C=i
    .subst e;rw[b9 bt,J]
    .rw[Y4 e]
   rw[this]
  have c1:∀{w':x3},ai (A9 2) aJ w'->aH .i64 w' bc (aF x):=λc2=>hT cZ c2 λr H b n c e O=>M.gI.1 0 2 r Φ (cP r ⟨b,n,c,e,O⟩) H;refine ce.range (aF x).length (λq w'=>jF aJ ae gT ap A R A9 aG n s t h (eB u C x (ed g x.un ((aF x).take q))) w') af.le (by rw[c0];exact jF.same cY (Ext.refl _)) ?_ ?_
  .rintro q bk c3 bF aP c4;obtain⟨bl,cc,cd,aR,bK,c6⟩:=id aP;obtain⟨v,ad⟩:=aI (l:=aF x) bF;have aj:=x5 ad;have bj:=H v aj;obtain⟨G,rfl⟩:=U2 bj.1;have bm:(eB u C x (ed g x.un ((aF x).take q))).vars[C]?=σ {x with un:=ed g x.un ((aF x).take q)}:=b9 bt;have dF:(ed g x.un ((aF x).take q)).length=x.un.length:=uz _ _;have bL:=uA (g:=g) ((aF x).take q) x.un (G:Int) (ca.sublist (List.take_sublist _ _)) (λy N=>H y (S0 N)) Ω;rw[if_neg (yb ca ad),r9]at bL;have c7:=bS G;obtain⟨aT,av,y,Z,look,bz⟩:=bu aR bm;refine bH Ω ?_;refine c5 (λQ=>jF aJ ae gT ap A R A9 aG n s t h (eB u C x (ed g x.un ((aF x).take (q+1)))) Q) (λQ S=>by rw[aO];exact c4 _ S) λda db=>?_;have aZ:∀{U:x3},Ext bk U->ac x7 (c9 ay y (Δ (G:Int))) U λa'=>aD x7 (o9 ao a' (Δ (g (x.un.getD G 0)))) U λ(_:Unit)Q=>da Q:=λbn=>by
    refine bz bn (by show G<(ed g x.un ((aF x).take q)).length;omega) λQ S=>db _ (jF.comp bl bK c6 ?_);have e:eB (eB u C x (ed g x.un ((aF x).take q))) C {x with un:=ed g x.un ((aF x).take q)} ((ed g x.un ((aF x).take q)).set G (g (x.un.getD G 0)))=eB u C x (ed g x.un ((aF x).take (q+1))):=by
     rw[E9 ad,r9,bL];unfold eB;simp only[List.set_set]
    rw[e]at S;exact S
   have cg:(ed g x.un ((aF x).take q))[G]?=σ (x.un.getD G 0):=by rw[getD_some Ω,bL]
   rw[bh an.u ah.i Ψ (c1 bl) ad,be,al];refine⟨λE=>?_,λE=>?_⟩
   .intro B X _ _;refine look X (look X ?_);rw[bh ay.u ao.i Ψ (Z.ext X) cg];refine(uJ Ω Ω).mono ?_;rintro _ U _ ⟨rfl,Y⟩;refine⟨.inl Y,?_⟩;have:=aZ (X.trans Y);rw[P]at this;simp only[if_pos (show a.kind=2 by omega)]at this;exact this
   .intro B X _ _;refine look X (look X ?_);rw[bh ay.u ao.i Ψ (Z.ext X) cg];refine(pA Ω Ω).mono ?_;rintro _ U _ ⟨rfl,Y⟩;refine⟨.inl Y,?_⟩;have:=aZ (X.trans Y);rw[P]at this;simp only[if_neg (show¬a.kind=2 by omega)]at this;exact this
  .rintro bk c3 aP;rw[o7]at aP;refine ct Ω ?_;have aP:=aP.E2;obtain⟨bl,cc,cd,aR,bK⟩:=id aP;have ch:cd[2]?=σ (Δ u.zero):=by obtain⟨_,_,_,_,_,_,rfl,_⟩:=aR.oI;rfl
   have dc:=aq.zero;have aZ:∀{U:x3},Ext bk U->aD x7 (o9 ao (.pointer (σ ⟨ap,0+2,ν⟩)) (Δ (z u.zero))) U λ(_:Unit)Q=>cQ b7 Q:=λbn=>by
    refine Qe (aR.ext bn) λQ S=>bA _ _ ⟨?_,by rw[f]⟩;rw[f];have ci:=dr.comp (A9:=cc) (bn.ab _) (λq r H=>.inl ⟨q,H⟩) S;have a2:=dr.comp bl bK ci;exact low (dr.comp (L.ab _) (λq r H=>.inl ⟨q,H⟩) a2)
   rw[be,al];refine⟨λE=>?_,λE=>?_⟩
   .rw[aQ ba.p 2 aR.box ch];refine(pA Ω Ω).mono ?_;rintro _ U _ ⟨rfl,Y⟩;rw[bV,aU ba.p rfl];have:=aZ Y;rw[bI]at this;simp only[if_pos (show a.kind=2 by omega)]at this;exact this
   .rw[aQ ba.p 2 aR.box ch];refine(uJ Ω Ω).mono ?_;rintro _ U _ ⟨rfl,Y⟩;rw[bV,aU ba.p rfl];have:=aZ Y;rw[bI]at this;simp only[if_neg (show¬a.kind=2 by omega)]at this;exact this
 .
  have ck:3<a.kind:=Ω
  have aj:=cG ck;obtain⟨G,bp⟩:=U2 (H _ aj).1;have bj:=(H _ aj).2;have cl:ek u a.i a.v=σ x:=by unfold jH at hm;rwa [if_pos ck]at hm
  rw[be,al];refine⟨λa2=>?_,λa2=>?_⟩
  .have a2:a.kind=4:=Ω
   have f:cB n.k u a=if dM n.k u.zero (x.un.getD a.v.toNat 0)<n.k then(u,7)else(ej u a.i.toNat a.v.toNat,0):=by
    unfold cB;rw[if_neg Ω,if_neg Ω,if_neg Ω,if_neg Ω,if_pos a2,cl]
   have dc:=aq.zero;have c7:=bS G;intro aa I _ _;have bD:cs[2]?=σ (Δ u.zero):=by obtain⟨_,_,_,_,_,_,rfl,_⟩:=p.oI;rfl
   obtain⟨aT,av,y,Z,look,_⟩:=bu (M.ext I) J;rw[aQ ba.p 2 (M.box.ext I) bD];refine look (Ext.refl _) ?_;rw[bp,bh ay.u ao.i Ψ Z (getD_some (i:=G) Ω)];refine(pA Ω Ω).mono ?_;rintro _ cT _ ⟨rfl,aN⟩;have cm:=I.trans aN;rw[bp,r9]at f;unfold dM at f;rw[aS,al];refine⟨λaY=>?_,λbG=>?_⟩
   .rw[if_pos aY]at f;exact⟨by rw[f],by rw[f];exact low (dr.same M cm)⟩
   .rw[if_neg bG]at f;intro aJ L _ _;have a6:=cm.trans L;refine b1 a6 ?_;refine oJ a6 ?_;have dG:=uG x;have dd:=aq.eW.2.2;refine(QI (v:=(G:Int)) (af.ext a6) (by
     obtain⟨cn,cp⟩:=aI (l:=n.sizes) (i:=C) Ω;have h1:=(aq.var C x cn J cp).1;have E:=dd cn (x5 cp);omega)).mono ?_
    rintro cA bk _ ⟨bm,⟨gz,de⟩,df⟩;refine⟨.inl bm,?_⟩;have dg:=a6.trans bm;have dH:=a6.size;refine b0 (m:=((x.mask.toNat ||| 2 ^ G:Nat):Int)) dg (gz:=gz) (by rw[show G=(G:Int).toNat from rfl,x9 Ω];exact de) (λr H=>by have:=df r H;omega) λQ S=>bA _ _ ⟨?_,by rw[f]⟩;rw[f,aK,r9];unfold ej;rw[J];exact low S
  .have ci:a.kind=5:=Ω
   obtain⟨m,dh,di⟩:=yj (i:=a.i.toNat) (v:=a.v) (aF x) u x (by rw[aK,r9];exact J) λy N=>(H y N).1;have f:cB n.k u a=(gj u a.i.toNat a.v (aF x),0):=by
    unfold cB;rw[if_neg Ω,if_neg Ω,if_neg Ω,if_neg Ω,if_neg Ω,cl]
   have dj:aF {x with mask:=m}=[a.v]:=by
    rw[di,<-filter_one (rH x) aj];refine List.filter_congr λy N=>?_;rw[decide_eq_true N,U6,Bool.not_not]
   rw[be,al];refine⟨λ_=>?_,λh=>Ω⟩;refine b1 (Ext.refl _) ?_;refine ee (k:=.i64) an.u ah.i rfl λv4 dk aJ dI L cq=>?_;refine b0 (m:=m) L (gz:=dk) (by rw[dj];exact cq) (λr H=>by have:=bQ cq H;omega) λQ S=>bA _ _ ⟨?_,by rw[f]⟩;rw[f,dh,aK,r9];exact low S
end
def yl(T:Nat)(acc:List ck)(s:aE):Prop:=∃M,(∀x∈acc,x.lines.length<=M)/\(∀q∈s.shared,q.2.length<=M)/\3*acc.length+M+s.toks.length<=T
theorem QO{sizes:Λ}{s s':aE}{l:List (Λ×Int)}{M:Nat}(x:∀q∈s.shared,q.2.length<=M)(h:dA sizes s=σ (l,s')):
  s'.shared=s.shared/\∃e,M<=e/\l.length<=e/\e+s'.toks.length+1<=M+s.toks.length:=by
 unfold dA at h;cases f:bd (-ax) ax s with
 |none=>rw[f]at h;cases h
 |some q=>
  obtain⟨n,s1⟩:=q;rw[f]at h;simp only at h;have h1:=dg f;obtain⟨A,B,p⟩:=h1.eqs;have C:=h1.1;split at h
  .cases U:s1.shared[(-n-1).toNat]? with
   |none=>rw[U]at h;cases h
   |some q=>
    obtain⟨z,l'⟩:=q;rw[U]at h;simp only at h;split at h
    .simp only[Y2,T5]at h;obtain⟨rfl,rfl⟩:=h;have hm:=x5 U;rw[p]at hm;exact⟨p,M,o4 _,x _ hm,Ω⟩
    .cases h
  .have:=iN (λacc t=>t.shared=s.shared/\t.toks.length+acc.length<=s1.toks.length) (λacc t a bp ⟨r,y⟩ g=>by
    obtain⟨E,F,G,w⟩:=oc g;obtain⟨f1,f2,f3⟩:=w.eqs;exact⟨by rw[f3,r],by have:=w.1;simp only[r8,V6];omega⟩) n.toNat [] (a8 (decide (16384<min (s1.told+n) ax)) {s1 with told:=min (s1.told+n) ax}) l s' ⟨p,by simp[a8]⟩ h
   obtain⟨⟨r,y⟩,_⟩:=this;exact⟨r,M+l.length,Ω,Ω,Ω⟩
theorem QP{all:Λ}{T:Nat}{acc:List ck}{s s':aE}{f:ck}(K:yl T acc s)(h:c0 all s=σ (f,s')):yl T (acc++[f]) s':=by
 obtain⟨M,L,B,N⟩:=K;unfold c0 at h;cases y:bd (-ax) ax s with
 |none=>rw[y]at h;cases h
 |some q=>
 obtain⟨a,s1⟩:=q;rw[y]at h;simp only at h;have t0:=dg y;cases h1:eR all.length a.natAbs s1 with
 |none=>rw[h1]at h;cases h
 |some q=>
 obtain⟨sc,r⟩:=q;rw[h1]at h;simp only at h;obtain⟨C,_⟩:=tc h1;generalize sc.map (λv=>all.getD v.toNat 0)=sizes at h;cases z:bd 0 ax (a8 (decide (6<a.natAbs)||dk sizes) r)with
 |none=>rw[z]at h;cases h
 |some q=>
 obtain⟨other,A⟩:=q;rw[z]at h;simp only at h;have E:=dg z;have F:A.shared=s.shared:=by rw[E.eqs.2.2];show r.shared=_;rw[C.eqs.2.2,t0.eqs.2.2]
 have O:A.toks.length+2<=s.toks.length:=by
  have:=t0.1;have:=C.1;have w:=E.1;have:(a8 (decide (6<a.natAbs)||dk sizes) r).toks.length=r.toks.length:=rfl;omega
 cases w:dA sizes A with
 |none=>rw[w]at h;cases h
 |some q=>
 obtain⟨lines,p⟩:=q;rw[w]at h;simp only[Y2,T5]at h;obtain⟨rfl,rfl⟩:=h;obtain⟨g1,G,P,H,Q⟩:=QO (M:=M) (by rw[F];exact B) w;have I:∀q∈p.shared,q.2.length<=G:=λq e=>by rw[g1,F]at e;have:=B q e;omega
 refine⟨G,λx J=>?_,λq e=>?_,?_⟩
 .rcases o5.1 J with J|J
  .have:=L x J;omega
  .rw[l9.1 J];exact H
 .split at e
  .rcases o5.1 e with e|e
   .exact I q e
   .rw[l9.1 e];exact H
  .exact I q e
 .have:(if a<0 then{p with shared:=p.shared++[(sizes,lines)]}else p).toks=p.toks:=by split<;>rfl
  rw[this,r8,V6];omega
theorem Fh{M:Nat}:∀(l:List ck),(∀x∈l,x.lines.length<=M)->iS l<=l.length*M
 |[],_=>by simp[iS]
 |x::l,h=>by
  have h1:=Fh l λy a=>h y (.tail _ a);have e:=h x (.head _);unfold iS at h1 ⊢;rw[T1,List.sum_cons,j9,U4,Nat.one_mul];omega
theorem QQ{q:Λ}{f:bY}(W:q.length<=300)(h:fp q=σ f):iS f.funs<=16384/\f.funs.length<=100:=by
 have X:=pm q.length q (o4 _);unfold fp at h;rw[if_neg Ω]at h;cases ag:gY ⟨(lex q).1,0,false,[]⟩with
 |none=>rw[ag]at h;cases h
 |some p=>
 obtain⟨Y,s'⟩:=p;rw[ag]at h;simp only at h;split at h
 rotate_left
 .cases h
 cases h;have r:(⟨(lex q).1,0,false,[]⟩:aE).toks.length<=300:=by show(lex q).1.length<=300;omega
 have H:(⟨(lex q).1,0,false,[]⟩:aE).shared=[]:=rfl;generalize (⟨(lex q).1,0,false,[]⟩:aE)=s at ag r H;unfold gY at ag;cases w:dI s with
 |none=>rw[w]at ag;cases ag
 |some p=>
 obtain⟨name,s0⟩:=p;rw[w]at ag;simp only at ag;obtain⟨V,aa⟩:=qR w;have a0:s0.toks.length<=300/\s0.shared=[]:=⟨by rw[V]at r;simp at r;omega,by rw[aa];exact H⟩;have num:∀{lo hi n:Int}{b:Bool}{s t:aE},(s.toks.length<=300/\s.shared=[])->bd lo hi (a8 b s)=σ (n,t)->t.toks.length<=300/\t.shared=[]:=λ{lo hi n b s t}L N=>by
  have:=dg N;have h1:(a8 b s).toks.length=t.toks.length+1:=this.1;have e:s.toks.length=t.toks.length+1:=h1;exact⟨Ω,by rw[this.eqs.2.2];exact L.2⟩
 cases h1:bd 1 ax (a8 (decide (64<name.length)) s0)with
 |none=>rw[h1]at ag;cases ag
 |some p=>
 obtain⟨n,s1⟩:=p;rw[h1]at ag;simp only at ag;have O:=num a0 h1;cases e:bd 1 ax (a8 (decide (64<n)) s1)with
 |none=>rw[e]at ag;cases ag
 |some p=>
 obtain⟨most,P⟩:=p;rw[e]at ag;simp only at ag;have Q:=num O e;cases x:bd 0 ax P with
 |none=>rw[x]at ag;cases ag
 |some p=>
 obtain⟨y,A⟩:=p;rw[x]at ag;simp only at ag;have a3:A.toks.length<=300/\A.shared=[]:=by
  have:=dg x;exact⟨by have:=this.1;omega,by rw[this.eqs.2.2];exact Q.2⟩
 cases B:bd 1 ax (a8 (decide (256<y)) A)with
 |none=>rw[B]at ag;cases ag
 |some p=>
 obtain⟨k,I⟩:=p;rw[B]at ag;simp only at ag;have a4:=num a3 B;cases C:cL (fe most) n.toNat [] (a8 (decide (2147483648<k)) I)with
 |none=>rw[C]at ag;cases ag
 |some p=>
 obtain⟨sizes,E⟩:=p;rw[C]at ag;simp only at ag;have J:=iN (f:=fe most) (λ(acc:Λ)t=>t.toks.length<=300/\t.shared=[]) (λacc t a bp g1 g=>by
  unfold fe at g;cases F:bd 1 most t with
  |none=>rw[F]at g;cases g
  |some p=>
   obtain⟨z,K⟩:=p;rw[F]at g;simp only[Y2,T5]at g;obtain⟨rfl,rfl⟩:=g;have:=dg F;exact⟨by show K.toks.length<=300;have:=this.1;omega,by show K.shared=[];rw[this.eqs.2.2];exact g1.2⟩) n.toNat [] (a8 (decide (2147483648<k)) I) sizes E a4 C
 cases G:cL (λ_ s=>c0 sizes s) y.toNat [] E with
 |none=>rw[G]at ag;cases ag
 |some p=>
 obtain⟨funs,R⟩:=p;rw[G]at ag;simp only[Y2,T5]at ag;obtain⟨rfl,rfl⟩:=ag;obtain⟨⟨M,S,_,Z⟩,_⟩:=iN (yl 300) (λacc t a bp T g=>QP T g) y.toNat [] E funs R ⟨0,Ξ,by rw[J.1.2];simp,by have:=J.1.1;simp;omega⟩ G;have ab:=Fh funs S;show iS funs<=16384/\funs.length<=100;refine⟨?_,Ω⟩;have U:∀k<101,k*(300-3*k)<=16384:=Φ
 have ac:=Nat.mul_le_mul_left funs.length (show M<=300-3*funs.length by omega);have:=U funs.length Ω;omega
def jI(A R:ak)(A9:Nat->ak)(aG:ak)(ap:Nat)(r:Nat):Prop:=A r\/R r\/(∃q,A9 q r)\/aG r\/r=ap
section
variable{P:ak}{gX w w':x3}{ae gT ap SB SC SD:Nat}{A R aT R':ak}{A9 cp:Nat->ak}{aG EP:ak}{n:aJ}{s s':au}{t bp:aC}{h h':List aC}{cs b6:List x1}{m cg:Nat}
variable{Z ny:ak}
end
def rQ(s:au)(j:Int):Bool:=match s.funs[j.toNat]? with
 |some f=>decide (f.sc.length=2)
 |none=>false
def kX(s:au)(i:Int):Λ:=(iB s i s.funs.length).filter (rQ s)
def kh(n:aJ)(s:au)(i v j:Int):Int:=match s.funs[j.toNat]? with
 |some f=>match f.sc[(1-gM f.sc i).toNat]? with
  |some o=>match s.vars[o.toNat]? with
   |some x=>(gi n.k (aF x) (kU n s j.toNat (gM f.sc i) v o)).1
   |none=>0
  |none=>0
 |none=>0
def uP(n:aJ)(s:au)(i v:Int):Int:=(kX s i).foldl (λc j=>min (c+kh n s i v j) n.k) (hJ n s i v)
theorem Fi{k:Int}{of:Int->Int}(hk:0<=k)(h:∀v∈l,0<=of v/\of v<=k):0<=(gi k l of).1/\(gi k l of).1<=k:=by
 unfold gi;have:∀(l:Λ)(p:Int×Int),(0<=p.1/\p.1<=k)->(∀v∈l,0<=of v/\of v<=k)->0<=(l.foldl (nl of) p).1/\(l.foldl (nl of) p).1<=k:=λl=>by
  induction l with
  |nil=>exact λp a _=>a
  |cons v l f=>
   intro p a e;refine f _ ?_ λu hu=>e u (.tail _ hu);unfold nl;split
   .exact e v (.head _)
   .exact a
 exact this l (k,-1) ⟨hk,Int.le_refl _⟩ h
theorem Fj{n:aJ}{s:au}{pos o u:Int}(a:bx n.k n.sizes s):0<=kU n s j pos v o u/\kU n s j pos v o u<=n.k:=by
 have h1:=Et (j:=j) (tl:=if pos=1 then[u,v]else[v,u]) a;have e:=uu (i:=o) (v:=u) a;have hk:=a.eV;unfold kU;omega
theorem QR{n:aJ}{s:au}{i j:Int}(p:bx n.k n.sizes s)(h:j∈kX s i):0<=j/\∃f,s.funs[j.toNat]?=σ f/\f.live≠0/\i∈f.sc/\f.sc.length=2:=by
 unfold kX iB at h;obtain⟨h1,e⟩:=U5.1 h;obtain⟨q,a,rfl⟩:=j5.1 h1;obtain⟨_,a⟩:=U5.1 a;unfold mq at a;unfold rQ at e;rw[r9]at e;cases ag:s.funs[q]? with
 |none=>rw[ag]at a;cases a
 |some f=>
  rw[ag]at a e;simp only[U1,decide_eq_true_eq]at a e;exact⟨Ω,f,by rw[r9];exact ag,a.1,a.2,e⟩
section
variable{w:x3}{ae gT:Nat}{A R:ak}{n:aJ}{s:au}{t:aC}
theorem QS{i:Int}(a:bx n.k n.sizes s)(m:Nat):0<=((kX s i).take m).foldl (λc j=>min (c+kh n s i v j) n.k) (hJ n s i v)/\((kX s i).take m).foldl (λc j=>min (c+kh n s i v j) n.k) (hJ n s i v)<=n.k:=by
 have hk:=a.eV;have e:∀j,0<=kh n s i v j/\kh n s i v j<=n.k:=λj=>by
  unfold kh;split
  .split
   .split
    .exact Fi Ω λu _=>Fj a
    .omega
   .omega
  .omega
 have:∀(l:Λ)(c:Int),(0<=c/\c<=n.k)->0<=l.foldl (λc j=>min (c+kh n s i v j) n.k) c/\l.foldl (λc j=>min (c+kh n s i v j) n.k) c<=n.k:=λl=>by
  induction l with
  |nil=>exact λc h=>h
  |cons j l f=>exact λc h=>f (min (c+kh n s i v j) n.k) (by have:=e j;omega)
 exact this _ _ (uu a)
theorem QT{i:Int}{O P Q aq eu:Nat}{E:x1}{cap:Array x1}(h:bu w ae gT A R n s t)(au:Laid w)(h1:af w g1 o3 [.func (.func eu) #[] cap])(ax:∀l,pY w eu cap l (hJ n s i))(ay:af w O an [E])(S:av .i64 ah w aq E (kX s i))(G:af w P cI [Γ ae])(aA:af w Q ah [Δ i])(l:Λ):
  pY w H6 #[Γ g1,Γ O,Γ P,Γ Q] l (uP n s i):=λw' v H ad=>by
 refine az func156 ?_;rw[aw (v:=.func (.func eu) #[] cap) Ψ ((h1.ext H).Qz rfl)];refine am.mono (ax [v] w' v H (.head _)) ?_;rintro _ V _ ⟨rfl,U⟩;have I:=H.trans U;have J:=S.ext I;obtain⟨_,_,_,aK⟩:=cU J.ls;rw[aw (v:=E) Ψ ((ay.ext I).Qz rfl),aW an.u J.ls];have a:=h.2.2.2.1;refine b5.range (kX s i).length (λq a6 aa=>Ext V aa/\a6=Δ (((kX s i).take q).foldl (λc j=>min (c+kh n s i v j) n.k) (hJ n s i v))) J.ls.le ⟨Ext.refl _,rfl⟩ ?_ ?_
 .rintro q _ aa aB aC ⟨z,rfl⟩ aD;obtain⟨j,K⟩:=aI (l:=(kX s i)) aC;obtain⟨aL,f,ag,aM,aE,aG⟩:=QR a (x5 K);have L:=(a.funs f (x5 ag)).1;have W:gL f.sc:=w4 L.up;obtain⟨p,X⟩:=X7.1 aE;have aN:=(x4.1 X).1;have Y:=wY W X;obtain⟨o,B⟩:=aI (l:=f.sc) (i:=(1-(p:Int)).toNat) Ω;have aP:=a.vars;have aQ:=L.vars o (x5 B);have aR:=(L.scope.1 o (x5 B)).1;obtain⟨y,Z⟩:=aI (l:=s.vars) (i:=o.toNat) Ω;have ab:=I.trans z;refine bH Ω ?_;rw[bh an.u ah.i Ψ (S.ext ab).ls K];intro aT ac _ _;have e:=ab.trans ac;rw[aw (v:=Γ ae) Ψ ((G.ext e).Qz rfl),aw (v:=Γ ae) Ψ ((G.ext e).Qz rfl),aw (v:=Δ i) Ψ ((aA.ext e).Qz rfl)];have ai:=kS (h.ext e) ag;rw[show((j.toNat:Nat):Int)=j by omega]at ai;refine ai.mono ?_;rintro r aU _ ⟨C,aV,_,aH⟩;refine⟨.inl C,?_⟩;refine(tN (x:=i) aH.ls W).mono ?_;rintro _ aX _ ⟨rfl,M⟩;refine⟨.inl (C.trans M),?_⟩;rw[Y];have N:=(e.trans C).trans M;have aj:=EL (v:=v) (pos:=(p:Int)) (h.ext N) (au.ext N) ag ⟨Ω,Ω⟩ aG B Z;rw[show((j.toNat:Nat):Int)=j by omega]at aj;refine aj.mono ?_;rintro _ aY _ ⟨ak,rfl⟩;have ao:=N.trans ak;have ap:kh n s i v j=(gi n.k (aF y) (kU n s j.toNat (p:Int) v o)).1:=by
   unfold kh;rw[ag];simp only;rw[Y,B];simp only;rw[Z]
  rw[bq,br,aw (v:=Γ ae) Ψ ((G.ext ao).Qz rfl),<-ap];refine(Eo (h.ext ao) (QS a q) (by rw[ap];exact Fi (by have:=a.eV;omega) λu _=>Fj a)).mono ?_;rintro _ aZ _ ⟨rfl,aJ⟩;rw[aO];refine aD _ _ ⟨((((z.trans ac).trans C).trans M).trans ak).trans aJ,?_⟩;rw[u7,K,o8,List.foldl_append];rfl
 .rintro _ aa aB ⟨z,rfl⟩;rw[aS,al];refine⟨λh=>Ω,λ_=>⟨?_,U.trans z⟩⟩;rw[o7];rfl
theorem QU{i:Int}(h:bu w ae gT A R n s t)(ac:Laid w):am x7 He [Γ ae,Δ i] w λr w'=>Ext w w'/\(h4 n s i=false->r= .tuple #[Δ 0,Δ (-1),Δ 1])/\
  ∀x,h4 n s i=true->s.vars[i.toNat]?=σ x->r= .tuple #[Δ (gi n.k (aF x) (uP n s i)).1,Δ (gi n.k (aF x) (uP n s i)).2,Δ 0]:=by
 refine az func74 ?_;refine bf λaH V bh aI z=>?_;refine bf λaJ aa bi aj B=>?_;have z:af aa aH cI [Γ ae]:=z.ext aj;have B:af aa aJ ah [Δ i]:=B;have Q:=aI.trans aj;rw[aw (v:=Γ ae) Ψ (z.Qz rfl),aw (v:=Δ i) Ψ (B.Qz rfl)];refine(Ep (h.ext Q)).mono ?_;rintro _ aK _ ⟨rfl,C⟩;have S:=Q.trans C;cases ad:h4 n s i with
 |false=>
  rw[if_neg Φ,bD,al];exact⟨λ_=>⟨S,λ_=>rfl,λ_ h=>by cases h⟩,λh=>absurd Φ h⟩
 |true=>
  obtain⟨aL,x,ak,_⟩:=xN h.2.2.2.1 ad;rw[if_pos rfl,bD,al];refine⟨λh=>absurd rfl h,λ_=>?_⟩;rw[aw (v:=Γ ae) Ψ ((z.ext C).Qz rfl),aw (v:=Δ i) Ψ ((B.ext C).Qz rfl)];refine(PR (i:=i) (h.ext S)).mono ?_;rintro ao U _ ⟨K,bj,aM,ap⟩;have aq:=S.trans K;rw[ig];have au:=(z.ext C).ext K;have aN:=(B.ext C).ext K;have bk:=Q.size;have z3:=C.size;have z4:=K.size;have aO:(iB s i s.funs.length).length<=100000000:=by
   have h1:=(h.ext aq).2.2.1.1;have W:=rm s;have bm:t.cells.length=s.cells.length:=by have:=congrArg S5 h.2.1;unfold aC.bR at this;rw[u9]at this;exact this
   have aP:∀(L:List b7),L.length<=(L.flatMap fw).length:=λL=>by
    induction L with
    |nil=>exact o4 _
    |cons a L bn=>rw[W0,r8,j9];have:(fw a).length=a.cs.length+1:=rfl;omega
   have bp:=aP s.funs;unfold iB;rw[u9];have:=T9 (mq s i) (X3 s.funs.length);rw[List.length_range]at this;omega
  have low:∀{G:x3},ai (λr=>leads ao r) U G->Ext w G:=λE=>aq.then E λr bt he=>by have:=ap r he;omega
  have X:∀{G:x3}{g:Nat}{e:p8}{cs:List x1},g<aK.heap.size->af U g e cs->ai (λr=>leads ao r) U G->af G g e cs:=λbw aQ E=>aQ.ab E λhe=>by have:=ap _ he;omega
  have bx:=z.lt;have bz:=B.lt;refine(EN (p:=λj=>!rQ s j) aM aO λw' j E M=>?_).mono ?_
  .have M:0<=j/\∃f,s.funs[j.toNat]?=σ f:=by
    unfold iB at M;obtain⟨q,H,rfl⟩:=j5.1 M;obtain⟨H,_⟩:=U5.1 H;have H:=T6.1 H;exact⟨Ω,_,x6 (by rw[r9];exact H)⟩
   obtain⟨bA,f,ag⟩:=M;refine az func155 ?_;have aR:=low E;rw[aw (v:=Γ ae) Ψ ((X Ω au E).Qz rfl)];have av:=kS (h.ext aR) ag;rw[show((j.toNat:Nat):Int)=j by omega]at av;refine av.mono ?_;rintro r ax _ ⟨aS,bB,_,I⟩;rw[aW an.u I.ls,bD];refine⟨?_,aS⟩;unfold rQ;rw[ag];simp only;congr 1;by_cases W:f.sc.length=2
   .rw[decide_eq_true W,decide_eq_false Ω];rfl
   .rw[decide_eq_false W,decide_eq_true Ω];rfl
  rintro aT ax _ ⟨N,I,_⟩;have aU:(iB s i s.funs.length).filter (λj=>!!rQ s j)=kX s i:=by unfold kX;congr 1;funext j;rw[Bool.not_not]
  rw[aU]at I;have aV:=low N;have aX:=X Ω au N;have aY:=X Ω aN N;refine bo an.i λbC bE bF ay aZ=>?_;obtain⟨_,_,_,aA⟩:=cU I.ls;have z5:=N.size;have bG:=ay.size;refine bl (v:=aT) an.i (by rw[aA];rfl) (by rw[aA];rfl) aZ Φ λa1 a2 bH a6=>?_;have O:Ext ax a1:=ay.put a2 Ω;have aB:=aV.trans O;have Y:=aX.ext O;have Z:=aY.ext O;rw[aw (v:=Γ ae) Ψ (Y.Qz rfl),aw (v:=Δ i) Ψ (Z.Qz rfl)];refine(Ev (i:=i) (h.ext aB)).mono ?_;rintro _ a7 _ ⟨aD,cap,rfl,a8⟩;refine bo o3.i λgo bI bJ ba bb=>?_;have bK:=aD.size;refine bl (v:=.func (.func sC) #[] cap) o3.i rfl rfl bb Φ λaE bc bL bd=>?_;have aG:Ext a7 aE:=ba.put bc Ω;have y:=aD.trans aG;have J:=aB.trans y;rw[aw (v:=Γ ae) Ψ ((Y.ext y).Qz rfl),aw (v:=Δ i) Ψ ((Z.ext y).Qz rfl),ig];have be:∀l,pY aE sC cap l (hJ n s i):=λl w' v P ad=>a8 l w' v (aG.trans P) ad;refine(xL (h.ext J) (ac.ext J) aL ak (QT (h.ext J) (ac.ext J) bd be (a6.ext y) (I.ext (O.trans y)) (Y.ext y) (Z.ext y) _)).mono ?_;rintro _ bM _ ⟨bg,rfl⟩;rw[bq,br];exact⟨J.trans bg,(λh=>by cases h),λbN _ P=>by rw[ak]at P;cases P;rfl⟩
end
def simpStep(of:Λ->Int)(p:Int×Option (Λ))(tl:Λ):Int×Option (Λ):=if p.2=ν\/of tl<p.1 then(of tl,σ tl)else p
def hl(k:Int)(of:Λ->Int)(l:List (Λ)):Int×Option (Λ):=l.foldl (simpStep of) (k,ν)
def ki(w:x3)(B:Nat)(v:x1):Option (Λ)->Prop
 |none=>v= .slice ν 0 0
 |some tl=>tl≠[]/\∃g,B<=g/\av .i64 ah w g v tl
theorem ki.ab{w':x3}{v:x1}{o:Option (Λ)}{S:ak}(h:ki w B v o)(e:ai S w w')(f:∀r,B<=r->r<w.heap.size->¬S r):ki w' B v o:=by
 cases o with
 |none=>exact h
 |some tl=>
  obtain⟨h1,g,p,a⟩:=h;exact⟨h1,g,p,bt a e λr q=>by obtain⟨s,x⟩:=bQ a q;exact f r Ω Ω⟩
theorem ki.ext{w':x3}{v:x1}{o:Option (Λ)}(h:ki w B v o)(J:Ext w w'):ki w' B v o:=h.ab (J.ab λ_=>False) λ_ _ _ h=>h
theorem ki.one{v:x1}{o:Option (Λ)}(h:ki w B v o):∃a n c,v= .slice a n c:=by
 cases o with
 |none=>exact⟨ν,0,0,h⟩
 |some tl=>
  obtain⟨_,g,_,e⟩:=h;exact cU e.ls
def QV(n:aJ)(s:au)(B:Nat)(w':x3)(j pos v:Int)(r:x1):Prop:=((¬∃f u x,jB s j pos v f u x)->r= .tuple #[Δ 0,.slice ν 0 0,Δ 1])/\∀f u x,jB s j pos v f u x->
 ∃a,r= .tuple #[Δ (hl n.k (eN s j.toNat) (fy s f.sc pos f.sc.length 0 ((p9 f.sc.length 0).set pos.toNat v))).1,a,Δ 0]/\ki w' B a (hl n.k (eN s j.toNat) (fy s f.sc pos f.sc.length 0 ((p9 f.sc.length 0).set pos.toNat v))).2
section
variable{w:x3}{ae gT:Nat}{A R:ak}{n:aJ}{s:au}{t:aC}
theorem QW{j pos:Int}(h:bu w ae gT A R n s t)(bJ:Laid w)(cA:∀r,A r\/R r->r<w.heap.size):am x7 Hg [Γ ae,Δ j,Δ pos,Δ v] w λr w'=>Ext w w'/\QV n s w.heap.size w' j pos v r:=by
 refine az func77 ?_;refine bf λg1 V cB bK U=>?_;refine bf λbL aa cC a2 W=>?_;have U:af aa g1 cI [Γ ae]:=U.ext a2;have W:af aa bL ah [Δ j]:=W;have aD:=bK.trans a2;rw[aw (v:=Γ ae) Ψ (U.Qz rfl),aw (v:=Δ j) Ψ (W.Qz rfl)];refine(Ew (h.ext aD)).mono ?_;rintro _ cD _ ⟨aj,e,rfl,he,a7⟩;have aE:=aD.trans aj;rw[bD,al];refine⟨λap=>⟨aE,λ_=>by rw[he.resolve_left ap],λf u x G=>absurd (a7.2 ⟨f,u,x,G⟩) ap⟩,λbM=>?_⟩;obtain⟨f,u,x,G⟩:=a7.1 (Y0.1 bM);have S:=U.ext aj;have a8:=W.ext aj;rw[aw (v:=Γ ae) Ψ (S.Qz rfl),aw (v:=Δ j) Ψ (a8.Qz rfl)];have ba:=kS (h.ext aE) G.ag;have cE:=G.xO;rw[show((j.toNat:Nat):Int)=j by omega]at ba;refine ba.mono ?_;rintro aK bN _ ⟨aq,bC,cF,au⟩;have bO:=aE.trans aq;obtain⟨aF,_,cG⟩:=h.2.2.2.1.funs f (x5 G.ag);have bP:f.sc.length<=6:=aF.scope.2;obtain⟨m,hm⟩:∃m,m=f.sc.length:=⟨_,rfl⟩;rw[aW an.u au.ls,<-hm];refine jS (k:=.i64) an.u ah.i Ω Ω λgt bb cH bc bd=>?_;have be:av .i64 ah bb gt (.slice (σ ⟨gt,0,ν⟩) m m) (p9 m 0):=av.of (n:=m) (bX.full (by simpa using bd) Ξ (by simp[maxLen];omega));refine bo an.i λgtb cJ cK bg bR=>?_;have cL:=aD.size;have z3:=aj.size;have z4:=aq.size;have z5:=bc.size;have cM:=bg.size;refine bl (v:=.slice (σ ⟨gt,0,ν⟩) m m) an.i rfl rfl bR Φ λbS bT cN aG=>?_;have ax:Ext bb bS:=bg.put bT Ω;have cO:=(x4.1 G.hu).1;have cP:=G.ec;rw[aw (v:=.slice (σ ⟨gt,0,ν⟩) m m) Ψ (aG.Qz rfl),hx (i:=pos.toNat) Ω an.u ah.i (be.ext ax) Θ];refine hy ah.i (be.ext ax) Θ λbU bh bV bW=>?_;have cQ:=bd.lt;have cR:=ax.size;have X:Ext bN bU:=(bc.trans ax).put bh Ω;have bi:=bO.trans X;have bj:=(S.ext aq).ext X;have bY:=(a8.ext aq).ext X;have b0:=aG.ab bh Ω;rw[aw (v:=Γ ae) Ψ (bj.Qz rfl)];refine(kb (h.ext bi)).mono ?_;rintro _ b1 _ ⟨rfl,bk⟩;refine bo ao.i λY cS cT bm bn=>?_;refine bl (v:=Δ n.k) ao.i rfl rfl bn Φ λcV b2 cW b3=>?_;have cX:=bV;have z9:=bk.size;have cY:=bm.size;have cZ:=bn.lt;refine bo an.i λZ H c0 aI ay=>?_;have ay:af H Z an [.slice ν 0 0]:=ay;have b4:Ext b1 H:=(bm.then b2 λr E he=>by have he:r=Y:=he;omega).trans aI;have N:=bk.trans b4;have bp:=bi.trans N;have bw:=bj.ext N;have b5:=bY.ext N;have bx:=b0.ext N;have b6:=bW.ext N;have b7:=b3.ext aI;have c1:=ay.lt;have c2:=aG.lt;have c3:=U.lt;have c4:=W.lt;have z12:=aI.size;have c5:=bp.size;rw[aw (v:=Γ ae) Ψ (bw.Qz rfl),aw (v:=.slice (σ ⟨gt,0,ν⟩) m m) Ψ (bx.Qz rfl),ig];obtain⟨M,b9⟩:∃M:ak,M=λr=>r=gt\/r=Y\/r=Z:=⟨_,rfl⟩;have O:∀r,M r↔r=gt\/r=Y\/r=Z:=λr=>by rw[b9]
 have aJ:∀r,M r->w.heap.size<=r/\r<H.heap.size:=λr E=>by rcases(O r).1 E with rfl|rfl|rfl<;>omega
 have c6:aH .i64 H aK f.sc:=au.ls.ext (X.trans N);have aA:∀{bz:x3},ai M H bz->Ext w bz:=λp=>bp.then p λr E he=>by have:=aJ r he;omega
 have ca:∀r,leads aK r->¬M r:=λr E he=>by
  obtain⟨c7,cb⟩:=bQ au E;rcases(O r).1 he with y|y|y<;>omega
 let I:List (Λ)->x3->Prop:=λd w'=>ai M H w'/\af w' Y ao [Δ (hl n.k (eN s j.toNat) d).1]/\∃B,af w' Z an [B]/\ki w' H.heap.size B (hl n.k (eN s j.toNat) d).2;have step:∀d tl,hl n.k (eN s j.toNat) (d++[tl])=simpStep (eN s j.toNat) (hl n.k (eN s j.toNat) d) tl:=λd tl=>by unfold hl;rw[List.foldl_append];rfl
 have bA:=h.2.2.2.1;have c9:=bA.vars;refine(PA (gT:=gT) (sc:=f.sc) (pos:=pos) (gt:=gt) (M:=M) (I:=I) (A:=A) (R:=R) (t:=t) (n:=n) bA (λu hu=>⟨(aF.scope.1 u hu).1,aF.vars u hu⟩) bP ⟨m,by rw[hm]⟩ ((O _).2 (.inl rfl)) ?_ ?_ ?_ ?_ f.sc.length 0 ((p9 m 0).set pos.toNat v) [] H Ω (by rw[b8,List.length_replicate,hm]) ?_ b6).mono ?_
 .rintro d w' ⟨p,K,_⟩;refine⟨h.ext (aA p),bJ.ext (aA p),(bt (au.ext (X.trans N)) p λr E=>ca r E).ls,λr E=>?_⟩;have:=(aJ r E).2;have:=p.size;omega
 .rintro d w' cc J ⟨p,K,B,P,C⟩;exact⟨p.trans (J.ab M),K.ext J,B,P.ext J,C.ext J⟩
 .rintro d w' cc aC ⟨p,K,B,P,C⟩;have z:=p.size;exact⟨p.trans (aC.mono λr _ he=>(O r).2 (.inl he)),K.ab aC Ω,B,P.ab aC Ω,C.ab aC λr E _ he=>by have he:r=gt:=he;omega⟩
 .rintro d tl w' ⟨p,K,B,P,C⟩ bB aL;refine az func162 ?_;have cd:=aA p;have aM:∀{r:Nat},r≠gt->r≠Y->r≠Z->¬M r:=λa b c he=>by rcases(O _).1 he with y|y|y<;>omega
  have ce:=bw.ab p (aM Ω Ω Ω);have cg:=b5.ab p (aM Ω Ω Ω);have bE:=bx.ab p (aM Ω Ω Ω);rw[aw (v:=Γ ae) Ψ (ce.Qz rfl),aw (v:=Δ j) Ψ (cg.Qz rfl),aw (v:=.slice (σ ⟨gt,0,ν⟩) m m) Ψ (bE.Qz rfl),show j=((j.toNat:Nat):Int) by omega];refine Eu (h.ext cd) bB.ls λcb bF L=>?_;rw[bq,br];have ch:=p.trans (L.ab M);have S:=K.ext L;have aN:=P.ext L;have ci:=C.ext L;obtain⟨da,fn,db,aO⟩:=C.one;have aP:=bB.ext L;refine aV (λr aQ=>r= .bool (decide ((hl n.k (eN s j.toNat) d).2=ν\/eN s j.toNat tl<(hl n.k (eN s j.toNat) d).1))/\Ext bF aQ) ?_ ?_
  .rintro _ aQ ⟨rfl,q⟩;have aR:=ch.trans (q.ab M);rw[al];refine⟨λcj=>?_,λaT=>?_⟩
   .rw[aw (v:=.slice (σ ⟨gt,0,ν⟩) m m) Ψ (((bE.ext L).ext q).Qz rfl)];rw[<-hm]at aL;refine(kB (aP.ext q).ls Ω).mono ?_;rintro a6 ck _ ⟨ac,cl,dc,aU⟩;obtain⟨_,_,_,bG⟩:=cU aU.ls;have cm:=aR.trans (ac.ab M);have dd:=aR.size;refine bl (v:=Δ (eN s j.toNat tl)) ao.i rfl rfl ((S.ext q).ext ac) Ξ λde aX df cn=>?_;refine bl (v:=a6) an.i (by rw[bG];rfl) (by rw[bG];rfl) (((aN.ext q).ext ac).ab aX Ω) Ξ λcp aY dg cq=>?_;have aZ:ai M ck cp:=(aX.mono λr _ he=>(O r).2 (.inr (.inl he))).trans (aY.mono λr _ he=>(O r).2 (.inr (.inr he)));have ad:hl n.k (eN s j.toNat) (d++[tl])=(eN s j.toNat tl,σ tl):=by rw[step];unfold simpStep;rw[if_pos cj]
    refine⟨⟨cm.trans aZ,?_,a6,cq,?_⟩,?_,?_⟩
    .rw[ad];exact cn.ab aY Ω
    .rw[ad];refine⟨λy=>by rw[y]at aL;simp at aL;omega,cl,Ω,bt aU aZ λr E he=>?_⟩;obtain⟨dh,di⟩:=bQ aU E;have:=(aJ r he).2;omega
    .exact ((((aP.ext q).ext ac).ab aX Ω).ab aY Ω)
    .exact ((L.ab M).trans (q.ab M)).trans ((ac.ab M).trans aZ)
   .have ad:hl n.k (eN s j.toNat) (d++[tl])=hl n.k (eN s j.toNat) d:=by rw[step];unfold simpStep;rw[if_neg aT]
    refine⟨⟨aR,?_,B,aN.ext q,?_⟩,aP.ext q,(L.ab M).trans (q.ab M)⟩
    .rw[ad];exact S.ext q
    .rw[ad];exact ci.ext q
  intro aB bH;rw[aw (v:=B) Ψ (aN.Qz rfl),aO,pe an.u];cases Q:(hl n.k (eN s j.toNat) d).2 with
  |none=>
   rw[Q]at C;have:B= .slice ν 0 0:=C;rw[aO]at this;cases this;rw[bZ];exact⟨λ_=>bH _ _ ⟨by rw[decide_eq_true (.inl Q)],Ext.refl _⟩,λy=>by cases y⟩
  |some dj=>
   rw[Q]at C;obtain⟨ap,dk,_,cr⟩:=C;obtain⟨_,⟨rfl,y⟩|⟨dl,_,bI,_⟩⟩:=cr
   .exact absurd (c8 y) ap
   rw[aO]at bI;cases bI;rw[bZ];refine⟨λy=>by simp at y,λ_=>?_⟩;rw[aw (v:=Δ (hl n.k (eN s j.toNat) d).1) Ψ (S.Qz rfl),aS];refine bH _ _ ⟨?_,Ext.refl _⟩;congr 1;exact decide_eq_decide.2 ⟨.inr,λy=>y.resolve_left (by rw[Q];simp)⟩
 .exact⟨ai.refl _ _,b7,_,ay,rfl⟩
 rintro _ bF _ ⟨dm,_,⟨p,K,B,P,C⟩,_,_⟩;intro aQ q _ _;rw[aw (v:=Δ (hl n.k (eN s j.toNat) ([]++fy s f.sc pos f.sc.length 0 ((p9 m 0).set pos.toNat v))).1) Ψ ((K.ext q).Qz rfl),aw (v:=B) Ψ ((P.ext q).Qz rfl)];refine⟨(aA p).trans q,λaT=>absurd ⟨f,u,x,G⟩ aT,λa1 u' dn ct=>?_⟩;obtain⟨rfl,_⟩:=G.same ct;rw[List.nil_append,hm]at C ⊢;refine⟨B,rfl,?_⟩;have:=C.ext q;cases Q:(hl n.k (eN s j.toNat) (fy s a1.sc pos a1.sc.length 0 ((p9 a1.sc.length 0).set pos.toNat v))).2 with
 |none=>rw[Q]at this;exact this
 |some tl=>rw[Q]at this;obtain⟨cu,cw,dp,cz⟩:=this;exact⟨cu,cw,Ω,cz⟩
end
structure c4 where
 eo:Int
 i:Int
 j:Int
 v:Int
def fB(a:c4):List x1:=[Δ a.eo,Δ a.i,Δ a.j,Δ a.v]
def gl(c:Prop)[Decidable c](a:c4):List c4:=if c then[a]else[]
theorem kY{c:Prop}[Decidable c]{a:c4}:(gl c a).length<=1:=by
 unfold gl;split<;>simp
theorem p5{c:Prop}[Decidable c]{a b:c4}(h:b∈gl c a):c/\b=a:=by
 unfold gl at h;split at h
 .rename_i e;exact⟨e,l9.1 h⟩
 .cases h
def p6(n:aJ)(s:au)(i:Int):Int×Int:=gi n.k (bw s i) (hJ n s i)
def p7(n:aJ)(s:au)(i:Int):Int×Int:=gi n.k (bw s i) (uP n s i)
def h6(n:aJ)(s:au)(i v:Int):List c4:=gl (min (s.zero+hJ n s i v) n.k=n.k) ⟨1,i,-1,v⟩
def lK(n:aJ)(s:au)(i:Int):List c4:=gl (0<(p6 n s i).1\/(p6 n s i).2<0) ⟨1,i,-1,-1⟩
def qa(n:aJ)(s:au)(i:Int):List c4:=gl (0<(p7 n s i).1\/(p7 n s i).2<0) ⟨4,i,-1,-1⟩
def jJ(n:aJ)(s:au)(i:Int):List c4:=if h4 n s i=true then lK n s i++((bw s i).flatMap (h6 n s i)++qa n s i)else[]
def mv(n:aJ)(s:au)(m:Nat):List c4:=(X3 m).flatMap λi:Nat=>jJ n s (i:Int)
def rR(n:aJ)(s:au)(j:Nat)(f:b7)(p:Nat)(v:Int):Int×Option (Λ):=hl n.k (eN s j) (fy s f.sc p f.sc.length 0 ((p9 f.sc.length 0).set p v))
def uQ(n:aJ)(s:au)(j:Nat)(f:b7)(v:Int):Int×Int:=gi n.k (bw s (f.sc.getD 1 0)) (kU n s j 0 v (f.sc.getD 1 0))
def fC(n:aJ)(s:au)(j:Nat)(f:b7)(p:Nat)(i v:Int):List c4:=gl (0<(rR n s j f p v).1\/(rR n s j f p v).2=ν) ⟨2,i,j,v⟩
def gS(n:aJ)(s:au)(j:Nat)(f:b7)(p:Nat)(i v:Int):List c4:=gl (f.sc.length=2/\p=0/\0<(uQ n s j f v).1) ⟨3,i,j,v⟩
def h7(n:aJ)(s:au)(j:Nat)(f:b7)(p:Nat):List c4:=(bw s (f.sc.getD p 0)).flatMap λv=>fC n s j f p (f.sc.getD p 0) v++gS n s j f p (f.sc.getD p 0) v
def kj(n:aJ)(s:au)(j:Nat):List c4:=match s.funs[j]? with
 |some f=>if f.live≠0 then(X3 f.sc.length).flatMap (h7 n s j f)else[]
 |none=>[]
def mw(n:aJ)(s:au)(m:Nat):List c4:=(X3 m).flatMap (kj n s)
def lL(n:aJ)(s:au):List c4:=mv n s n.sizes.length++mw n s s.funs.length
def kk(n:aJ)(s:au)(level:Int):List c4:=(lL n s).filter λa=>decide (a.eo<=level)
theorem lM{α β:Type}{f:α->List β}{k:Nat}:∀{l:List α},(∀a∈l,(f a).length<=k)->(l.flatMap f).length<=k*l.length
 |[],_=>Ξ
 |a::l,h=>by
  have h1:=h a (.head _);have p:=lM λb e=>h b (.tail _ e);rw[W0,r8,j9,Nat.mul_add];omega
theorem uR{k:Int}{sizes:Λ}{s:au}{i:Int}(a:bx k sizes s):(bw s i).length<=32:=by
 unfold bw;split
 .rename_i x J;have f:=(x4.1 J).1;have h:=a.vars;obtain⟨z,e⟩:=aI (l:=sizes) (i:=i.toNat) Ω;have h1:=(a.var _ x z J e).1;have p:=a.eW.2.2 z (x5 e);have q:(aF x).length<=x.un.length:=by
   unfold aF;refine Y8 (T9 _ _) ?_;rw[u9,List.length_range];exact o4 _
  omega
 .simp
section
variable{k:Int}{n:aJ}{s:au}
theorem QX{i:Int}(a:bx n.k n.sizes s):(jJ n s i).length<=34:=by
 unfold jJ;split
 .have h1:(lK n s i).length<=1:=kY;have e:(qa n s i).length<=1:=kY;have h:=lM (l:=bw s i) (f:=h6 n s i) (k:=1) λv _=>kY;have p:=uR (i:=i) a;rw[r8,r8];omega
 .simp
theorem Fk{m:Nat}(a:bx n.k n.sizes s):(mv n s m).length<=34*m:=by
 have:=lM (l:=X3 m) (f:=λi:Nat=>jJ n s (i:Int)) (k:=34) λv _=>QX a;rw[List.length_range]at this;exact this
theorem Fl{p:Nat}{f:b7}(a:bx n.k n.sizes s):(h7 n s j f p).length<=64:=by
 have h1:=lM (l:=bw s (f.sc.getD p 0)) (f:=λv=>fC n s j f p (f.sc.getD p 0) v++gS n s j f p (f.sc.getD p 0) v) (k:=2) λv _=>by
  have h1:(fC n s j f p (f.sc.getD p 0) v).length<=1:=kY;have e:(gS n s j f p (f.sc.getD p 0) v).length<=1:=kY;rw[r8];omega
 have e:=uR (i:=f.sc.getD p 0) a;unfold h7;omega
theorem QY(a:bx n.k n.sizes s):(kj n s j).length<=384:=by
 unfold kj;split
 .rename_i f ag;split
  .have h1:=lM (l:=X3 f.sc.length) (f:=h7 n s j f) (k:=64) λv _=>Fl a;have e:f.sc.length<=6:=(a.funs f (x5 ag)).1.scope.2;rw[List.length_range]at h1;omega
  .simp
 .simp
theorem Fm{m:Nat}(a:bx n.k n.sizes s):(mw n s m).length<=384*m:=by
 have:=lM (l:=X3 m) (f:=kj n s) (k:=384) λv _=>QY a;rw[List.length_range]at this;exact this
theorem ym{α:Type}{f:Nat->List α}(m:Nat):(X3 (m+1)).flatMap f=(X3 m).flatMap f++f m:=by
 rw[List.range_succ,S8,List.flatMap_singleton]
def rS(n:aJ)(s:au)(a:c4):Prop:=(1<=a.eo/\a.eo<=4)/\(0<=a.i/\a.i<100)/\(-1<=a.j/\a.j<s.funs.length)/\ -1<=a.v/\a.v<32
theorem Fo{i:Int}(a:bx n.k n.sizes s)(h:v∈bw s i):0<=v/\v<32:=by
 unfold bw at h;split at h
 .rename_i x J;have f:=(x4.1 J).1;have p:=a.vars;obtain⟨z,e⟩:=aI (l:=n.sizes) (i:=i.toNat) Ω;have h1:=(a.var _ x z J e).1;have q:=a.eW.2.2 z (x5 e);have r:=Er h;omega
 .cases h
theorem Fp{a:c4}(e:bx n.k n.sizes s)(h:a∈lL n s):rS n s a:=by
 have x:=e.eW.2.1;unfold lL at h;rcases o5.1 h with h|h
 .unfold mv at h;obtain⟨i,hi,h⟩:=R2.1 h;have hi:=T6.1 hi;unfold jJ at h;split at h
  .rcases o5.1 h with h|h
   .obtain⟨_,rfl⟩:=p5 h;exact⟨Ξ,by simp only;omega,by simp only;omega,Ξ⟩
   .rcases o5.1 h with h|h
    .obtain⟨v,ad,h⟩:=R2.1 h;obtain⟨_,rfl⟩:=p5 h;have:=Fo e ad;exact⟨Ξ,by simp only;omega,by simp only;omega,by simp only;omega⟩
    .obtain⟨_,rfl⟩:=p5 h;exact⟨Ξ,by simp only;omega,by simp only;omega,Ξ⟩
  .cases h
 .unfold mw at h;obtain⟨j,r,h⟩:=R2.1 h;have r:=T6.1 r;unfold kj at h;split at h
  .rename_i f ag;split at h
   .obtain⟨p,q,h⟩:=R2.1 h;have q:=T6.1 q;unfold h7 at h;obtain⟨v,ad,h⟩:=R2.1 h;have y:=Fo e ad;have w:=(e.funs f (x5 ag)).1;have hu:f.sc.getD p 0∈f.sc:=by rw[u4,x6 q,V1];exact T2 q
    have h1:=(w.scope.1 _ hu).1;have z:=w.vars _ hu;rcases o5.1 h with h|h
    .obtain⟨_,rfl⟩:=p5 h;exact⟨Ξ,by simp only;omega,by simp only;omega,by simp only;omega⟩
    .obtain⟨_,rfl⟩:=p5 h;exact⟨Ξ,by simp only;omega,by simp only;omega,by simp only;omega⟩
   .cases h
  .cases h
def qb(a:c4):Int:=((a.eo*100+a.i)*200000000+(a.j+1))*100+(a.v+1)
def fD(a b:Int):Int:=if a<b then-1 else if b<a then 1 else 0
def qc(a b:c4):Int:=if fD a.eo b.eo≠0 then fD a.eo b.eo else if fD a.i b.i≠0 then fD a.i b.i else if fD a.j b.j≠0 then fD a.j b.j else fD a.v b.v
theorem uS(a b:Int):(fD a b= -1/\a<b)\/(fD a b=1/\b<a)\/(fD a b=0/\a=b):=by
 unfold fD;by_cases h:a<b
 .rw[if_pos h];exact .inl ⟨rfl,h⟩
 .rw[if_neg h];by_cases e:b<a
  .rw[if_pos e];exact .inr (.inl ⟨rfl,e⟩)
  .rw[if_neg e];exact .inr (.inr ⟨rfl,Ω⟩)
theorem QZ{a b:c4}(z:s.funs.length<=100000000)(x:rS n s a)(y:rS n s b):qc a b<0↔qb a<qb b:=by
 obtain⟨A,B,a3,a4⟩:=x;obtain⟨C,E,F,G⟩:=y;unfold qc qb;rcases uS a.eo b.eo with⟨e,h1⟩|⟨e,h1⟩|⟨e,h1⟩<;>rw[e]
 .rw[if_pos Φ];omega
 .rw[if_pos Φ];omega
 rw[if_neg Φ];rcases uS a.i b.i with⟨f,q⟩|⟨f,q⟩|⟨f,q⟩<;>rw[f]
 .rw[if_pos Φ];omega
 .rw[if_pos Φ];omega
 rw[if_neg Φ];rcases uS a.j b.j with⟨h,r⟩|⟨h,r⟩|⟨h,r⟩<;>rw[h]
 .rw[if_pos Φ];omega
 .rw[if_pos Φ];omega
 rw[if_neg Φ];rcases uS a.v b.v with⟨p,w⟩|⟨p,w⟩|⟨p,w⟩<;>rw[p]<;>omega
end
structure eZ(s s':au):Prop where
 vars:s'.vars.length=s.vars.length
 var:∀(i:Nat)x y,s.vars[i]?=σ x->s'.vars[i]?=σ y->y.gone=x.gone/\y.un.length=x.un.length
 funs:s'.funs.length=s.funs.length
 fn:∀(j:Nat)f g,s.funs[j]?=σ f->s'.funs[j]?=σ g->g.sc=f.sc/\g.aj=f.aj/\g.live=f.live/\g.cs.length=f.cs.length
 eg:s'.eg=s.eg
theorem eZ.rfl{s:au}:eZ s s:=⟨Eq.refl _,λ_ _ _ h1 a=>by rw[h1]at a;cases a;exact⟨Eq.refl _,Eq.refl _⟩,Eq.refl _,λ_ _ _ h1 a=>by rw[h1]at a;cases a;exact⟨Eq.refl _,Eq.refl _,Eq.refl _,Eq.refl _⟩,Eq.refl _⟩
theorem eZ.trans{a b c:au}(h:eZ a b)(k:eZ b c):eZ a c:=by
 refine⟨k.vars.trans h.vars,λi x z J s=>?_,k.funs.trans h.funs,λj f q ag w=>?_,k.eg.trans h.eg⟩
 .have A:=(x4.1 J).1;have ad:=h.vars;obtain⟨y,p⟩:=aI (l:=b.vars) (i:=i) Ω;have h1:=h.var i x y J p;have e:=k.var i y z p s;exact⟨e.1.trans h1.1,e.2.trans h1.2⟩
 .have A:=(x4.1 ag).1;have ad:=h.funs;obtain⟨g,r⟩:=aI (l:=b.funs) (i:=j) Ω;have h1:=h.fn j f g ag r;have e:=k.fn j g q r w;exact⟨e.1.trans h1.1,e.2.1.trans h1.2.1,e.2.2.1.trans h1.2.2.1,e.2.2.2.trans h1.2.2.2⟩
section
variable{k:Int}{sizes:Λ}{s:au}
theorem yn{i:Nat}{x y:bJ}(J:s.vars[i]?=σ x)(r:y.gone=x.gone)(w:y.un.length=x.un.length):eZ s {s with vars:=s.vars.set i y}:=by
 refine⟨b8,λj a b q h=>?_,rfl,λj f g h1 p=>?_,rfl⟩
 .have h:(s.vars.set i y)[j]?=σ b:=h;by_cases e:i=j
  .subst e;rw[b9 (x4.1 J).1]at h;rw[J]at q;cases q;cases h;exact⟨r,w⟩
  .rw[Y4 e,q]at h;cases h;exact⟨rfl,rfl⟩
 .have p:s.funs[j]?=σ g:=p;rw[h1]at p;cases p;exact⟨rfl,rfl,rfl,rfl⟩
theorem Q4{f g:b7}(ag:s.funs[j]?=σ f)(h:g.sc=f.sc/\g.aj=f.aj/\g.live=f.live/\g.cs.length=f.cs.length):eZ s {s with funs:=s.funs.set j g}:=by
 refine⟨rfl,λi a b r p=>?_,b8,λq a b r p=>?_,rfl⟩
 .have p:s.vars[i]?=σ b:=p;rw[r]at p;cases p;exact⟨rfl,rfl⟩
 .have p:(s.funs.set j g)[q]?=σ b:=p;by_cases e:j=q
  .subst e;rw[b9 (x4.1 ag).1]at p;rw[ag]at r;cases r;cases p;exact h
  .rw[Y4 e,r]at p;cases p;exact⟨rfl,rfl,rfl,rfl⟩
theorem Q5{c:Int}:eZ s {s with zero:=c}:=⟨rfl,λ_ _ _ h1 a=>by have a:s.vars[_]?=σ _:=a;rw[h1]at a;cases a;exact⟨rfl,rfl⟩,rfl,λ_ _ _ h1 a=>by have a:s.funs[_]?=σ _:=a;rw[h1]at a;cases a;exact⟨rfl,rfl,rfl,rfl⟩,rfl⟩
theorem yo{i:Nat}:eZ s (ej s i v.toNat):=by
 cases J:s.vars[i]? with
 |none=>unfold ej;rw[J];exact .rfl
 |some x=>rw[mp J];exact yn J rfl rfl
theorem yp{i:Nat}{v:Int}:∀(L:Λ)(s:au),eZ s (gj s i v L)
 |[],_=>.rfl
 |w::L,s=>by
  unfold gj;split
  .exact yo.trans (yp L _)
  .exact yp L s
theorem Fq{u:Nat}{x:bJ}{g z:Int->Int}(J:s.vars[u]?=σ x):eZ s (kT s u x g z):=
 (yn (y:={x with un:=ed g x.un (aF x)}) J rfl (uz _ _)).trans Q5
theorem Fr{pos u:Nat}{f:b7}{x:bJ}{t un:Int->Int}(a:bx k sizes s)(ag:s.funs[j]?=σ f)(J:s.vars[u]?=σ x):eZ s (i9 s j f pos u x v t un):=by
 obtain⟨_,e⟩:=lH a (x5 ag);have h1:eZ s (dN s j f (dB t (cm s f.sc pos v) f.aj f.cs)):=Q4 ag ⟨rfl,rfl,rfl,oF _ _ _ _ Ω⟩;exact h1.trans (yn (s:=dN s j f (dB t (cm s f.sc pos v) f.aj f.cs)) (y:={x with un:=x.un.set v.toNat (un (x.un.getD v.toNat 0))}) J rfl b8)
theorem Q6{m:hK}(p:bx k sizes s):eZ s (cB k s m).1:=by
 by_cases he:(cB k s m).2=0
 .generalize a:cB k s m=r at he ⊢;unfold cB at a;split at a
  .split at a
   .subst a;exact .rfl
   .rename_i f u x e;obtain⟨_,_,ag,_,_,ad⟩:=nr e;obtain⟨_,J,_,_⟩:=kV ad;split at a
    .subst a;exact .rfl
    .subst a;simp only;exact Fr p ag J
  split at a
  .split at a
   .subst a;exact .rfl
   .rename_i f u x e;obtain⟨_,_,ag,_,_,ad⟩:=nr e;obtain⟨_,J,_,_⟩:=kV ad;split at a
    .subst a;exact .rfl
    .subst a;simp only;exact Fr p ag J
  have key:∀{x:bJ},(if 0<=m.i then s.vars[m.i.toNat]? else ν)=σ x->s.vars[m.i.toNat]?=σ x:=λh=>by
   split at h
   .exact h
   .cases h
  split at a
  .split at a
   .subst a;exact .rfl
   .rename_i x e;split at a
    .subst a;exact .rfl
    .split at a
     .subst a;exact .rfl
     .subst a;simp only;exact Fq (key e)
  split at a
  .split at a
   .subst a;exact .rfl
   .rename_i x e;generalize (if aF x=[]then-1 else s.zero)=q at a;split at a
    .subst a;exact .rfl
    .split at a
     .subst a;exact .rfl
     .subst a;simp only;exact Fq (key e)
  split at a
  .split at a
   .subst a;exact .rfl
   .split at a
    .subst a;exact .rfl
    .subst a;exact yo
  .split at a
   .subst a;exact .rfl
   .subst a;exact yp _ _
 .rw[PX he];exact .rfl
end
theorem Fs(h:Laid w):0<w.heap.size:=by
 rcases Q2 w.heap.size with e|e
 .have a:=h 0 _ rfl;unfold x3.cell? at a;rw[Array.getElem?_eq_none Ω]at a;cases a
 .exact e
def fE(Z aG:ak)(w:x3)(ae gT ap:Nat)(n:aJ)(s:au):Prop:=∃A R A9 t cs,cj w ae gT ap A R A9 aG n s s t [] cs/\(Laid w/\¬Z 0)/\(dp s/\eZ (de n) s/\n.funs.length<=256)/\(∀r,Z r↔jI A R A9 aG ap r)/\∀q r,A9 q r->r<w.heap.size
section
variable{Z aG S:ak}{w w' V:x3}{ae gT ap:Nat}{A R:ak}{A9:Nat->ak}{n:aJ}{s u:au}{t:aC}{cs:List x1}
theorem fE.ext(h:fE Z aG w ae gT ap n s)(J:Ext w w'):fE Z aG w' ae gT ap n s:=by
 obtain⟨A,R,A9,t,cs,p,⟨a,e⟩,f,x,y⟩:=h;exact⟨A,R,A9,t,cs,p.ext J,⟨a.ext J,e⟩,f,x,λq r z=>by have:=y q r z;have:=J.size;omega⟩
theorem fE.side(h:fE Z aG w ae gT ap n s)(e:ai S w w')(z:∀r,Z r->¬S r)(B:¬S 0):fE Z aG w' ae gT ap n s:=by
 obtain⟨A,R,A9,t,cs,p,⟨C,E⟩,F,x,G⟩:=h;refine⟨A,R,A9,t,cs,p.side e λr _ f=>?_,⟨iI e B C,E⟩,F,x,λq r f=>by have:=G q r f;have:=e.size;omega⟩;have a:∀{y:Prop},(y->jI A R A9 aG ap r)->¬y:=λH h=>z r ((x r).2 (H h)) f;exact⟨a .inl,a λh=>.inr (.inl h),λq=>a λh=>.inr (.inr (.inl ⟨q,h⟩)),a λh=>.inr (.inr (.inr (.inl h))),a λh=>.inr (.inr (.inr (.inr h)))⟩
theorem fE.ok(h:fE Z aG w ae gT ap n s):bx n.k n.sizes s/\dp s/\eZ (de n) s/\n.funs.length<=256:=by
 obtain⟨A,R,A9,t,cs,p,_,a,_⟩:=h;exact⟨p.e9.2.2.2.1,a⟩
theorem fE.step{V:x3}(p:cj w ae gT ap A R A9 aG n s u t [] cs)(f:∀r,Z r↔jI A R A9 aG ap r){u':au}(F:dp u'/\eZ (de n) u'/\n.funs.length<=256)(G:¬Z 0)(H:dr w ae gT ap A R A9 aG n s t [] u' V)(J:Ext V w')(hm:eC [] w' ae gT A R n u' aa):ai (λr=>Z r/\¬aG r) w aa/\∃ny,(∀r,ny r->Z r\/w.heap.size<=r)/\fE ny aG aa ae gT ap n u':=by
 obtain⟨B,cp,b6,I,K⟩:=H;obtain⟨x,L,aT,bp,y,M,N,U⟩:=hm;have W:=B.size;have X:=J.size;have z3:=x.size;have z:=I.ext J;have O:=z.prog x y M N.1 (λ_ h=>.inl h) (λ_ _ _ h=>h) z.box.lt;have P:=p.EW;have Q:ai (λr=>Z r/\¬aG r) w aa:=(((B.mono (T:=λr=>Z r/\¬aG r) λr _ h=>⟨(f r).2 (h.elim (λh=>.inr (.inr (.inl h))) λh=>.inr (.inr (.inr (.inr h)))),h.elim (λ⟨q,h⟩=>P q r h) λh h'=>(p.read r h').2.2 h⟩)).trans (J.ab _)).trans
  ((xY y.1 x).mono λr _ h=>⟨(f r).2 (.inl h.1),λh'=>(z.read r h').1 h.2⟩)
 have Y:=p.box.lt;have e:∀{r:Nat}{C:Prop},(C->jI A R A9 aG ap r)->C->Z r\/w.heap.size<=r:=λS h=>.inl ((f _).2 (S h));have E:∀r,jI aT R (λq r=>cp q r/\r<w'.heap.size) aG ap r->Z r\/w.heap.size<=r:=by
  intro r a;rcases a with a|a|⟨q,a,_⟩|a|a
  .exact (y.2.1 r a).elim (e .inl) λh=>.inr Ω
  .exact e (λh=>.inr (.inl h)) a
  .exact (K q r a).elim (e λh=>.inr (.inr (.inl h))) .inr
  .exact e (λh=>.inr (.inr (.inr (.inl h)))) a
  .exact e (λh=>.inr (.inr (.inr (.inr h)))) a
 exact⟨Q,λr=>jI aT R (λq r=>cp q r/\r<w'.heap.size) aG ap r,E,aT,R,_,bp,b6,O,⟨L,λh=>(E 0 h).elim G λh=>Ω⟩,F,λr=>Iff.rfl,λq r a=>by have:=a.2;omega⟩
theorem Q7(h:dp s/\eZ (de n) s/\n.funs.length<=256)(a:bx n.k n.sizes s)(m:hK):dp (cB n.k s m).1/\eZ (de n) (cB n.k s m).1/\n.funs.length<=256:=
 ⟨(PV a h.1).2.1,h.2.1.trans (Q6 a),h.2.2⟩
theorem Q8{m:hK}(p:cj w ae gT ap A R A9 aG n s u t [] cs)(a:bx n.k n.sizes u)(e:dp u)(hk:m.kind<=5):am x7 vD [Γ ap,Δ (m.kind:Int),Δ m.i,Δ m.pos,Δ m.v,Δ m.c] w λr w'=>r=Δ (cB n.k u m).2/\dr w ae gT ap A R A9 aG n s t [] (cB n.k u m).1 w':=by
 by_cases h:m.kind<2
 .exact QC p a e h
 .exact QN p a ⟨Ω,hk⟩
theorem Q9{e:x3}{ap:Nat}{s:x1}{cs:List x1}{f:bY}(x:uq B aa s cs f)(J:Ext aa e)(y:af e ap ba cs)(z:aa.heap.size<=ap)(L:B<=aa.heap.size)(M:0<B)(C:Laid e):
  ∃ae gT Z aG,s=Γ ae/\fE Z aG e ae gT ap (cT f) (de (cT f))/\∀r,Z r->B<=r:=by
 obtain⟨ae,gT,A,R,A9,aG,t,rfl,p,_,E,F,_,_,G,_,H,I⟩:=P3 x J y z;have K:=p.olds;have w:∀r,jI A R (λq r=>A9 q r/\r<e.heap.size) aG ap r->B<=r:=by
  intro r a;rcases a with a|a|⟨q,a,_⟩|a|a
  .exact E r a
  .exact I r a
  .exact F q r a
  .exact H r a
  .omega
 exact⟨ae,gT,_,aG,rfl,⟨A,R,_,t,cs,K,⟨C,λh=>by have:=w 0 h;omega⟩,⟨P2 _,eZ.rfl,G⟩,λr=>Iff.rfl,λq r a=>a.2⟩,w⟩
end
section
variable{aA:List aC}{w V aa:x3}{ae gT ap:Nat}{A R S Z aG:ak}{n:aJ}{s s0 s1:au}{cs:List x1}
def lN(aA:List aC)(Z aG:ak)(w:x3)(ae gT ap:Nat)(n:aJ)(s s0:au)(cs:List x1):Prop:=∃A R A9 t,cj w ae gT ap A R A9 aG n s s0 t aA cs/\(Laid w/\¬Z 0/\rN t)/\(∀r,Z r↔jI A R A9 aG ap r)/\∀q r,A9 q r->r<w.heap.size
theorem lN.ext(h:lN aA Z aG w ae gT ap n s s0 cs)(J:Ext w V):lN aA Z aG V ae gT ap n s s0 cs:=by
 obtain⟨A,R,A9,t,p,⟨a,e⟩,f,x⟩:=h;exact⟨A,R,A9,t,p.ext J,⟨a.ext J,e⟩,f,λq r y=>by have:=x q r y;have:=J.size;omega⟩
theorem lN.side(h:lN aA Z aG w ae gT ap n s s0 cs)(e:ai S w V)(z:∀r,Z r->¬S r)(B:¬S 0):lN aA Z aG V ae gT ap n s s0 cs:=by
 obtain⟨A,R,A9,t,p,⟨C,E⟩,x,F⟩:=h;refine⟨A,R,A9,t,p.side e λr _ f=>?_,⟨iI e B C,E⟩,x,λq r f=>by have:=F q r f;have:=e.size;omega⟩;have a:∀{y:Prop},(y->jI A R A9 aG ap r)->¬y:=λG h=>z r ((x r).2 (G h)) f;exact⟨a .inl,a λh=>.inr (.inl h),λq=>a λh=>.inr (.inr (.inl ⟨q,h⟩)),a λh=>.inr (.inr (.inr (.inl h))),a λh=>.inr (.inr (.inr (.inr h)))⟩
theorem lN.ok(h:lN aA Z aG w ae gT ap n s s0 cs):bx n.k n.sizes s/\jA w (.agg cs.toArray) n.k n.sizes s0:=by
 obtain⟨A,R,A9,t,p,_⟩:=h;exact⟨p.e9.2.2.2.1,p.doc.D8⟩
theorem fE.cO(h:fE Z aG w ae gT ap n s):∃cs,lN [] Z aG w ae gT ap n s s cs/\af w ap ba cs:=by
 obtain⟨A,R,A9,t,cs,p,⟨a,e⟩,r,f,q⟩:=h;exact⟨cs,⟨A,R,A9,t,p,⟨a,e,p.h0.m.2⟩,f,q⟩,p.box⟩
end
theorem Ft{p:x1}(aF:aH .u8 w p pl)(S:Bytes pl)(aY:e5 w):am x7 GC [p] w (Pv w (pl.take 300)):=by
 refine az func18 ?_;refine bo ba.i λB V bO aj Y=>?_;have Y:af V B ba z12:=Y;rw[aW cP.u (aF.ext aj),l8];refine J6 (i:=min pl.length 300) Ω cP.u cK.i (aF.ext aj) Ω λbP ak=>?_;have a2:pl.take (min pl.length 300)=pl.take 300:=by
  by_cases h:pl.length<=300
  .rw[Nat.min_eq_left h,o7,j6 h]
  .rw[Nat.min_eq_right Ω]
 rw[a2]at ak;have Z:Bytes (pl.take 300):=λb a=>S b (S0 a);have a6:(pl.take 300).length<=300:=by rw[n9];omega
 generalize pl.take 300=q at ak Z a6;refine(Ps ak Ω).mono ?_;rintro bQ aa _ ⟨an,bR,ao⟩;have aI:=aj.trans an;refine(M3 ao.ls Z Ω (aY.ext aI)).mono ?_;rintro bS bU _ ⟨W,C⟩;have aJ:=aI.trans W;cases G:fp q with
 |none=>
  rw[G]at C;obtain⟨n,e,rfl,he⟩:=C;rw[fP,fQ,fR];refine(DS (ao.ext W).ls Z Ω).mono ?_;rintro a7 ap _ ⟨L,a8,bb,aq,_⟩;obtain rfl:=aq G;rw[fP,fQ,fR];refine aV (λv X=>v= .bool true/\Ext ap X) ?_ ?_
  .rintro _ X ⟨rfl,I⟩;rw[bT,cZ (cs:=#[Δ 0,.slice ν 0 0,Δ 0,.slice ν 0 0,.slice ν 0 0,.slice ν 0 0,.slice ν 0 0,.slice ν 0 0]) Ψ];obtain⟨_,_,x,E⟩:=Ek;refine cb (vs:=z12) ba.i rfl rfl (by intro u hu;simp[z12]at hu;rcases hu with rfl|rfl|rfl|rfl<;>rfl) ((((Y.ext an).ext W).ext L).ext I) λbV bc bW bd=>?_;rw[fO ba.p ba.i rfl bd.range];refine⟨((aJ.trans L).trans I).then bc λr C he=>by have he:r=B:=he;omega,_,_,false,rfl,⟨rfl,(Ek).elim λ_ h=>by obtain⟨_,_,h⟩:=h;exact λu hu=>by simp[z12]at hu;rcases hu with rfl|rfl|rfl|rfl<;>rfl⟩,.inl ⟨rfl,rfl⟩,λf ag=>?_⟩;rw[G]at ag;cases ag
  .intro aB J;rw[bD,al];exact⟨λ_=>J _ _ ⟨rfl,Ext.refl _⟩,λh=>absurd he h⟩
 |some f=>
  rw[G]at C;obtain⟨bX,n,rfl,bf⟩:=C;obtain⟨N,bg,M,bh,bi⟩:=Pq Ω G;have O:=CI M;have ac:=xI M;rw[fP,fQ,fR];refine(DS (ao.ext W).ls Z Ω).mono ?_;rintro a7 ap _ ⟨L,a8,bb,_,aq⟩;obtain⟨bY,rfl,bj⟩:=aq f G;rw[fP,fQ,fR];refine aV (λv X=>v= .bool false/\Ext ap X) ?_ ?_
  rotate_left
  .intro aB J;rw[bD,al];refine⟨λh=>absurd rfl h,λ_=>?_⟩;rw[dc vO.u];exact J _ _ ⟨rfl,Ext.refl _⟩
  rintro _ X ⟨rfl,I⟩;rw[a1];have aK:=(aJ.trans L).trans I;refine(Oa ((bf.ext L).ext I) M bg ⟨bh,bi⟩).mono ?_;rintro bZ bk _ ⟨au,bl⟩;have ai:=aK.trans au;have P:=((((Y.ext an).ext W).ext L).ext I).ext au;have aL:=(bj.ext I).ext au;have b0:=ai.size;have b1:w.heap.size<=B:=Ω
  have b2:=P.lt;rcases bl with⟨bm,e,he,rfl⟩|⟨b3,rfl,bn⟩
  .rw[bq,br];refine Pr.mono ?_;rintro _ aM _ ⟨rfl,s⟩;refine jh (λav t4 y=>av= .pointer ν/\t4= .bool false/\Ext w y/\∃cs:List x1,af y B ba cs/\cs.length=8/\∀u∈cs,u.oneCell'=true) ?_ ?_
   .rintro _ _ y ⟨rfl,rfl,aw,cs,ax,x,E⟩;rw[fO ba.p ba.i x ax.range];exact⟨aw,_,cs,false,rfl,⟨x,E⟩,.inl ⟨rfl,rfl⟩,λb4 aN bp=>absurd bp (by rw[G]at aN;cases aN;exact bm)⟩
   .intro aB J;have bt:=s.size;refine(D2 (aL.ext s) M).mono ?_;rintro bw ay _ ⟨z,aA⟩;refine(Ea (R:=λr=>w.heap.size<=r/\∃c,af ay r ah c) (λr h=>h.2.elim λc a=>a.lt) (λr c S a=>⟨Ω,c,a⟩) aA O.1 ac).mono ?_;rintro bx bz _ ⟨H,A9,cs,rfl,Q,aC⟩;obtain⟨x,E⟩:=Q.len;rw[be,al];refine⟨λh=>absurd h he,λ_=>?_⟩;refine cb (vs:=cs) ba.i x rfl E (((P.ext s).ext z).ext H) λbA K aO aD=>?_;exact J _ _ _ ⟨rfl,rfl,(((ai.trans s).trans z).trans H).then K λr C he=>by have he:r=B:=he;omega,cs,aD,x,E⟩
  .rw[bq,br];obtain⟨b5,bB,aP,bC⟩:=bn;have z5:=aK.size;refine(OA (R0:=λr=>w.heap.size<=r/\r<bk.heap.size) bB aP (λr o h U=>⟨by have:=bC r o h U;omega,(j4.1 (aP.aZ r o h U)).1⟩) (λr h=>h.2) O.1 ac).mono ?_;rintro _ aM _ ⟨s,ae,gT,A,R,t,rfl,bE,ad,aQ,aR,bF⟩;have aS:bu aM ae gT A R (cT f) (de (cT f)) t:=⟨bE,ad,Pu O.1 ac ad aQ,Oj O.1,O.1⟩;refine jh (λav t4 y=>av=Γ ae/\t4= .bool true/\Ext w y/\∃cs:List x1,af y B ba cs/\cs.length=8/\(∀u∈cs,u.oneCell'=true)/\∃R' A9 aG,bu y ae gT A R' (cT f) (de (cT f)) t/\iy true A9 aG y cs (cT f).k (cT f).sizes (de (cT f))/\(∀q r,A9 q r->¬A r/\¬R' r/\w.heap.size<=r)/\(∀r,aG r->¬et y r/\r<y.heap.size/\w.heap.size<=r)/\∀r,R' r->w.heap.size<=r) ?_ ?_
   .rintro _ _ y ⟨rfl,rfl,aw,cs,ax,x,E,R',A9,aG,bG,Q,bH,bI⟩;rw[fO ba.p ba.i x ax.range];exact⟨aw,_,cs,true,rfl,⟨x,E⟩,.inr ⟨rfl,f,G,ae,gT,A,R',t,N,A9,aG,M,rfl,bG,aQ,λr C=>by have:=aR r C;omega,Q,bH,bI⟩,λ_ _ _=>rfl⟩
   .intro aB J;have bt:=s.size;refine(D2 (aL.ext s) M).mono ?_;rintro bw ay _ ⟨z,aA⟩;refine(Ea (R:=λr=>w.heap.size<=r/\∃c,af ay r ah c) (λr h=>h.2.elim λc a=>a.lt) (λr c S a=>⟨Ω,c,a⟩) aA O.1 ac).mono ?_;rintro bx bz _ ⟨H,A9,cs,rfl,Q,aC⟩;obtain⟨x,E⟩:=Q.len;rw[be,al];refine⟨λ_=>?_,λh=>absurd rfl h⟩;rw[Ah cI.u];have aT:=((P.ext s).ext z).ext H;have bJ:=((ai.trans s).trans z).trans H;refine cb (vs:=cs) ba.i x rfl E aT λbA K aO aD=>?_;have aU:=(aS.ext z).ext H;obtain⟨R',aX,bK⟩:=aU.1.put aT K λh=>by have:=aR B h;omega
    have b6:=((ai.trans s).trans z).size;have b7:=H.size;obtain⟨_,_,_,_,⟨_,_,bL,bM⟩,_⟩:=(aS.ext z).1;have b8:=P.lt;have b9:=(s.trans z).size;have bN:=Q.ab K λr C h he=>by
     have he:r=B:=he;rcases h with⟨q,h⟩|⟨_,c,a⟩
     .have:=aC q r h;omega
     .subst he;exact absurd (eb a (((P.ext s).ext z))) Φ
    refine J _ _ _ ⟨rfl,rfl,bJ.then K λr C he=>by have he:r=B:=he;omega,cs,aD,x,E,R',A9,_,⟨bK,aU.2⟩,bN,λq r h=>?_,λr h=>?_,λr h=>?_⟩
    .have ca:=aC q r h;refine⟨λaE=>by have:=bM r aE;omega,λaE=>by have:=bL r (aX r aE).1;omega,Ω⟩
    .obtain⟨S,c,a⟩:=h;have cc:=a.lt;have aO:=K.size;refine⟨Pp ((a.ext H).ab K λhe=>?_) Φ,Ω,S⟩;have he:r=B:=he;subst he;exact absurd (eb a (((P.ext s).ext z))) Φ
    .rcases bF r (aX r h).1 with h|h
     .exact h.1
     .omega
abbrev lO:Type:=mc .u8×Int×Int×Int×Int
structure gm where
 d:Int
 i:Int
 pos:Int
 v:Int
 c:Int
def gm.ok(a:gm):Prop:=0<=a.d/\a.d<256
def gm.kind(a:gm):Nat:=(a.d % 7).toNat
def gm.bR(a:gm):List x1:=[.int .u8 a.d,Δ a.i,Δ a.pos,Δ a.v,Δ a.c]
def nz(x:lO):gm:=⟨x.1.val,x.2.1,x.2.2.1,x.2.2.2.1,x.2.2.2.2⟩
theorem Ra{R:ak}{cs:List x1}{x:lO}(h:Seen R w cs x):cs=(nz x).bR:=by
 obtain⟨r,_,_,_,rfl,_,_,_,a,s,_,_,_,rfl,_,_,_,e,y,_,_,_,rfl,_,_,_,f,z,A,_,_,rfl,_,_,_,p,q⟩:=h;have a:r=[.int .u8 x.1]:=a;have e:s=[Δ x.2.1]:=e;have f:y=[Δ x.2.2.1]:=f;have p:z=[Δ x.2.2.2.1]:=p;have q:A=[Δ x.2.2.2.2]:=q;subst a e f p q;rfl
theorem Rb{x:lO}(h:(o6.u8.min<=x.1.val/\x.1.val<=o6.u8.max)/\(X9.min<=x.2.1/\x.2.1<=X9.max)/\(X9.min<=x.2.2.1/\x.2.2.1<=X9.max)/\(X9.min<=x.2.2.2.1/\x.2.2.2.1<=X9.max)/\(X9.min<=x.2.2.2.2/\x.2.2.2.2<=X9.max)):(nz x).ok:=by
 have a:o6.u8.min=0:=Φ
 have e:o6.u8.max=255:=Φ
 rw[a,e]at h;exact⟨h.1.1,by have:=h.1.2;show x.1.val<256;omega⟩
theorem gm.one(a:gm):∀u∈a.bR,u.oneCell'=true:=by
 intro u hu;unfold gm.bR at hu;simp only[V4,List.not_mem_nil,or_false]at hu;rcases hu with rfl|rfl|rfl|rfl|rfl<;>rfl
theorem gm.Rc(a:gm):a.kind<7:=by
 unfold gm.kind;have:=Int.emod_lt_of_pos a.d (show(0:Int)<7 by decide);omega
def Fu(k:Int)(a:gm):Int:=a.c.emod 18446744073709551616 % (k+1)
def kZ(k:Int)(a:gm):hK:=⟨a.kind,a.i,a.pos,a.v,Fu k a⟩
def lP(n:aJ)(s:au)(a:gm):au:=if a.kind=6 then(if fh n a.i a.v then ej s a.i.toNat a.v.toNat else s)else(cB n.k s (kZ n.k a)).1
theorem yq{d:Int}{K:x1->Prop}(h:0<=d):ac x7 (aN .rem cK false true (.int .u8 d) (.int .u8 7)) w K=K (.int .u8 (((d % 7).toNat:Nat):Int)):=by
 rw[sM Φ,Int.tmod_eq_emod_of_nonneg h];have:=Int.emod_nonneg d (show(7:Int)≠0 by decide);rw[Int.toNat_of_nonneg this]
section
variable{w:x3}{ae gT ap:Nat}{A R:ak}{A9:Nat->ak}{aG:ak}{n:aJ}{s u:au}{t:aC}{h:List aC}{cs:List x1}{a:gm}
theorem Fv(a:bx n.k n.sizes s){i:Int}(h:fh n i v):0<=i/\∃x,s.vars[i.toNat]?=σ x/\0<=v/\v<x.un.length:=by
 obtain⟨x,J,h1,_,e⟩:=h.var a;exact⟨h.1,x,J,h.2.2.1,by have:=h.2.2.2;omega⟩
theorem Re(f:dp s/\eZ (de n) s/\n.funs.length<=256)(p:bx n.k n.sizes s):dp (lP n s a)/\eZ (de n) (lP n s a)/\n.funs.length<=256:=by
 unfold lP;split
 .split
  .rename_i h;obtain⟨r,x,J,ad,_⟩:=Fv p h;have e:=mp (v:=a.v) J;have q:eZ s (ej s a.i.toNat a.v.toNat):=yo (v:=a.v);exact⟨by rw[e];exact dp.vars f.1 J rfl,f.2.1.trans q,f.2.2⟩
  .exact f
 .exact Q7 f p _
theorem Rf(p:cj w ae gT ap A R A9 aG n s u t h cs){i:Nat}{x:bJ}(J:u.vars[i]?=σ x):∃g cap y gy e,cs[3]?=σ (.slice (σ ⟨g,0,ν⟩) u.vars.length cap)/\w.cell? ⟨g,0+i*1,ν⟩=σ y/\av .i64 e w gy y (aF x)/\(∀r,leads y r->A9 0 r)/\
  ∀{V aa:x3}{m:Int}{z:x1}{K:Unit->x3->Prop},Ext w V->ai (λr=>leads y r) V aa->av .i64 e aa gy z (aF {x with mask:=m})->(∀r,leads z r->leads y r)->(∀L,dr w ae gT ap A R A9 aG n s t h {u with vars:=u.vars.set i {x with mask:=m}} L->K () L)->
   aD x7 (o9 an (.pointer (σ ⟨g,0+i*1,ν⟩)) z) aa K:=by
 have M:=p.olds;have aK:=(x4.1 J).1;obtain⟨szv,ah,aL,aM,aN,aO,N,_,aj,_,_,_,_,ak⟩:=id M.doc;obtain⟨g,cap,full,al,c,am,e,E,ao,F,O,P,Q,au,aw⟩:=EK (i:=i) (a:=aF x) aj (by rw[x8,J];rfl) λr _ h=>(ak rfl).2 0 r h;obtain⟨y,rfl⟩:=W9.1 (aq.len P);rw[u9]at e;have ax:full[i]?=σ y:=by have:=O 0 y rfl;simpa[show aq.n (Λ)=1 from rfl]using this
 obtain⟨gy,ay,S,az⟩:=Av P;have B:∀r,leads y r->am r:=λr f=>by
  rcases az with rfl|aA
  .obtain⟨_,_,_,e,_⟩:=f;cases e
  .obtain⟨e,_⟩:=bQ S f;rw[e];exact aA
 refine⟨g,cap,y,gy,ay,by rw[N,<-e];rfl,by have:=E.cell (o:=i) ax;rw[X8,U7];exact this,S,λr f=>(Q r (B r f)).1,λ{V aa m U K}G H W X aB=>?_⟩;have aP:=G.size;have aQ:=H.size;have F:i*1+1<=full.length:=F;obtain⟨_,_,_,Y⟩:=cU W.ls;have Z:¬leads y g:=λh=>au (B g h);refine bl (o:=0+i*1) an.i (by rw[Y];rfl) (by rw[Y];rfl) ((E.ext G).ab H Z) Ω λac ad aR C=>?_;have C:af ac g al (over full (i*1) [U]):=by
  have e:=EO (full:=full) (c:=[y]) (o:=i*1) (q:=0) (x:=U) O F Ξ;rw[X8]at C;rw[Nat.add_zero]at e;rw[e]at C;exact C
 have aS:g<w.heap.size:=E.lt;have I:ai (λr=>leads y r\/r=g) w ac:=((G.ab _).trans (H.mono λr _ h=>.inl h)).trans (ad.mono λr _ h=>.inr h);have aC:=bt W ad λr f he=>by have he:r=g:=he;exact Z (he▸X r f)
 have aE:=aw I (λr _ h=>h.imp (B r) id) C (ni (R:=aG) aC) λr f=>.inl (B r (X r f));have ag:∀r,r<w.heap.size->(leads y r\/r=g)->A9 0 r/\r<w.heap.size:=λr f h=>h.elim (λh=>Q r (B r h)) λh=>by rw[h];exact ao
 obtain⟨cp,aH,aI⟩:=M.oJ (u':={u with vars:=u.vars.set i {x with mask:=m}}) (λq r h=>h.2) (v:=ah) (by rw[N];rfl) I ag (by show bG _ _ _ _ ((u.vars.set i {x with mask:=m}).map aF);rw[U9];exact aE) rfl (p0 J rfl) (p0 J rfl) rfl rfl;refine aB _ ⟨I.mono λr f h=>.inl ⟨0,(ag r f h).1⟩,cp,cs,aH,λq r f=>?_⟩;rcases aI q r f with⟨aJ,h⟩|h
 .exact .inl ⟨aJ,h.1⟩
 .exact .inr h
end
section
variable{Z aG:ak}{w w':x3}{ae gT ap:Nat}{A R:ak}{A9:Nat->ak}{n:aJ}{s s':au}{t:aC}{cs:List x1}{a:gm}
def kl(Z aG:ak)(w:x3)(ae gT ap:Nat)(n:aJ)(s':au)(w':x3):Prop:=ai (λr=>Z r/\¬aG r) w w'/\∃ny,(∀r,ny r->Z r\/w.heap.size<=r)/\fE ny aG w' ae gT ap n s'
theorem fE.Rg{aT:ak}{cp:Nat->ak}{bp:aC}(p:cj w ae gT ap A R A9 aG n s s t [] cs)(f:∀r,Z r↔jI A R A9 aG ap r)(J:dp s'/\eZ (de n) s'/\n.funs.length<=256)(y:¬Z 0)(K:Laid w)(z:ai (et w) w V)(B:Grow A w aT V)(x:∀q r,cp q r->A9 q r)(L:dr V ae gT ap aT R cp aG n s' bp [] s' aa):kl Z aG w ae gT ap n s' aa:=by
 obtain⟨C,E,b6,M,N⟩:=L;have Q:=z.size;have S:=C.size;have O:=p.EW;have F:ai (λr=>Z r/\¬aG r) w aa:=((xY B.1 z).mono (T:=λr=>Z r/\¬aG r) λr _ h=>⟨(f r).2 (.inl h.1),λh'=>(p.read r h').1 h.2⟩).trans
  (C.mono λr _ h=>⟨(f r).2 (h.elim (λ⟨q,h⟩=>.inr (.inr (.inl ⟨q,x q r h⟩))) λh=>.inr (.inr (.inr (.inr h)))),h.elim (λ⟨q,h⟩=>O q r (x q r h)) λh h'=>(p.read r h').2.2 h⟩)
 have U:=p.box.lt;have e:∀{r:Nat}{G:Prop},(G->jI A R A9 aG ap r)->G->Z r\/w.heap.size<=r:=λP h=>.inl ((f _).2 (P h));have H:∀r,jI aT R (λq r=>E q r/\r<aa.heap.size) aG ap r->Z r\/w.heap.size<=r:=by
  intro r a;rcases a with a|a|⟨q,a,_⟩|a|a
  .exact (B.2.1 r a).elim (e .inl) .inr
  .exact e (λh=>.inr (.inl h)) a
  .exact (N q r a).elim (λ⟨I,h⟩=>e (λh=>.inr (.inr (.inl h))) ⟨I,x I r h⟩) λh=>.inr Ω
  .exact e (λh=>.inr (.inr (.inr (.inl h)))) a
  .exact e (λh=>.inr (.inr (.inr (.inr h)))) a
 exact⟨F,λr=>jI aT R (λq r=>E q r/\r<aa.heap.size) aG ap r,H,aT,R,_,bp,b6,M.olds,⟨iI F (λh=>y h.1) K,λh=>(H 0 h).elim y λh=>Ω⟩,J,λr=>Iff.rfl,λq r a=>a.2⟩
theorem kl.same(h:fE Z aG w ae gT ap n s)(J:Ext w w'):kl Z aG w ae gT ap n s w':=⟨J.ab _,Z,λ_ h=>.inl h,h.ext J⟩
theorem kl.before(J:Ext w V)(h:kl Z aG V ae gT ap n s w'):kl Z aG w ae gT ap n s w':=by
 obtain⟨c,ny,a,e⟩:=h;have:=J.size;exact⟨(J.ab _).trans c,ny,λr f=>(a r f).imp id λh=>Ω,e⟩
end
section
variable{Z aG:ak}{w w':x3}{ae gT ap:Nat}{A R:ak}{A9:Nat->ak}{n:aJ}{s s':au}{t:aC}{cs:List x1}{a:gm}
theorem Rh(h:fE Z aG w ae gT ap n s)(W:a.ok):am x7 vB [Γ ae,Γ ap,.agg a.bR.toArray] w λ_ w'=>kl Z aG w ae gT ap n (lP n s a) w':=by
 obtain⟨A,R,A9,t,cs,p,⟨aA,Q⟩,aC,S,aD⟩:=id h;have O:=p.e9.2.2.2.1;have bq:=O.eV;have br:=a.Rc;have H:¬A 0:=λh=>Q ((S 0).2 (.inl h));have X:=Re (a:=a) aC O;refine az func20 ?_;refine bf λga V bt aE Y=>?_;have Y:af V ga da [.int .u8 a.d,Δ a.i,Δ a.pos,Δ a.v,Δ a.c]:=Y;intro aa aF _ _;have E:=aE.trans aF;have C:=Y.ext aF;have bu:=aE.size;have bw:=E.size;have bx:=C.lt;have ac:(a.d % 7).toNat=a.kind:=rfl;obtain⟨szv,bz,bA,bB,bC,bD,aS,_⟩:=p.oI;have aV:cs[0]?=σ (Δ n.k):=by rw[aS];rfl
 have hu:T0.wrap a.c=a.c.emod 18446744073709551616:=rfl;have aW:0<=a.c.emod 18446744073709551616:=Int.emod_nonneg _ Φ;have bE:=Int.emod_nonneg (a.c.emod 18446744073709551616) (show n.k+1≠0 by omega);have bF:=Int.emod_lt_of_pos (a.c.emod 18446744073709551616) (show 0<n.k+1 by omega);have aX:a.c.emod 18446744073709551616 % (n.k+1)=Fu n.k a:=rfl;rw[aM da.p 4 C rfl,fm ao.u fJ.u,aQ ba.p 0 (p.box.ext E) aV,aO,wrap_i64 Ω Ω,fm ao.u fJ.u,wrap_u64 (x:=n.k+1) Ω Ω,hu,sM Ω,Int.tmod_eq_emod_of_nonneg aW,fm fJ.u ao.u,wrap_i64 Ω Ω,aX,
  aM da.p 0 C rfl,yq W.1,ac,be,al]
 have G:=p.ext E;refine⟨λad=>?_,λad=>?_⟩
 .have ad:a.kind=6:=Ω
  have I:lP n s a=if fh n a.i a.v then ej s a.i.toNat a.v.toNat else s:=by unfold lP;rw[if_pos ad]
  refine c5 (λw'=>kl Z aG w ae gT ap n (lP n s a) w') (λw' h=>h) λaB aH=>?_;rw[aM da.p 1 C rfl,aM da.p 3 C rfl];refine(xG (i:=a.i) (v:=a.v) G.e9 (.inl p.h0.1)).mono ?_;rintro bG bH _ ⟨aY,aZ⟩;by_cases L:fh n a.i a.v
  rotate_left
  .obtain⟨rfl,a1⟩:=aY L;rw[be,al];exact⟨λh=>absurd h Φ,λ_=>aH _ (by rw[I,if_neg L];exact kl.same h (E.trans a1))⟩
  obtain⟨rfl,aI,aT,y,ag,a2⟩:=aZ L;rw[if_pos L]at I;rw[be,al];refine⟨λ_=>?_,λh=>absurd rfl h⟩;have a6:=G.prog aI ag a2 G.h0.set (λ_ h=>.inl h) (λ_ _ _ h=>h) G.box.lt;obtain⟨a7,x,J,a8,bI⟩:=Fv O L;obtain⟨ai,U⟩:=U2 a7;rw[U,r9]at J;intro aj ak _ _;have z:=a6.ext ak;have aq:∀r,A r->r<w.heap.size:=λr h=>xZ p.e9 r (.inl h);have P:=(C.ab ag.1 λh=>by have:=aq ga h;omega).ext ak;rw[U]at P;have aJ:ai<s.vars.length:=(x4.1 J).1;obtain⟨g,cap,aK,gy,e,au,bb,bc,bd,bg⟩:=Rf z J;have bJ:=uG x;have bK:x.un.length<=32:=by obtain⟨bL,aL,bM,bh,_⟩:=L.var O;rw[U,r9,J]at aL;cases aL;exact bh
  have av:∀r,leads aK r->r≠ga/\r≠ap:=λr f=>by
   have h1:A9 0 r/\r<aa.heap.size:=bd r f;exact⟨λhe=>by have:=aD 0 r h1.1;omega,λhe=>(p.apart 0 r h1.1).2.2 he⟩
  rw[aQ ba.p 3 z.box au,aM da.p 1 P rfl,aQ ba.p 3 z.box au,aM da.p 1 P rfl,fb dx.u an.i aJ λ_=>rfl,aw (v:=aK) (o:=0+ai*1) Ψ bb,ig];refine(EN (p:=λy=>decide (y=a.v)) bc Ω λw' y bi bN=>?_).mono ?_
  .refine az func63 ?_;rw[aM da.p 3 (P.ab bi λh=>(av ga h).1 rfl) rfl,be];exact⟨rfl,Ext.refl _⟩
  rintro bO ax _ ⟨ay,bj,bk⟩;have bl:=P.ab ay λh=>(av ga h).1 rfl;have bm:=z.box.ab ay λh=>(av ap h).2 rfl;refine⟨.inr ⟨md Ψ (bl.cell (o:=0+1) rfl),Go.Vc.jw λK=>aU da.p rfl,md Ψ (bm.cell (o:=0+3) au),Go.Vc.jw λK=>aU ba.p rfl,Go.Vc.jw λK=>bV,trivial⟩,?_⟩;rw[fb dx.u an.i aJ λ_=>rfl];refine bg (m:=((x.mask.toNat ||| 2 ^ a.v.toNat:Nat):Int)) (Ext.refl _) ay (by rw[x9 a8];exact bj) bk λbP aN=>aH _ ?_;have bn:ej s a.i.toNat a.v.toNat={s with vars:=s.vars.set ai {x with mask:=((x.mask.toNat ||| 2 ^ a.v.toNat:Nat):Int)}}:=by rw[U,r9];unfold ej;rw[J]
  rw[I];rw[<-bn]at aN;have bo:=dr.comp (ak.ab _) (λq r f=>.inl ⟨q,f⟩) aN;exact kl.before E (fE.Rg G S (by rw[<-I];exact X) Q (aA.ext E) aI ag (λq r (f:A9 q r/\r<aa.heap.size)=>f.1) bo)
 have bQ:(kZ n.k a).kind=a.kind:=rfl;have I:lP n s a=(cB n.k s (kZ n.k a)).1:=by unfold lP;rw[if_neg Ω]
 rw[aM da.p 0 C rfl,yq W.1,ac,fm cK.u ah.u,wrap_i64 Ω Ω,aM da.p 1 C rfl,aM da.p 2 C rfl,aM da.p 3 C rfl];refine(Q8 (m:=kZ n.k a) G O aC.1 Ω).mono ?_;rintro _ aj _ ⟨rfl,aP⟩;obtain⟨aR,bS,bT,z,bU⟩:=id aP;have aq:∀r,(∃q,A9 q r)\/r=ap->r<w.heap.size:=λr f=>f.elim (λ⟨q,h⟩=>aD q r h) λh=>by rw[h];exact p.box.lt
 have B:=C.ab aR λf=>by have:=aq ga f;omega
 have M:Laid aj:=iI aR (λh=>Q ((S 0).2 (h.elim (λh=>.inr (.inr (.inl h))) λh=>.inr (.inr (.inr (.inr h)))))) (aA.ext E);have N:∀{r:x1}{ax:x3},oO [] aj ae gT A R n s (kZ n.k a) r ax->kl Z aG w ae gT ap n (lP n s a) ax:=λbp=>by
  rw[I]at X ⊢;exact kl.before E (fE.step G S X Q aP (Ext.refl _) bp.2)
 rw[aM da.p 0 B rfl,yq W.1,ac,be,al];refine⟨λhk=>?_,λbW=>?_⟩
 .rw[aM da.p 1 B rfl,aM da.p 2 B rfl,aM da.p 3 B rfl];exact(Qx (a:=kZ n.k a) Ω z.e9 M H z.h0.m).mono λr w' _ f=>N f
 rw[be,al];refine⟨λhk=>?_,λbX=>?_⟩
 .rw[aM da.p 1 B rfl,aM da.p 2 B rfl,aM da.p 3 B rfl];exact(Qy (a:=kZ n.k a) Ω z.e9 M H z.h0.m).mono λr w' _ f=>N f
 rw[be,al];refine⟨λhk=>?_,λbY=>?_⟩
 .rw[aM da.p 1 B rfl];exact(QD (a:=kZ n.k a) Ω z.e9 M H z.h0.m).mono λr w' _ f=>N f
 rw[be,al];refine⟨λhk=>?_,λbZ=>?_⟩
 .rw[aM da.p 1 B rfl];exact(QF (a:=kZ n.k a) Ω z.e9 M H z.h0.m).mono λr w' _ f=>N f
 rw[be,al];refine⟨λhk=>?_,λb0=>?_⟩
 .rw[aM da.p 1 B rfl,aM da.p 3 B rfl];exact(QG (a:=kZ n.k a) Ω z.e9 M H z.h0.m).mono λr w' _ f=>N f
 .rw[aM da.p 1 B rfl,aM da.p 3 B rfl];exact(QH (a:=kZ n.k a) Ω z.e9 M H z.h0.m).mono λr w' _ f=>N f
end
def rT(s:au):Prop:=∀f∈s.funs,f.live≠0
theorem Ri(n:aJ):rT (de n):=by
 intro f ag;unfold de at ag;obtain⟨g,_,rfl⟩:=j5.1 ag;exact(by decide:(1:Int)≠0)
theorem Rj{a b:au}(h:eZ a b)(k:rT a):rT b:=by
 intro g p;obtain⟨j,e⟩:=List.getElem?_of_mem p;have q:=(x4.1 e).1;obtain⟨f,ag⟩:=aI (l:=a.funs) (i:=j) (by have:=h.funs;omega);rw[(h.fn j f g ag e).2.2.1];exact k f (x5 ag)
section
variable{w:x3}{ae gT:Nat}{A R:ak}{n:aJ}{s:au}{t:aC}{fd:x1}
end
def lQ(w0 w:x3)(ae gT ap:Nat)(n:aJ):Prop:=Ext w0 w/\∃s Z aG,fE Z aG w ae gT ap n s/\∀r,Z r->w0.heap.size<=r
section
variable{w0 w w':x3}{ae gT ap:Nat}{n:aJ}{s:au}{Z aG:ak}
theorem lQ.ext(h:lQ w0 w ae gT ap n)(J:Ext w w'):lQ w0 w' ae gT ap n:=by
 obtain⟨a,s,Z,aG,e,f⟩:=h;exact⟨a.trans J,s,Z,aG,e.ext J,f⟩
end
theorem fE.live{Z aG:ak}{ae gT ap:Nat}{n:aJ}{s:au}(h:fE Z aG w ae gT ap n s):rT s/\s.funs.length<=256:=by
 obtain⟨_,_,a,ag⟩:=h.ok;refine⟨Rj a (Ri n),?_⟩;rw[a.funs];unfold de;rw[u9];exact ag
section
variable{w0 w w':x3}{ae gT ap:Nat}{n:aJ}{s:au}{Z aG:ak}
theorem lQ.Rk{a:gm}(h:lQ w0 w ae gT ap n)(q:a.ok):am x7 vB [Γ ae,Γ ap,.agg a.bR.toArray] w λ_ w'=>lQ w0 w' ae gT ap n:=by
 obtain⟨e,s,Z,aG,x,f⟩:=h;refine(Rh x q).mono ?_;rintro v V _ ⟨y,A,B,C⟩;have z:=e.size;exact⟨e.then y λr p h=>by have:=f r h.1;omega,_,A,aG,C,λr p=>(B r p).elim (f r) λh=>Ω⟩
theorem Rl{e:x1}{L:List lO}{K:x1->x3->Prop}{i:Nat}{x:lO}(q:Seen fo w [e] L)(J:L[i]?=σ x)(r:∀g w',Ext w w'->w.heap.size<=g->af w' g da (nz x).bR->K (Γ g) w'):
  ac x7 (c9 nQ e (Δ (i:Int))) w λs=>
  ac x7 (u5 da s) w λy=>
  aD x7 (Instr.alloc da true (.tuple #[])) w λa f=>
  aD x7 (o9 da a y) f λ(_:Unit)h=>K a h:=by
 refine nZ (α:=lO) da.p rfl nQ.u da.i q J λcs z=>?_;obtain rfl:=Ra z;refine bo da.i λgy f F A B=>?_;refine cb (vs:=(nz x).bR) da.i rfl rfl (gm.one _) B λh C G E=>?_;exact r _ _ (A.put C Ω) Ω E
theorem Rm{s:x1}{L:List lO}{m:Int}{K:x3->Prop}(h:lQ w0 w ae gT ap n)(e:Seen fo w0 [s] L)(I:∀x∈L,(nz x).ok)(J:∀w',lQ w0 w' ae gT ap n->K w'):
  ac x7 (V2 #[nQ] ah #[s]) w λM=>
 ce (Δ 0) w λq a k=>
  ac x7 (aN .lss ah false false q M) a λN=>
  Split N (cz (α:=x3->Prop) (λ(z:x3)=>
   ac x7 (aN .add ah false true q (Δ 1)) z λO=>
   k O z) λA=>
  ac x7 (c9 nQ s q) a λP=>
  ac x7 (u5 da P) a λQ=>
  aD x7 (Instr.alloc da true (.tuple #[])) a λb B=>
  aD x7 (o9 da b Q) B λ(_:Unit)r=>
  ac x7 (aN .lss ah false true q (Δ m)) r λR=>
  Split R (ac x7 (u5 da b) r λS=>
   am x7 vB [Γ ae,Γ ap,S] r λZ C=>
   A C)
   (A r))
   (K a):=by
 rw[jq nQ.u (b0 e h.1)];refine ce.range L.length (λi y=>lQ w0 y ae gT ap n) (sR e) h ?_ ?_
 .rintro i y U hi f V;obtain⟨x,E⟩:=aI (l:=L) hi;have W:=I x (x5 E);refine bH Ω ?_;refine c5 (λa=>lQ w0 a ae gT ap n) (λa X=>by rw[aO];exact V _ X) λaB G=>?_;refine Rl (b0 e f.1) E λgy B H _ Y=>?_;rw[aS,al];refine⟨λ_=>?_,λ_=>G _ (f.ext H)⟩;rw[bK da.p da.i rfl Y.range];exact((f.ext H).Rk W).mono λv C _ e=>G _ e
 .rintro y U f;exact ct Ω (J _ f)
end
theorem Rn{N:Nat}{q:Λ}{f:bY}(a:e3 N f)(e:q.length<=300)(h:fp q=σ f):(de (cT f)).funs.length<=100:=by
 have h1:=(pL a).2.length_eq;have r:=(kJ a).2.2;have s:=T9 ft (ff f);have w:=(QQ e h).2;have p:=(ou f (fu f).length).2.2.2;rw[rl]at p;have x:(de (cT f)).funs.length=(cT f).funs.length:=u9 _;omega
def Fw(w:x3)(pl:Λ)(r:x1)(w':x3):Prop:=Ext w w'/\((∃cs:List x1,r= .tuple #[.pointer ν,.agg cs.toArray,.bool false]/\cs.length=8/\∀u∈cs,u.oneCell'=true)\/∃f ae gT ap Z aG s cs,r= .tuple #[Γ ae,.agg cs.toArray,.bool true]/\fp (pl.take 300)=σ f/\(de (cT f)).funs.length<=100/\
 fE Z aG w' ae gT ap (cT f) s/\lN [] Z aG w' ae gT ap (cT f) s s cs/\∀r,Z r->w.heap.size<=r)
theorem Ro{p W:x1}{L:List lO}(aw:aH .u8 w p pl)(ax:∀b∈pl,0<=b/\b<256)(ay:Seen fo w [W] L)(aA:∀x∈L,(nz x).ok)(aB:e5 w)(C:Laid w):am x7 Gy [p,W] w (Fw w pl):=by
 have aY:=Fs C;refine az func8 ?_;refine bo ba.i λq V aZ y X=>?_;have a2:=X.lt;have a6:=y.size;refine(Ft (aw.ext y) ax (aB.ext y)).mono ?_;rintro _ aa _ ⟨E,a7,cs,ok,rfl,⟨G,H⟩,aC,_⟩;rw[fP,fQ,fR];refine bo ba.i λap a8 bb aE aF=>?_;refine cb (vs:=cs) ba.i G rfl H aF λY aI bc ab=>?_;have ad:Ext aa Y:=aE.put aI Ω;have I:=E.trans ad;have ah:=y.trans I;have bd:=E.size;have out:∀{a:x3}{z:List x1}{K:x1->x3->Prop},Ext V a->af a ap ba z->z.length=8->(∀u∈z,u.oneCell'=true)->(∀e,ai (λr=>r=q) a e->K (.agg z.toArray) e)->
   ac x7 (u5 ba (Γ ap)) a λt25=>aD x7 (o9 ba (Γ q) t25) a λ(_:Unit)e=>ac x7 (do loadVar ba (<-asAddr (Γ q))) e λr=>K r e:=λ{a z K}J aJ M aK aL=>by
  rw[bK ba.p ba.i M aJ.range];refine cb (vs:=z) ba.i M rfl aK (X.ext J) λe O be aM=>?_;rw[fO ba.p ba.i M aM.range];exact aL _ O
 have no:∀{e:x3},(∃a,Ext Y a/\ai (λr=>r=q) a e)->Fw w pl (.tuple #[.pointer ν,.agg cs.toArray,.bool false]) e:=λ⟨a,aN,aO⟩=>⟨(ah.trans aN).then aO λr B h=>by have h:r=q:=h;omega,.inl ⟨cs,rfl,G,H⟩⟩;rcases aC with⟨rfl,rfl⟩|⟨rfl,f,ag,aj⟩
 .rw[bE,V0,bT];intro aP P _ _;exact out (I.trans P) (ab.ext P) G H λe O=>no ⟨aP,P,O⟩
 have aQ:(de (cT f)).funs.length<=100:=by
  obtain⟨_,_,_,_,_,N,_,_,aR,_⟩:=id aj;exact Rn aR (by rw[n9];omega) ag
 obtain⟨ae,gT,Z,aG,rfl,aS,aT⟩:=Q9 aj ad ab Ω E.size (Fs (C.ext y)) (C.ext ah);rw[bE,Y7,a1];refine Rm (w0:=V) ⟨I,_,Z,aG,aS,aT⟩ (b0 ay y) aA λbf aU=>?_;obtain⟨ak,s,al,aV,aW,an⟩:=aU;intro bg Q _ _;have ao:=aW.ext Q;obtain⟨S,aq,aX⟩:=ao.cO;have au:S.length=8/\∀u∈S,u.oneCell'=true:=by
  obtain⟨A,R,A9,t,p,_⟩:=id aq;exact cd.len p.doc
 have av:∀r,al r->¬r=q:=λr B h=>by have:=an r B;omega
 refine out (ak.trans Q) aX au.1 au.2 λbh U=>⟨((y.trans ak).trans Q).then U λr B h=>by have h:r=q:=h;omega,.inr ⟨f,ae,gT,ap,al,aV,s,S,rfl,ag,aQ,ao.side U av (λh=>by have h:0=q:=h;omega),aq.side U av (λh=>by have h:0=q:=h;omega),λr B=>by have:=an r B;omega⟩⟩
def k0:Λ:=[116,32,49,32,50,32,49,32,57,32,50,32,49,32,48,32,48,32,50,32,48,32,49,32,49,32,50]
def hn:bY:=⟨[116],9,[2],[⟨[0],[2],0,[([0],1),([1],2)]⟩]⟩
theorem Rp:fp k0=σ hn:=by
 have h:(match fp k0 with
  |some f=>decide (f.name=hn.name/\f.k=hn.k/\f.sizes=hn.sizes)&&decide (f.funs.map (λx=>(x.scope,x.sizes,x.other,x.lines))=hn.funs.map λx=>(x.scope,x.sizes,x.other,x.lines))
  |none=>false)=true:=by decide+kernel
 cases q:fp k0 with
 |none=>rw[q]at h;cases h
 |some f=>
  rw[q]at h;simp only[U1,decide_eq_true_eq]at h;obtain⟨⟨h1,r,s⟩,e⟩:=h;obtain⟨nm,k,y,p⟩:=f;simp only at h1 r s e;subst h1;subst r;subst s;have:p=hn.funs:=by
   have w:p.length=1:=by have:=congrArg S5 e;simpa[hn]using this
   match p,w with
   |[x],_=>
    obtain⟨a,b,c,d⟩:=x;simp[hn]at e;obtain⟨rfl,rfl,rfl,rfl⟩:=e;rfl
  subst this;rfl
theorem Rq:iS hn.funs<=16384:=by decide+kernel
def Fx(a:c4):Int×Int×Int×Int:=(a.eo,a.i,a.j,a.v)
theorem Rr:kk (cT hn) (de (cT hn)) 1=[⟨1,0,-1,-1⟩]:=by
 have h:(kk (cT hn) (de (cT hn)) 1).map Fx=[(1,0,-1,-1)]:=by decide+kernel
 generalize kk (cT hn) (de (cT hn)) 1=l at h;have e:l.length=1:=by have:=congrArg S5 h;simpa using this
 match l,e with
 |[⟨a,b,c,d⟩],_=>
  simp[Fx]at h;obtain⟨rfl,rfl,rfl,rfl⟩:=h;rfl
theorem qd(a:c4):∀u∈fB a,u.oneCell'=true:=λu hu=>by
 simp[fB]at hu;rcases hu with rfl|rfl|rfl|rfl<;>rfl
abbrev h8(w:x3)(g:Nat)(v:x1)(l:List c4):Prop:=bi fB 4 bS w g v l
section
variable{sv:x1}{l:List c4}{g eu:Nat}{cap:Array x1}{p:c4->Bool}{w:x3}
theorem rU{i:Nat}{a:c4}{K:x1->Prop}(h:h8 w g sv l)(hi:l[i]?=σ a):ac x7 (c9 dy sv (Δ (i:Int))) w (λq=>ac x7 (u5 bS q) w K)=K (.agg (fB a).toArray):=by
 rw[dj rfl dy.u bS.i h (x4.1 hi).1,bK bS.p bS.i rfl (h.range hi)]
theorem Rs(h:h8 w g sv l)(s:∀w' x,Ext w w'->x∈l->am x7 eu (.agg (fB x).toArray::cap.toList) w' λr z=>r= .bool (p x)/\Ext w' z):
  am x7 Hi [sv,.func (.func eu) #[] cap] w λv w'=>Ext w w'/\((v=Δ (-1)/\∀x∈l,p x=false)\/∃i:Nat,v=Δ (i:Int)/\i<l.length/\(∀x∈l.take i,p x=false)/\∀x,l[i]?=σ x->p x=true):=by
 refine az func79 ?_;rw[ea dy.u h];refine b5.range l.length (λi _ V=>Ext w V/\∀x∈l.take i,p x=false) h.le ⟨Ext.refl _,Ξ⟩ ?_ ?_
 .rintro i _ V k hi ⟨a,e⟩ hk;refine bH Ω ?_;obtain⟨y,f⟩:=aI (l:=l) hi;rw[rU (h.ext a) f];refine am.mono (s V y a (x5 f)) ?_;rintro _ aa _ ⟨rfl,q⟩;rw[bZ];refine⟨λA=>⟨a.trans q,.inr ⟨i,rfl,hi,e,λx J=>by rw[f]at J;cases J;exact A⟩⟩,λag=>?_⟩;rw[aO];refine hk _ _ ⟨a.trans q,λx J=>?_⟩;rw[u7,f]at J;rcases o5.1 J with J|J
  .exact e x J
  .simp at J;subst J;exact ag
 .rintro _ V k ⟨a,e⟩;rw[o7]at e;rw[aS,al];exact⟨λh=>Ω,λ_=>⟨a,.inl ⟨rfl,e⟩⟩⟩
theorem Rt(h:h8 w g sv l)(aW:l.length<=100000000)(ae:∀w' x,ai (λr=>leadsTo sv r) w w'->x∈l->am x7 eu (.agg (fB x).toArray::cap.toList) w' λr ay=>r= .bool (p x)/\Ext w' ay):
  am x7 GI [sv,.func (.func eu) #[] cap] w λv w'=>ai (λr=>leadsTo sv r) w w'/\h8 w' g v (l.filter λx=>!p x)/\∀r,leadsTo v r->leadsTo sv r:=by
 refine az func24 ?_;refine(Rs h λw' x J=>ae w' x (J.ab _)).mono ?_;rintro _ V _ ⟨G,⟨rfl,M⟩|⟨i,rfl,hi,M,aA⟩⟩
 .rw[be,al];refine⟨λ_=>⟨G.ab _,?_⟩,λh=>absurd rfl h⟩;rw[List.filter_eq_self.2 λx J=>by rw[M x J];rfl];exact⟨h.ext G,λ_ h=>h⟩
 rw[be,al];refine⟨λh=>Ω,λ_=>?_⟩;rw[aO,wrap_i64 Ω Ω];obtain⟨n,N⟩:∃n,l.length=n:=⟨_,rfl⟩;obtain⟨z,rfl⟩:∃z,sv= .slice (σ ⟨g,0,ν⟩) n z:=by
  obtain⟨_,⟨_,h1⟩|⟨z,cs,h1,_⟩⟩:=h.1
  .omega
  .exact⟨z,by rw[h1,N]⟩
 have ah:∀r,r=g->leadsTo (.slice (σ ⟨g,0,ν⟩) n z) r:=λr O=>⟨_,_,_,rfl,O.symm⟩;have aC:∀r,leadsTo (.slice (σ ⟨g,0,ν⟩) n z) r->r=g:=λr ⟨_,_,_,C,P⟩=>by cases C;exact P.symm
 have aD:(l.take (i+1)).filter (λx=>!p x)=l.take i:=by
  obtain⟨y,A⟩:=aI (l:=l) hi;rw[u7,A,List.filter_append,List.filter_eq_self.2 λx J=>by rw[M x J];rfl];simp[aA y A]
 refine⟨λQ R E=>∃(q j:Nat)(s:List c4),Q=Δ (q:Int)/\R=Δ (j:Int)/\q<j/\j<=n/\ai (λr=>r=g) w E/\h8 E g (.slice (σ ⟨g,0,ν⟩) n z) s/\s.length=n/\s.take q=(l.take j).filter (λx=>!p x)/\∀k,j<=k->s[k]?=l[k]?,
  λ_ R _=>n-(bU R).toNat,⟨i,i+1,l,rfl,rfl,Ω,Ω,G.ab _,h.ext G,N,aD.symm,λ_ _=>rfl⟩,?_⟩
 rintro _ _ E ⟨q,j,s,rfl,rfl,aX,aZ,H,I,S,B,U⟩;have a1:q=((l.take j).filter λx=>!p x).length:=by rw[<-B,n9];omega
 rw[hr dy.u,aS,al];refine⟨λaE=>?_,λa2=>?_⟩
 .have aE:j<n:=Ω
  obtain⟨y,A⟩:=aI (l:=l) (i:=j) Ω;have aF:s[j]?=σ y:=by rw[U j (o4 _),A]
  refine aV (λQ K=>∃(q:Nat)(s:List c4),Q=Δ (q:Int)/\q<j+1/\ai (λr=>r=g) w K/\h8 K g (.slice (σ ⟨g,0,ν⟩) n z) s/\s.length=n/\s.take q=(l.take (j+1)).filter (λx=>!p x)/\∀k,j+1<=k->s[k]?=l[k]?) ?_ ?_
  .rintro _ K ⟨q,s,rfl,h1,W,X,Y,Z,aa⟩;rw[aO,wrap_i64 Ω Ω];exact⟨⟨q,j+1,s,rfl,rfl,h1,Ω,W,X,Y,Z,aa⟩,by simp only[bU];omega⟩
  intro aB aj;rw[rU I aF];refine bo bS.i λaY K a6 aG aH=>?_;refine cb (vs:=fB y) bS.i rfl rfl (qd y) aH λak aJ a7 an=>?_;have ao:Ext E ak:=aG.put aJ Ω;rw[bK bS.p bS.i rfl an.range];refine am.mono (ae ak y ((H.trans (ao.ab _)).mono λr _=>ah r) (x5 A)) ?_;rintro _ a8 _ ⟨rfl,ap⟩;have L:=ao.trans ap;have aq:(l.take (j+1)).filter (λx=>!p x)=(l.take j).filter (λx=>!p x)++[y].filter (λx=>!p x):=by rw[u7,A,List.filter_append];rfl
  rw[bE,bZ];refine⟨λaK=>?_,λag=>?_⟩
  .have au:=I.ext L;rw[bK bS.p bS.i rfl (an.ext ap).range,dj rfl dy.u bS.i au Ω];refine B6 bS.i au rfl (qd y) Ω λav ac ba aL=>?_;rw[aO,wrap_i64 Ω Ω];refine aj _ _ ⟨q+1,_,rfl,Ω,(H.trans (L.ab _)).trans (ac.mono λr _=>aC r),aL,by simpa using S,?_,λk hk=>?_⟩
   .rw[aq,u7,b9 Ω,List.take_set_of_le (o4 _),B];simp only[o8];rw[show[y].filter (λx=>!p x)=[y] by simpa using aK]
   .rw[Y4 Ω];exact U k Ω
  .refine aj _ _ ⟨q,s,rfl,Ω,H.trans (L.ab _),I.ext L,S,?_,λk hk=>U k Ω⟩;rw[aq,show[y].filter (λx=>!p x)=[] by simpa using ag,X5];exact B
 .have aM:j=n:=Ω
  subst aM;rw[<-N,o7]at B;obtain⟨⟨_,aN⟩,_⟩:=id I;obtain⟨cs,aP,aQ,aR,bb,aw⟩:∃cs,af E g bS cs/\s.length<=z/\z<=maxLen/\cs.length=z*4/\cs.take (s.length*4)=s.flatMap fB:=by
   rcases aN with⟨_,bc⟩|⟨bd,cs,C,W,X,Y,Z,aa⟩
   .omega
   .cases C;exact⟨cs,W,X,Y,Z,aa⟩
  simp only[maxLen]at aR;rw[S]at aQ aw;rw[gW dy.u bS.i (l:=q) (h:=j) (m:=z) pf jl fc Ω Ω Ω,if_neg Ω];have C:V7 (λx:Addr=>x.add (q*4)) (σ ⟨g,0,ν⟩)=σ ⟨g,q*4,ν⟩:=by simp[T3]
  rw[C];refine C6 (g:=g) (o:=q*4) (n:=j-q) (k:=4) dy.u bS.i rfl ?_ aP Ω λav ac ad=>?_
  .exact w2 Φ Φ
  obtain⟨vs,bf,ad⟩:∃vs:List x1,vs.length=(j-q)*4/\af av g bS (over cs (q*4) vs):=⟨_,nW _ _,ad⟩;rw[gW dy.u bS.i (l:=0) (h:=q) (m:=z) jk pg fc Ω Ω Ω,if_neg Ω];have P:V7 (λx:Addr=>x.add (0*4)) (σ ⟨g,0,ν⟩)=σ ⟨g,0,ν⟩:=by simp[T3]
  rw[P];refine⟨(H.trans ac).mono λr _=>ah r,?_,λr O=>by obtain⟨a,_,_,e,aT⟩:=O;cases e;exact⟨_,_,_,rfl,aT⟩⟩;have ax:(l.filter λx=>!p x).length=q:=by rw[<-B,n9];omega
  refine⟨⟨hX λ_ _=>rfl,.inr ⟨z,_,by rw[ax,Nat.sub_zero,Nat.sub_zero],ad,Ω,by simp only[maxLen];omega,by rw[ld];omega,?_⟩⟩,λ_ _=>rfl⟩;have aU:(l.filter λx=>!p x).flatMap fB=(s.flatMap fB).take (q*4):=by rw[pD (f:=fB) (k:=4) q (λ_ _=>rfl),B]
  rw[ax,aU,<-aw,List.take_take,Nat.min_eq_left Ω];apply Y5;intro k;by_cases hk:k<q*4
  .rw[Z9 hk,Z9 hk,mM _ _ _ Ω,if_neg Ω]
  .rw[Z4 (by rw[n9];omega),Z4 (by rw[n9];omega)]
end
def jK(w w':x3)(ae g1 go:Nat)(l:List c4):Prop:=Ext w w'/\af w' g1 cI [Γ ae]/\∃v g,af w' go dy [v]/\h8 w' g v l/\∀r,leadsTo v r->w.heap.size<=r
theorem jK.ext{ae go:Nat}{l:List c4}(h:jK w V ae g1 go l)(J:Ext V aa):jK w aa ae g1 go l:=by
 obtain⟨h1,a,v,g,e,f,p⟩:=h;exact⟨h1.trans J,a.ext J,v,g,e.ext J,f.ext J,p⟩
theorem Ru{v:x1}(h:∃a n c,v= .slice a n c):v.cells= #[v]/\v.oneCell'=true:=by
 obtain⟨a,n,c,rfl⟩:=h;exact⟨rfl,rfl⟩
def rV(V aa:x3):Prop:=∀b e cs,af V b e cs->e≠bS->e≠dy->af aa b e cs
theorem rV.ext(h:Ext V aa):rV V aa:=λ_ _ _ a _ _=>a.ext h
theorem rW{ae go g:Nat}{v x:x1}{l:List c4}{K:Unit->x3->Prop}(a:c4)(J:Ext w V)(N:af V g1 cI [Γ ae])(O:af V go dy [v])(hm:h8 V g v l)(H:∀r,leadsTo v r->w.heap.size<=r)(ad:w.heap.size<=go)(P:x.cells=(fB a).toArray)(ag:l.length<=100000000)(Q:∀aa,jK w aa ae g1 go (l++[a])->rV V aa->K () aa):
  aD x7 (Y3 dy 1 #[(0,x)]) V λy aa=>aD x7 (Z2 #[dy,dy] dy #[v,y]) aa λz s=>
   aD x7 (o9 dy (Γ go) z) s K:=by
 refine hD (f:=fB) (a:=a) dy.u bS.i Ω P rfl λy gy aa ah A R=>?_;refine io dy.u bS.i rfl (hm.ext A) (by simpa using R.sl) (qd a) Ω Ω λz gz s B S I=>?_;have ai:=J.size;have aj:=A.size;have C:∀b e cs,af V b e cs->e≠bS->af s b e cs:=λb e cs p he=>(p.ext A).ab I λq=>by
  obtain⟨rfl,b6,E⟩:=dS hm q;exact he (eb p E)
 have F:=C _ _ _ O Φ;have U:=C _ _ _ N Φ;obtain⟨W,X⟩:=Ru (v:=z) (by obtain⟨_,_,_,_,_,e,_⟩:=B.sl;exact⟨_,_,_,e⟩);refine bl (g:=go) (o:=0) dy.i W X F Ξ λL G ak Y=>?_;have M:∀b e cs,af s b e cs->e≠dy->af L b e cs:=λb e cs p he=>p.ab G λh=>by
  have h:b=go:=h;subst h;exact he (eb p F)
 have Z:∀r,leadsTo z r->w.heap.size<=r:=λr q=>(S r q).elim (H r) λh=>Ω
 refine Q L ⟨((J.trans A).then I λr q he=>by have:=H r he;omega).then G λr q he=>by have he:r=go:=he;omega,M _ _ _ U Φ,z,gz,Y,B.ab G λr q he=>?_,Z⟩ λb e cs p h1 ac=>M b e cs (C b e cs p h1) ac;have he:r=go:=he;subst he;obtain⟨rfl,b6,E⟩:=dS B q;exact absurd (eb E F) Φ
section
variable{w:x3}{ae gT:Nat}{A R:ak}{n:aJ}{s:au}{t:aC}
theorem Rv(h:bu w ae gT A R n s t)(M:Laid w):am x7 GG [Γ ae] w λv w'=>Ext w w'/\∃g,h8 w' g v (mv n s n.sizes.length)/\∀r,leadsTo v r->w.heap.size<=r:=by
 have y:=h.2.2.2.1;have ca:=y.eW.2.1;refine gV func22 ?_;refine bf λg1 V cb ak S=>?_;have S:af V g1 cI [Γ ae]:=S;refine bo dy.i λgo aa U N an=>?_;have an:af aa go dy [.slice ν 0 0]:=an;have cc:=ak.size;have cd:=N.size;rw[aw (v:=Γ ae) Ψ ((S.ext N).Qz rfl)];refine(xC (h.ext (ak.trans N))).mono ?_;rintro _ cg _ ⟨rfl,ao⟩;have U:w.heap.size<=go:=Ω
 have z:∀{O:x3}{K:x1->Prop},af O g1 cI [Γ ae]->K (Γ ae)->ac x7 (u5 cI (Γ g1)) O K:=λap aq=>by
  rw[aw (v:=Γ ae) Ψ (ap.Qz rfl)];exact aq
 refine ce.range n.sizes.length (λi au=>jK w au ae g1 go (mv n s i)) Ω ⟨(ak.trans N).trans ao,(S.ext N).ext ao,_,0,an.ext ao,bi.nil _ _ _ _ _,λr a=>(e4 a).elim⟩ ?_ ?_
 rotate_left
 .rintro au bk ⟨bm,_,v,g,bn,bp,bt⟩;refine ct Ω ?_;rw[aw (v:=v) Ψ (bn.Qz rfl)];intro av aL _;exact⟨bm.trans aL,g,bp.ext aL,bt⟩
 rintro i au bk hi aM bx;have aN:mv n s (i+1)=mv n s i++jJ n s i:=ym i;have bz:=Fk (m:=i) y;generalize mv n s i=W at aM aN bz;refine bH Ω ?_;refine c5 (λav=>jK w av ae g1 go (W++jJ n s i)) (λav bA=>?_) λaB B=>?_
 .rw[aO];exact bx _ (by rw[aN];exact bA)
 refine bo ah.i λH ch ci bB bC=>?_;refine bl (g:=H) (o:=0) (v:=Δ (i:Int)) ah.i rfl rfl bC Φ λbE bF cj X=>?_;have X:af bE H ah [Δ (i:Int)]:=X;have Y:=aM.ext (bB.put bF Ω);have C:∀{O:x3}{K:x1->Prop},af O H ah [Δ (i:Int)]->K (Δ (i:Int))->ac x7 (u5 ah (Γ H)) O K:=λap aq=>by
  rw[aw (v:=Δ (i:Int)) Ψ (ap.Qz rfl)];exact aq
 refine z Y.2.1 (C X ?_);refine(Pz (i:=(i:Int)) (h.ext Y.1) (M.ext Y.1)).mono ?_;rintro r bG _ ⟨aP,bI,ax⟩;have ay:=Y.ext aP;have az:=X.ext aP;cases ad:h4 n s i with
 |false=>
  obtain rfl:=bI ad;rw[fP,fQ,fR,bD,al];refine⟨λ_=>B _ ?_,λh=>absurd Φ h⟩;unfold jJ;rw[ad,if_neg Φ,X5];exact ay
 |true=>
 obtain⟨_,x,Z,_⟩:=xN y ad;have aA:bw s i=aF x:=by unfold bw;rw[Z]
 have a:=ax x ad Z;rw[<-aA]at a;have a:r= .tuple #[Δ (p6 n s i).1,Δ (p6 n s i).2,Δ 0]:=a;subst a;have bJ:jJ n s i=lK n s i++((bw s i).flatMap (h6 n s i)++qa n s i):=by unfold jJ;rw[if_pos ad]
 have ck:=uR (i:=(i:Int)) y;rw[fP,fQ,fR,bD,al];refine⟨λh=>absurd rfl h,λ_=>?_⟩;refine c5 (λI=>jK w I ae g1 go (W++lK n s i)/\af I H ah [Δ (i:Int)]) ?_ ?_
 rotate_left
 .intro cl aQ;refine aV (λr I=>r= .bool (decide (0<(p6 n s i).1\/(p6 n s i).2<0))/\I=bG) ?_ ?_
  .rintro _ _ ⟨rfl,rfl⟩;rw[al];refine⟨λp=>?_,λp=>aQ _ ⟨?_,az⟩⟩
   .obtain⟨P,bK,v,g,aR,bL,bM⟩:=ay;rw[aw (v:=v) Ψ (aR.Qz rfl)];refine C az ?_;rw[cZ (cs:=#[Δ 1,Δ (i:Int),Δ (-1),Δ (-1)]) Ψ];refine rW ⟨1,i,-1,-1⟩ P bK aR bL bM U rfl Ω λI E bO=>aQ _ ⟨?_,bO _ _ _ az Φ Φ⟩;unfold lK gl;rw[if_pos p];exact E
   .unfold lK gl;rw[if_neg p,X5];exact ay
  .intro bP Q;rw[bN,al];refine⟨λh1=>Q _ _ ⟨by rw[decide_eq_true (.inl h1)],rfl⟩,λh1=>?_⟩;rw[aS];refine Q _ _ ⟨?_,rfl⟩;congr 1;exact decide_eq_decide.2 ⟨.inr,λh=>h.resolve_left h1⟩
 rintro I ⟨E,aT⟩;have bQ:(W++lK n s i).length<=34*i+1:=by
  have:(lK n s i).length<=1:=kY;rw[r8];omega
 rw[bJ,<-Y6]at B;generalize W++lK n s i=aC at E B bQ;refine z E.2.1 (C aT ?_);refine(h3 (i:=(i:Int)) (h.ext E.1)).mono ?_;rintro _ cm _ ⟨⟨b,m,rfl,aU⟩,bR⟩;refine(ll (b:=b) (n:=m)).mono ?_;rintro _ cn _ ⟨bS,aY,rfl,cp,bT⟩;have aD:=kd aU Ω Z;rw[<-aA]at aD;have aE:=bR.trans bS;refine jf.old ⟨_,false,ic,#[Γ aY],_,_,_,_,λj w'=>jK w w' ae g1 go (aC++((bw s i).take j).flatMap (h6 n s i))/\af w' H ah [Δ (i:Int)],λ_ _ _=>False,rfl,(lk (g:=aY) aU.1).s,?_,
  λ_ _ J h=>⟨h.1.ext J,h.2.ext J⟩,λ_ _ _ aW h=>⟨h.1.ext aW,h.2.ext aW⟩,λ_ _ _ _ _ h=>h,⟨bT,M.ext (E.1.trans aE)⟩,⟨by simpa using E.ext aE,aT.ext aE⟩,?_,?_,λ_ _ h=>h.elim,λ_ _ _ h=>h.elim⟩
 .rintro _ _ _ _ ⟨_,_,_,_,rfl⟩;rfl
 .rintro _ j _ bU ⟨bV,_⟩ ⟨cq,rfl,v,ad,bW⟩ ⟨q,ab⟩;cases bW;intro aX L _ _;have bX:(bw s i)[j]?=σ (v:Int):=by rw[<-aD,x8,ad];rfl
  have aZ:((bw s i).take (j+1)).flatMap (h6 n s i)=((bw s i).take j).flatMap (h6 n s i)++h6 n s i v:=by
   rw[u7,bX,o8,S8,List.flatMap_singleton]
  have ag:=lM (l:=(bw s i).take j) (f:=h6 n s i) (k:=1) λv _=>kY;rw[n9]at ag;generalize ((bw s i).take j).flatMap (h6 n s i)=a1 at q ag aZ;have a2:aC++((bw s i).take (j+1)).flatMap (h6 n s i)=(aC++a1)++h6 n s i v:=by rw[aZ,Y6]
  have G:=q.ext L;have ai:=ab.ext L;have bY:=bV.ext L;refine z G.2.1 (C ai ?_);refine xM (h.ext G.1) λe aG bZ=>?_;rw[bq,br];intro cr b0 _ _;have a6:=bZ.trans b0;have aj:=G.ext a6;refine z aj.2.1 (z aj.2.1 ?_);refine(rA (h.ext aj.1)).mono ?_;rintro _ cu _ ⟨rfl,aH⟩;refine⟨.inl aH,?_⟩;have a7:=aj.ext aH;refine(kb (h.ext a7.1)).mono ?_;rintro _ cw _ ⟨rfl,a8⟩;refine(Eg y.zero (uu y) y.eV).mono ?_;rintro _ cz _ ⟨rfl,ba⟩;have bb:=(a7.ext a8).ext ba;rw[bq,br];refine z bb.2.1 ?_;refine(kb (h.ext bb.1)).mono ?_;rintro _ cA _ ⟨rfl,b1⟩;have aI:=(((a6.trans aH).trans a8).trans ba).trans b1;have aJ:=G.ext aI;have aK:=ai.ext aI;have bc:=bY.ext aI;rw[be,al];refine⟨λp=>?_,λp=>?_⟩
  .obtain⟨P,b2,u,g,bd,b3,b4⟩:=aJ;rw[aw (v:=u) Ψ (bd.Qz rfl)];refine C aK ?_;rw[cZ (cs:=#[Δ 1,Δ (i:Int),Δ (-1),Δ (v:Int)]) Ψ];refine rW ⟨1,i,-1,v⟩ P b2 bd b3 b4 U rfl (by rw[r8];omega) λcB bg bh=>?_;refine⟨⟨bh _ _ _ bc Φ Φ,M.ext bg.1⟩,⟨?_,bh _ _ _ aK Φ Φ⟩,λh=>by cases h⟩;rw[a2];unfold h6 gl;rw[if_pos p];exact bg
  .refine⟨⟨bc,M.ext aJ.1⟩,⟨?_,aK⟩,λh=>by cases h⟩;rw[a2];unfold h6 gl;rw[if_neg p,X5];exact aJ
 .rintro k bU rfl ⟨q,ab⟩;have b5:(bw s i).take (fs b m).length=bw s i:=j6 (by rw[<-aD,u9];exact o4 _);rw[b5]at q;have ag:=lM (l:=bw s i) (f:=h6 n s i) (k:=1) λv _=>kY;rw[<-Y6]at B;generalize (bw s i).flatMap (h6 n s i)=a1 at q B ag;refine z q.2.1 (C ab ?_);refine(QU (i:=(i:Int)) (h.ext q.1) (M.ext q.1)).mono ?_;rintro r aX _ ⟨L,_,ax⟩;have a:=ax x ad Z;rw[<-aA]at a;have a:r= .tuple #[Δ (p7 n s i).1,Δ (p7 n s i).2,Δ 0]:=a;subst a;have G:=q.ext L;have ai:=ab.ext L;rw[fP,fQ,fR];refine aV (λr aG=>r= .bool (decide (0<(p7 n s i).1\/(p7 n s i).2<0))/\aG=aX) ?_ ?_
  .rintro _ _ ⟨rfl,rfl⟩;rw[al];refine⟨λp=>?_,λp=>B _ ?_⟩
   .obtain⟨P,b6,v,g,bj,b7,b8⟩:=G;rw[aw (v:=v) Ψ (bj.Qz rfl)];refine C ai ?_;rw[cZ (cs:=#[Δ 4,Δ (i:Int),Δ (-1),Δ (-1)]) Ψ];refine rW ⟨4,i,-1,-1⟩ P b6 bj b7 b8 U rfl (by rw[r8];omega) λaG b9 cC=>B _ ?_;unfold qa gl;rw[if_pos p];exact b9
   .unfold qa gl;rw[if_neg p,X5];exact G
  .intro bP Q;rw[bN,al];refine⟨λh1=>Q _ _ ⟨by rw[decide_eq_true (.inl h1)],rfl⟩,λh1=>?_⟩;rw[aS];refine Q _ _ ⟨?_,rfl⟩;congr 1;exact decide_eq_decide.2 ⟨.inr,λh=>h.resolve_left h1⟩
end
theorem Rw{k:o6}{e:p8}{g:Nat}{v:x1}(h:av k e V g v l)(hk:rV V aa)(h1:e≠bS)(a:e≠dy):av k e aa g v l:=
 ⟨h.1,h.2.imp id λ⟨cap,cs,f,p,q⟩=>⟨cap,cs,f,hk _ _ _ p h1 a,q⟩⟩
theorem ki.nil{v:x1}{o:Option (Λ)}(h:ki w B v o):∃a n c,v= .slice a n c/\a.isNone=decide (o=ν):=by
 cases o with
 |none=>exact⟨ν,0,0,h,rfl⟩
 |some tl=>
  obtain⟨h1,g,_,e⟩:=h;obtain⟨_,⟨_,f⟩|⟨cap,cs,rfl,_⟩⟩:=e
  .exact absurd (c8 f) h1
  .exact⟨_,_,_,rfl,rfl⟩
section
variable{w:x3}{ae gT:Nat}{A R:ak}{n:aJ}{s:au}{t:aC}
theorem Rx(h:bu w ae gT A R n s t):∀r,A r\/R r->r<w.heap.size:=λr a=>by
 obtain⟨p,q,x,y,⟨_,_,e,f⟩,_⟩:=h.1;exact a.elim (f r) (e r)
theorem Ry{p:Nat}{f:b7}(a:bx n.k n.sizes s)(ag:s.funs[j]?=σ f)(e:f.live≠0)(h:p<f.sc.length)(ad:v∈bw s (f.sc.getD p 0)):∃x,jB s j p v f (f.sc.getD p 0) x:=by
 have hu:f.sc[p]?=σ (f.sc.getD p 0):=by rw[u4,x6 h,V1]
 have q:=(a.funs f (x5 ag)).1;unfold bw at ad;split at ad
 .rename_i x J;exact⟨x,Ω,by rw[r9];exact ag,e,Ω,by rw[r9];exact hu,(q.scope.1 _ (x5 hu)).1,J,ad⟩
 .cases ad
theorem Rz{p:Nat}{f:b7}{x:bJ}{r:x1}(z:bx n.k n.sizes s)(w:jB s j p v f (f.sc.getD p 0) x)(C:EM n s j p v r):
  ∃c d e:Int,r= .tuple #[Δ c,Δ d,Δ e]/\(e=0↔f.sc.length=2)/\(f.sc.length=2->p=0->c=(uQ n s j f v).1):=by
 obtain⟨h1,E⟩:=C.2 f _ x w;by_cases a:f.sc.length=2
 .have F:=(x4.1 w.hu).1;rw[r9]at F;have A:=(z.funs f (x5 w.ag)).1;obtain⟨o,q⟩:=aI (l:=f.sc) (i:=(1-(p:Int)).toNat) Ω;have J:=z.vars;have K:=(A.scope.1 _ (x5 q)).1;have L:=A.vars _ (x5 q);obtain⟨y,B⟩:=aI (l:=s.vars) (i:=o.toNat) Ω;refine⟨_,_,0,E a o y q B,⟨λ_=>a,λ_=>rfl⟩,λ_ G=>?_⟩;subst G;have H:f.sc.getD 1 0=o:=by rw[u4,show f.sc[1]?=σ o from q];rfl
  have I:bw s o=aF y:=by unfold bw;rw[B]
  unfold uQ;rw[H,I,r9];rfl
 .exact⟨_,_,1,h1 a,⟨(λh=>by cases h),λh=>absurd h a⟩,λh=>absurd h a⟩
theorem RA(h:bu w ae gT A R n s t)(O:Laid w)(du:s.funs.length<=100000):am x7 GH [Γ ae] w λv w'=>Ext w w'/\∃g,h8 w' g v (mw n s s.funs.length)/\∀r,leadsTo v r->w.heap.size<=r:=by
 have G:=h.2.2.2.1;have dv:=G.eW.2.1;refine gV func23 ?_;refine bf λg1 V dw aL ap=>?_;have ap:af V g1 cI [Γ ae]:=ap;refine bo dy.i λgo aa aM P aN=>?_;have aN:af aa go dy [.slice ν 0 0]:=aN;have dx:=aL.size;have dz:=P.size;rw[aw (v:=Γ ae) Ψ ((ap.ext P).Qz rfl)];refine(rB (h.ext (aL.trans P))).mono ?_;rintro _ dA _ ⟨rfl,aP⟩;have aM:w.heap.size<=go:=Ω
 have Q:∀{y:x3}{K:x1->Prop},af y g1 cI [Γ ae]->K (Γ ae)->ac x7 (u5 cI (Γ g1)) y K:=λaQ aR=>by
  rw[aw (v:=Γ ae) Ψ (aQ.Qz rfl)];exact aR
 have E:∀{y:x3}{b:Nat}{z:Int}{K:x1->Prop},af y b ah [Δ z]->K (Δ z)->ac x7 (u5 ah (Γ b)) y K:=λ{y b z K}aQ aR=>by
  rw[aw (v:=Δ z) Ψ (aQ.Qz rfl)];exact aR
 refine ce.range s.funs.length (λj aS=>jK w aS ae g1 go (mw n s j)) Ω ⟨(aL.trans P).trans aP,(ap.ext P).ext aP,_,0,aN.ext aP,bi.nil _ _ _ _ _,λr I=>(e4 I).elim⟩ ?_ ?_
 rotate_left
 .rintro aS cm ⟨cn,_,v,g,cp,cq,cr⟩;refine ct Ω ?_;rw[aw (v:=v) Ψ (cp.Qz rfl)];intro aT bx _;exact⟨cn.trans bx,g,cq.ext bx,cr⟩
 rintro j aS cm cu bz cw;have bA:mw n s (j+1)=mw n s j++kj n s j:=ym j;have cz:=Fm (m:=j) G;generalize mw n s j=aq at bz bA cz;refine bH Ω ?_;refine c5 (λaT=>jK w aT ae g1 go (aq++kj n s j)) (λaT cA=>?_) λaB aU=>?_
 .rw[aO];exact cw _ (by rw[bA];exact cA)
 obtain⟨f,ag⟩:=aI (l:=s.funs) cu;refine bo ah.i λS dC dD cB cC=>?_;refine bl (g:=S) (o:=0) (v:=Δ (j:Int)) ah.i rfl rfl cC Φ λcD cE dE au=>?_;have au:af cD S ah [Δ (j:Int)]:=au;have aX:=bz.ext (cB.put cE Ω);refine Q aX.2.1 (E au ?_);refine(pW (j:=(j:Int)) (h.ext aX.1)).mono ?_;rintro _ dF _ ⟨rfl,bB⟩;have ax:=aX.ext bB;have bD:=au.ext bB;rw[decide_eq_true Ω,U6,r9];have cF:eM s j=decide (f.live≠0):=by unfold eM;rw[ag]
 rw[cF,bE,bZ];have bF:kj n s j=if f.live≠0 then(X3 f.sc.length).flatMap (h7 n s j f)else[]:=by unfold kj;rw[ag]
 refine⟨λU=>aU _ ?_,λW=>?_⟩
 .rw[bF,if_neg (by simpa using U),X5];exact ax
 have bG:f.live≠0:=by simpa using W
 rw[bF,if_pos bG]at aU;have dG:f.sc.length<=6:=(G.funs f (x5 ag)).1.scope.2;refine Q ax.2.1 (E bD ?_);refine(kS (h.ext ax.1) ag).mono ?_;rintro aK dH _ ⟨bI,bC,_,bJ⟩;have cG:=ax.ext bI;have cH:=bD.ext bI;rw[aW an.u bJ.ls];refine ce.range f.sc.length (λp L=>jK w L ae g1 go (aq++(X3 p).flatMap (h7 n s j f))/\af L S ah [Δ (j:Int)]/\av .i64 ah L bC aK f.sc) Ω ⟨by simpa using cG,cH,bJ⟩ ?_ ?_
 rotate_left
 .rintro L cJ ⟨ay,_⟩;refine ct Ω ?_;exact aU _ ay
 rintro p L cJ az ⟨ay,cK,bK⟩ X;have cL:(X3 (p+1)).flatMap (h7 n s j f)=(X3 p).flatMap (h7 n s j f)++h7 n s j f p:=ym p;have cM:=lM (l:=X3 p) (f:=h7 n s j f) (k:=64) λv _=>Fl G;rw[List.length_range]at cM;rw[cL,<-Y6]at X;have cN:(aq++(X3 p).flatMap (h7 n s j f)).length<=384*j+384:=by rw[r8];omega
 generalize aq++(X3 p).flatMap (h7 n s j f)=Y at ay X cN;have hu:f.sc[p]?=σ (f.sc.getD p 0):=by rw[u4,x6 az,V1]
 have bL:=(G.funs f (x5 ag)).1;have bM:=(bL.scope.1 _ (x5 hu)).1;have cO:=bL.vars _ (x5 hu);have bO:=λv (ad:v∈bw s (f.sc.getD p 0))=>Ry (n:=n) G ag bG az ad;have cP:h7 n s j f p=(bw s (f.sc.getD p 0)).flatMap λv=>fC n s j f p (f.sc.getD p 0) v++gS n s j f p (f.sc.getD p 0) v:=rfl;have bP:=λv x r (az:jB s j p v f (f.sc.getD p 0) x)=>Rz (n:=n) (r:=r) G az;rw[cP]at X;generalize bQ:f.sc.getD p 0=u at hu bM cO bO X bP;have aZ:=G.vars;obtain⟨x,bR⟩:=aI (l:=s.vars) (i:=u.toNat) Ω;have cQ:bw s u=aF x:=by unfold bw;rw[bR]
 refine bH Ω ?_;rw[bh an.u ah.i Ψ bK.ls hu];refine bo ah.i λbk dI dJ bS bT=>?_;refine bo ah.i λZ dK dL a1 cR=>?_;have dM:=bT.lt;have dN:=bS.size;have z12:=a1.size;refine bl (g:=bk) (o:=0) (v:=Δ (p:Int)) ah.i rfl rfl (bT.ext a1) Φ λcS bU dO a2=>?_;have a2:af cS bk ah [Δ (p:Int)]:=a2;refine bl (g:=Z) (o:=0) (v:=Δ u) ah.i rfl rfl (cR.ab bU Ω) Φ λbV bW dP aA=>?_;have aA:af bV Z ah [Δ u]:=aA;have cT:=a2.ab bW Ω;have a6:Ext L bV:=((bS.trans a1).then bU λr I he=>by have he:r=bk:=he;omega).then bW λr I he=>by have he:r=Z:=he;omega
 have aC:=ay.ext a6;have cU:=cK.ext a6;have cV:=bK.ext a6;refine Q aC.2.1 (E aA ?_);refine(h3 (i:=u) (h.ext aC.1)).mono ?_;rintro _ dQ _ ⟨⟨b,m,rfl,bX⟩,cW⟩;refine(ll (b:=b) (n:=m)).mono ?_;rintro _ cX _ ⟨cY,aY,rfl,dR,bY⟩;have a7:=kd bX bM bR;rw[<-cQ]at a7;have M:=cW.trans cY;have dS:=uR (i:=u) G;have c0:∀v,(fC n s j f p u v++gS n s j f p u v).length<=2:=λv=>by
  have h1:(fC n s j f p u v).length<=1:=kY;have a8:(gS n s j f p u v).length<=1:=kY;rw[r8];omega
 obtain⟨C,H⟩:∃C:x3->Prop,C=λy=>af y S ah [Δ (j:Int)]/\af y bk ah [Δ (p:Int)]/\af y Z ah [Δ u]/\av .i64 ah y bC aK f.sc/\af y aY b1 [.int .u64 (b:Int),Δ (m:Int)]:=⟨_,rfl⟩;have ba:∀{ai y:x3},C ai->rV ai y->C y:=λB hk=>by
  rw[H]at B ⊢;obtain⟨c1,c2,c3,c4,c6⟩:=B;exact⟨hk _ _ _ c1 Φ Φ,hk _ _ _ c2 Φ Φ,hk _ _ _ c3 Φ Φ,Rw c4 hk Φ Φ,hk _ _ _ c6 Φ Φ⟩
 have aD:∀{ai y:x3},C ai->Ext ai y->C y:=λB J=>ba B (.ext J);have aj:∀{y:x3},C y->af y S ah [Δ (j:Int)]:=λB=>by rw[H]at B;exact B.1
 have bb:∀{y:x3},C y->af y bk ah [Δ (p:Int)]:=λB=>by rw[H]at B;exact B.2.1
 have b0:∀{y:x3},C y->af y Z ah [Δ u]:=λB=>by rw[H]at B;exact B.2.2.1
 have c7:∀{y:x3},C y->av .i64 ah y bC aK f.sc:=λB=>by rw[H]at B;exact B.2.2.2.1
 have b2:∀{y:x3},C y->af y aY b1 [.int .u64 (b:Int),Δ (m:Int)]:=λB=>by rw[H]at B;exact B.2.2.2.2
 have c8:C cX:=by rw[H];exact⟨cU.ext M,cT.ext M,aA.ext M,cV.ext M,bY⟩
 clear H;refine jf.old ⟨_,false,ic,#[Γ aY],_,_,_,_,λq w'=>jK w w' ae g1 go (Y++((bw s u).take q).flatMap λv=>fC n s j f p u v++gS n s j f p u v)/\C w',λ_ _ _=>False,rfl,(lk (g:=aY) bX.1).s,?_,
  λ_ _ J h=>⟨h.1.ext J,h.2.ext J⟩,λ_ _ _ b3 h=>⟨h.1.ext b3,aD h.2 b3⟩,λ_ _ _ _ _ h=>h,⟨bY,O.ext (aC.1.trans M)⟩,⟨by simpa using aC.ext M,c8⟩,?_,?_,λ_ _ h=>h.elim,λ_ _ _ h=>h.elim⟩
 .rintro _ _ _ _ ⟨_,_,_,_,rfl⟩;rfl
 rotate_left
 .rintro q c9 rfl ⟨ak,aE⟩;have da:(bw s u).take (fs b m).length=bw s u:=j6 (by rw[<-a7,u9];exact o4 _);rw[da]at ak;rw[aO];exact X _ ⟨ak,aj aE,c7 aE⟩
 rintro _ q _ c9 ⟨_,_⟩ ⟨dT,rfl,v,ad,db⟩ ⟨ak,aE⟩;cases db;intro dU b4 _ _;have aZ:(bw s u)[q]?=σ (v:Int):=by rw[<-a7,x8,ad];rfl
 obtain⟨b5,bc⟩:=bO v (x5 aZ);have dc:((bw s u).take (q+1)).flatMap (λv=>fC n s j f p u v++gS n s j f p u v)=((bw s u).take q).flatMap (λv=>fC n s j f p u v++gS n s j f p u v)++(fC n s j f p u v++gS n s j f p u v):=by
  rw[u7,aZ,o8,S8,List.flatMap_singleton]
 have dd:=lM (l:=(bw s u).take q) (f:=λv=>fC n s j f p u v++gS n s j f p u v) (k:=2) λv _=>c0 v;rw[n9]at dd;have de:(Y++((bw s u).take q).flatMap λv=>fC n s j f p u v++gS n s j f p u v).length<=384*j+448:=by rw[r8];omega
 have aG:Y++((bw s u).take (q+1)).flatMap (λv=>fC n s j f p u v++gS n s j f p u v)=(Y++((bw s u).take q).flatMap (λv=>fC n s j f p u v++gS n s j f p u v))++fC n s j f p u v++gS n s j f p u v:=by rw[dc,Y6,Y6]
 generalize Y++((bw s u).take q).flatMap (λv=>fC n s j f p u v++gS n s j f p u v)=bd at ak de aG;have aH:=ak.ext b4;have bg:=aD aE b4;have dV:(fC n s j f p u v).length<=1:=kY;refine c5 (λbj=>jK w bj ae g1 go (bd++fC n s j f p u v)/\C bj) ?_ ?_
 .rintro bj ⟨ao,bm⟩;have df:(bd++fC n s j f p u v).length<=384*j+449:=by rw[r8];omega
  generalize bd++fC n s j f p u v=dW at ao df aG;refine Q ao.2.1 (E (aj bm) (E (bb bm) ?_));refine(PO (j:=(j:Int)) (pos:=(p:Int)) (v:=(v:Int)) (h.ext ao.1) (O.ext ao.1)).mono ?_;rintro r dg _ ⟨b6,I⟩;obtain⟨c,d,e,rfl,he,dh⟩:=bP v b5 r bc I;have bn:=ao.ext b6;have N:=aD bm b6;rw[fP,fQ,fR];refine aV (λr b7=>r= .bool (decide (f.sc.length=2/\p=0/\0<(uQ n s j f v).1))/\b7=dg) ?_ ?_
  .rintro _ _ ⟨rfl,rfl⟩;rw[al];refine⟨λW=>?_,λU=>?_⟩
   .obtain⟨bp,di,o,g,b8,dj,dk⟩:=bn;rw[aw (v:=o) Ψ (b8.Qz rfl)];refine E (b0 N) (E (aj N) ?_);rw[cZ (cs:=#[Δ 3,Δ u,Δ (j:Int),Δ (v:Int)]) Ψ];refine rW ⟨3,u,j,v⟩ bp di b8 dj dk aM rfl Ω λb7 b9 dl=>?_;have ca:=ba N dl;refine⟨⟨b2 ca,O.ext b9.1⟩,⟨?_,ca⟩,λh=>by cases h⟩;rw[aG];unfold gS gl;rw[if_pos W];exact b9
   .refine⟨⟨b2 N,O.ext bn.1⟩,⟨?_,N⟩,λh=>by cases h⟩;rw[aG];unfold gS gl;rw[if_neg U,X5];exact bn
  .intro dX bq;rw[be,al];refine⟨λbr=>?_,λbr=>bq _ _ ⟨by rw[decide_eq_false λh=>br (he.2 h.1)],rfl⟩⟩;have a8:=he.1 br;refine E (bb N) ?_;rw[be,al];refine⟨λcb=>?_,λcb=>bq _ _ ⟨by rw[decide_eq_false λh=>cb Ω],rfl⟩⟩;rw[bN];refine bq _ _ ⟨?_,rfl⟩;congr 1;rw[<-dh a8 Ω];exact decide_eq_decide.2 ⟨λh=>⟨a8,Ω,h⟩,λh=>h.2.2⟩
 .intro dY cc;refine Q aH.2.1 (E (aj bg) (E (bb bg) ?_));have cd:=h.ext aH.1;refine(QW (j:=(j:Int)) (pos:=(p:Int)) (v:=(v:Int)) cd (O.ext aH.1) (Rx cd)).mono ?_;rintro r dm _ ⟨cg,_,I⟩;obtain⟨dZ,rfl,bt⟩:=I f u b5 (by rw[<-bQ];rw[<-bQ]at bc;exact bc);simp only[r9]at bt ⊢;have ch:hl n.k (eN s j) (fy s f.sc p f.sc.length 0 ((p9 f.sc.length 0).set p (v:Int)))=rR n s j f p v:=rfl;rw[ch]at bt;rw[ch];obtain⟨a,ea,eb,rfl,dn⟩:=bt.nil;have ci:=aH.ext cg;have aJ:=aD bg cg;rw[fP,fQ,fR];refine aV (λr cj=>r= .bool (decide (0<(rR n s j f p v).1\/(rR n s j f p v).2=ν))/\cj=dm) ?_ ?_
  .rintro _ _ ⟨rfl,rfl⟩;rw[al];refine⟨λW=>?_,λU=>cc _ ⟨?_,aJ⟩⟩
   .obtain⟨bp,dp,o,g,ck,dq,dr⟩:=ci;rw[aw (v:=o) Ψ (ck.Qz rfl)];refine E (b0 aJ) (E (aj aJ) ?_);rw[cZ (cs:=#[Δ 2,Δ u,Δ (j:Int),Δ (v:Int)]) Ψ];refine rW ⟨2,u,j,v⟩ bp dp ck dq dr aM rfl Ω λcj ds dt=>cc _ ⟨?_,ba aJ dt⟩;unfold fC gl;rw[if_pos W];exact ds
   .unfold fC gl;rw[if_neg U,X5];exact ci
  .intro ec cl;rw[bN,al];refine⟨λh1=>cl _ _ ⟨by rw[decide_eq_true (.inl h1)],rfl⟩,λh1=>?_⟩;rw[pe an.u,dn];refine cl _ _ ⟨?_,rfl⟩;congr 1;exact decide_eq_decide.2 ⟨.inr,λh=>h.resolve_left h1⟩
end
def oP(l:Λ):Int:=(l.find? λx=>decide (x≠0)).getD 0
theorem RB{f:x1}(h:aH .i64 w f l):am x7 zA [f] w λv w'=>v=Δ (oP l)/\Ext w w':=by
 refine az func28 ?_;rw[aW an.u h];refine b5.range l.length (λi _ V=>Ext w V/\oP l=oP (l.drop i)) h.le ⟨Ext.refl _,Ξ⟩ ?_ ?_
 .rintro i _ V k hi ⟨a,h1⟩ hk;refine bH Ω ?_;obtain⟨y,p⟩:=aI (l:=l) hi;have e:l.drop i=y::l.drop (i+1):=by rw[W3 hi,(x4.1 p).2]
  rw[bh an.u ah.i Ψ (h.ext a) p,bD,al];refine⟨λq=>⟨?_,a⟩,λhe=>?_⟩
  .rw[h1,e];unfold oP;rw[List.find?_cons,decide_eq_true q];rfl
  .rw[aO];refine hk _ _ ⟨a,?_⟩;rw[h1,e];unfold oP;rw[List.find?_cons,decide_eq_false he]
 .rintro _ V k ⟨a,h1⟩;rw[List.drop_length]at h1;rw[aS,al];exact⟨λh=>Ω,λ_=>⟨by rw[h1];rfl,a⟩⟩
theorem RC(a b:c4):oP [fD a.eo b.eo,fD a.i b.i,fD a.j b.j,fD a.v b.v]=qc a b:=by
 unfold oP qc;by_cases h1:fD a.eo b.eo≠0
 .simp[h1]
 by_cases e:fD a.i b.i≠0
 .simp[h1,e]
 by_cases f:fD a.j b.j≠0
 .simp[h1,e,f]
 by_cases h:fD a.v b.v≠0
 .simp[h1,e,f,h]
 .simp[h1,e,f,h];omega
def lR:List (Λ):=[[110,111,110,101],[110,99],[97,99],[102,100,97,99],[101,100,97,99]]
def ir(level:Int):Λ:=if 0<=level then lR.getD level.toNat []else[]
theorem RD(level:Int):Bytes (ir level):=by
 unfold ir;split
 .rw[u4];cases h:lR[level.toNat]? with
  |none=>intro b a;cases a
  |some l=>
   have:∀l∈lR,∀b∈l,0<=b/\b<256:=Φ
   exact this l (x5 h)
 .intro b a;cases a
theorem yr(level:Int):ir level=[]↔¬(0<=level/\level<5):=by
 unfold ir;by_cases h:0<=level/\level<5
 .rw[if_pos h.1,u4];have e:level.toNat<lR.length:=by show _<5;omega
  rw[x6 e,V1];have:∀l∈lR,l≠[]:=Φ
  exact⟨λa=>absurd a (this _ (T2 e)),λa=>absurd h a⟩
 .refine⟨λ_=>h,λ_=>?_⟩;split
  .rw[u4,Z4 (by show 5<=_;omega),Option.getD_none]
  .rfl
section
variable{w:x3}{ae gT:Nat}{A R:ak}{n:aJ}{s:au}{t:aC}{level:Int}
theorem RE:am x7 GF [Δ level] w λv w'=>Ext w w'/\v=bL (ir level):=by
 refine az func21 ?_;rw[cZ (cs:=(lR.map bL).toArray) Ψ];refine bo mJ.i λg V A s x=>?_;refine vR (k:=5) (o:=0) (vs:=lR.map bL) mJ.i rfl (by intro u hu;obtain⟨l,_,rfl⟩:=j5.1 hu;rfl) x Φ λaa y B a=>?_;have a:af aa g mJ (lR.map bL):=by rw[Ao (by rfl)]at a;exact a
 have f:Ext w aa:=s.put y Ω;refine aV (λr z=>r= .bool (decide (¬(0<=level/\level<5)))/\z=aa) ?_ ?_
 .rintro _ _ ⟨rfl,rfl⟩;rw[al];refine⟨λh=>⟨f,?_⟩,λh=>?_⟩
  .rw[(yr level).2 h];rfl
  have h:=Y0.1 h;have p:level.toNat<lR.length:=by show _<5;omega
  have e:ir level=lR[level.toNat]:=by unfold ir;rw[if_pos h.1,u4,x6 p];rfl
  rw[show level=((level.toNat:Nat):Int) by omega,sN mJ.u cS.i Ω,
   aw (v:=bL (ir level)) Ψ (a.cell (by rw[X8,U7,x8,x6 p,e];rfl)),show((level.toNat:Nat):Int)=level by omega]
  exact⟨f,rfl⟩
 .intro aB q;rw[aS,al];refine⟨λh1=>q _ _ ⟨by rw[decide_eq_true Ω],rfl⟩,λh1=>?_⟩;rw[cn];refine q _ _ ⟨?_,rfl⟩;congr 1;exact decide_eq_decide.2 ⟨λh=>Ω,λh=>Ω⟩
theorem RF{a:c4}{f:Nat}(q:af w f ah [Δ level]):am x7 GJ [.agg (fB a).toArray,Γ f] w λr w'=>r= .bool (decide (level<a.eo))/\Ext w w':=by
 refine az func25 ?_;refine bf λg1 V s h e=>?_;have e:af V g1 bS (fB a):=e;rw[aM bS.p 0 e rfl,aw (v:=Δ level) Ψ ((q.ext h).Qz rfl),bN];exact⟨rfl,h⟩
theorem RG{a b:c4}:am x7 zz [.agg (fB a).toArray,.agg (fB b).toArray] w λu w'=>Ext w w'/\u=Δ (qc a b):=by
 refine az func27 ?_;refine bf λg1 V I A q=>?_;refine bf λB aa J y r=>?_;have q:af aa g1 bS (fB a):=af.ext q y;have r:af aa B bS (fB b):=r;intro K s _ _;have e:=q.ext s;have f:=r.ext s;rw[aU bS.p rfl,aw (v:=Δ a.eo) (o:=0+0) Ψ (e.cell rfl),aU bS.p rfl,aw (v:=Δ b.eo) (o:=0+0) Ψ (f.cell rfl),
  aU bS.p rfl,aw (v:=Δ a.i) (o:=0+1) Ψ (e.cell rfl),aU bS.p rfl,aw (v:=Δ b.i) (o:=0+1) Ψ (f.cell rfl),
  aU bS.p rfl,aw (v:=Δ a.j) (o:=0+2) Ψ (e.cell rfl),aU bS.p rfl,aw (v:=Δ b.j) (o:=0+2) Ψ (f.cell rfl),
  aU bS.p rfl,aw (v:=Δ a.v) (o:=0+3) Ψ (e.cell rfl),aU bS.p rfl,aw (v:=Δ b.v) (o:=0+3) Ψ (f.cell rfl)]
 refine pN.mono ?_;rintro _ L _ ⟨rfl,h⟩;refine⟨.inl h,?_⟩;refine pN.mono ?_;rintro _ M _ ⟨rfl,x⟩;refine⟨.inl (h.trans x),?_⟩;refine pN.mono ?_;rintro _ N _ ⟨rfl,z⟩;refine⟨.inl ((h.trans x).trans z),?_⟩;refine pN.mono ?_;rintro _ O _ ⟨rfl,C⟩;refine pn (l:=[fD a.eo b.eo,fD a.i b.i,fD a.j b.j,fD a.v b.v]) an.u ah.i Ω rfl Ψ λP Q R S E G=>?_;refine(RB G.ls).mono ?_;rintro _ U _ ⟨rfl,H⟩;exact⟨((((((A.trans y).trans s).trans h).trans x).trans z).trans C).trans (E.trans H),by rw[RC]⟩
def Fy(M:List c4):Prop:=∀(p q:Nat)(x y:c4),p<q->M[p]?=σ x->M[q]?=σ y->qb x<=qb y
theorem RH{g:Nat}{v:x1}{L:List c4}(h:h8 w g v L)(p:L.length<65536)(q:s.funs.length<=100000000)(x:∀a∈L,rS n s a):
  am x7 GK [v,.func (.func zz) #[] #[]] w λ_ w'=>ai (λr=>leadsTo v r) w w'/\∃M,M.Perm L/\Fy M/\h8 w' g v M:=
 wG LL (G:=rS n s) (num:=qb) (cf:=qc) (cap:=#[]) LS LU (λa _=>qd a) (λa _=>rfl) (λa b e f=>QZ q e f) (Enters.of x7 LV rfl Ψ) h x p λy a b z e f=>RG
def RI(n:aJ)(s:au)(level:Int)(B:Nat)(w':x3)(r:x1):Prop:=(¬(0<=level/\level<5)->r= .tuple #[.slice ν 0 0,Δ 1])/\
 ((0<=level/\level<5)->∃v g M,r= .tuple #[v,Δ 0]/\h8 w' g v M/\M.Perm (kk n s level)/\Fy M/\∀r,leadsTo v r->B<=r)
theorem Fz(h:bu w ae gT A R n s t)(N:Laid w)(ay:s.funs.length<=160):am x7 Gz [Γ ae,Δ level] w λr w'=>Ext w w'/\RI n s level w.heap.size w' r:=by
 have y:=h.2.2.2.1;have aA:=y.eW.2.1;refine az func9 ?_;refine bf λz V aB O f=>?_;have f:af V z ah [Δ level]:=f;rw[dc cI.u];simp only[Z5,a1];rw[aw (v:=Δ level) Ψ (f.Qz rfl)];refine RE.mono ?_;rintro _ aa _ ⟨q,rfl⟩;rw[show(x1.string ⟨#[]⟩)=bL []from rfl,wa (RD level) (λb W=>by cases W),al];refine⟨λG=>⟨O.trans q,λ_=>rfl,λh1=>absurd h1 ((yr level).1 G)⟩,λG=>?_⟩;have X:0<=level/\level<5:=Y0.1 λh1=>G ((yr level).2 h1);have B:=O.trans q;refine(Rv (h.ext B) (N.ext B)).mono ?_;rintro v3 aC _ ⟨H,aD,Y,I⟩;have J:=B.trans H;refine(RA (h.ext J) (N.ext J) Ω).mono ?_;rintro v4 aE _ ⟨C,aF,Z,aG⟩;have ac:=J.trans C;have aH:=Fk (m:=n.sizes.length) y;have aI:=Fm (m:=s.funs.length) y;have aJ:=B.size;have z3:=H.size;have z4:=C.size;refine uf dy.u bS.i rfl (Y.ext C) Z.sl (λ_ _=>rfl) (λa _=>qd a) Ω Ω λv5 P K L ad Q=>?_;rw[ig];have L:h8 K P v5 (lL n s):=L;have ag:(lL n s).length<=65000:=by unfold lL;rw[r8];omega
 have E:∀r,leadsTo v5 r->aa.heap.size<=r:=λr e=>(ad r e).elim (I r) λh=>Ω
 have ai:Ext w K:=ac.then Q λr e he=>by have:=I r he;omega
 have aK:=f.lt;have aj:af K z ah [Δ level]:=(((f.ext q).ext H).ext C).ab Q λhe=>by have:=I z he;have:=q.size;omega
 refine(Rt (p:=λa=>decide (level<a.eo)) L Ω λw' x ak _=>RF (aj.ab ak λhe=>by have:=E z he;have:=q.size;omega)).mono ?_;rintro an aL _ ⟨ao,S,U⟩;have ap:(lL n s).filter (λa=>!decide (level<a.eo))=kk n s level:=by
  unfold kk;refine List.filter_congr λa _=>?_;by_cases h1:level<a.eo
  .rw[decide_eq_true h1,decide_eq_false Ω];rfl
  .rw[decide_eq_false h1,decide_eq_true Ω];rfl
 rw[ap]at S;have aM:(kk n s level).length<=65000:=Y8 (T9 _ _) ag;refine(RH (s:=s) (n:=n) S Ω Ω λa aq=>Fp y ((U5.1 aq).1)).mono ?_;rintro _ aN _ ⟨au,M,av,hu,ax⟩;refine⟨(ai.then ao λr e he=>by have:=E r he;omega).then au λr e he=>by have:=E r (U r he);omega,λh1=>absurd X h1,λ_=>⟨an,P,M,rfl,ax,av,hu,λr e=>by have:=E r (U r e);omega⟩⟩
end
def rX:c4:=⟨1,0,-1,-1⟩
theorem RJ{r:Nat}{f p:x1}(h1:h8 w g1 f [rX])(q:h8 w r p [rX]):am x7 GD [f,p] w λv w'=>v= .bool true/\Ext w w':=by
 refine az func19 ?_;rw[ea dy.u h1,ea dy.u q,bD,al];refine⟨λh=>absurd rfl h,λ_=>?_⟩;rw[ea dy.u h1];refine b5.range 1 (λ_ _ V=>Ext w V) Ω (Ext.refl _) ?_ ?_
 .rintro i t4 V k hi a hk;refine bH Θ ?_;intro aa s _ _;have e:=a.trans s;obtain rfl:i=0:=Ω
  rw[rU (h1.ext e) rfl,rU (q.ext e) rfl];have x:∀{y:x3}{K:x1->Prop},ac x7 (aN .neq bS false false (.agg (fB rX).toArray) (.agg (fB rX).toArray)) y K=K (.bool false):=ac.of λw' _=>Ψ
  rw[x,a1,aO];exact hk _ _ e
 .rintro t4 V k a;refine ct Ξ ?_;exact⟨rfl,a⟩
theorem RK:(de (cT hn)).funs.length<=160:=by decide+kernel
theorem RL(I:e5 w)(J:Laid w):am x7 Gx [] w λv w'=>v= .bool true/\Ext w w':=by
 refine az func7 ?_;refine kw (k:=1) (cs:=(ints .u8 k0).toArray) cP.u cK.i Ω Ψ λg V aC e p=>?_;have s:av .u8 cK V g (.slice (σ ⟨g,0,ν⟩) 27 27) k0:=av.of (n:=27) (bX.full (by simpa using p) (by simp[k0]) (by simp[maxLen]));refine P1 p λq x z=>?_;have e:Ext w q:=e.put x Ω;have K:aH .u8 q (.slice (σ ⟨g,0,ν⟩) 27 27) k0:=by
  obtain⟨L,b,o,base,cap,O,P,Q,S,U⟩:=s.ls;cases O;cases S (by simp[k0]);exact⟨L,g,0,_,27,rfl,P,Q,λ_=>rfl,z _ _ U⟩
 clear s p z x;refine(Ft K (by intro b W;simp[k0]at W;omega) (I.ext e)).mono ?_;rintro _ aa _ ⟨X,Y,cs,ok,rfl,⟨Z,ab⟩,ac,ad⟩;have B:fp (k0.take 300)=σ hn:=by
  rw[j6 Φ];exact Rp
 have af:ok=true:=ad hn B Rq;subst af;obtain⟨f,ag,ae,gT,A,R,t,N,A9,aG,aD,rfl,ah,_⟩:∃f,fp (k0.take 300)=σ f/\uq q.heap.size aa Y cs f:=by
  rcases ac with⟨h,_⟩|⟨_,h⟩
  .cases h
  .exact h
 rw[B]at ag;cases ag;have ai:=e.trans X;rw[fP,fQ,fR];refine bo ba.i λap aE aF aj ak=>?_;refine cb (vs:=cs) ba.i Z rfl ab ak λan ao aI aJ=>?_;have C:Ext aa an:=aj.put ao Ω;have E:=ai.trans C;refine(Fz (level:=1) (ah.ext C) (J.ext E) RK).mono ?_;rintro r aK _ ⟨aq,_,au⟩;obtain⟨v,aY,M,rfl,hm,G,_⟩:=au Ω;rw[Rr]at G;obtain rfl:=List.perm_singleton.1 G;rw[bq,br];refine aV (λv aw=>v= .bool true/\Ext w aw) (λ_ _ h=>h) λaB ax=>?_;rw[bT,be,al];refine⟨λ_=>?_,λh=>absurd rfl h⟩;rw[cZ (cs:=#[Δ 1,Δ 0,Δ (-1),Δ (-1)]) Ψ];refine hD (f:=fB) (a:=rX) dy.u bS.i Ω rfl rfl λy gy aL aM H ay=>?_;refine(RJ (hm.ext H) ay).mono ?_;rintro _ aN _ ⟨rfl,aA⟩;exact ax _ _ ⟨rfl,((E.trans aq).trans H).trans aA⟩
theorem FA{c:Prop}[Decidable c]{a b:c4}:b∈gl c a↔c/\b=a:=by
 refine⟨p5,λ⟨h,e⟩=>?_⟩;unfold gl;rw[if_pos h,e];exact .head _
section
variable{n:aJ}{s:au}
theorem RM{i:Int}{a:c4}:a∈jJ n s i↔h4 n s i=true/\(a∈lK n s i\/(∃v∈bw s i,a∈h6 n s i v)\/a∈qa n s i):=by
 unfold jJ;by_cases h:h4 n s i=true
 .rw[if_pos h,o5,o5,R2];exact⟨λk=>⟨h,k⟩,λk=>k.2⟩
 .rw[if_neg h];exact⟨λk=>(by cases k),λk=>absurd k.1 h⟩
theorem FB{a:c4}:a∈kj n s j↔ ∃f,s.funs[j]?=σ f/\f.live≠0/\∃p,p<f.sc.length/\∃v∈bw s (f.sc.getD p 0),a∈fC n s j f p (f.sc.getD p 0) v\/a∈gS n s j f p (f.sc.getD p 0) v:=by
 unfold kj;cases ag:s.funs[j]? with
 |none=>exact⟨λh=>(by cases h),λ⟨f,h,_⟩=>by cases h⟩
 |some f=>
  simp only;by_cases q:f.live≠0
  .rw[if_pos q,R2];constructor
   .rintro⟨p,r,h⟩;unfold h7 at h;obtain⟨v,ad,h⟩:=R2.1 h;exact⟨f,rfl,q,p,T6.1 r,v,ad,o5.1 h⟩
   .rintro⟨_,e,_,p,r,v,ad,h⟩;cases e;refine⟨p,T6.2 r,?_⟩;unfold h7;exact R2.2 ⟨v,ad,o5.2 h⟩
  .rw[if_neg q];exact⟨λh=>(by cases h),λ⟨_,e,h,_⟩=>by cases e;exact absurd h q⟩
theorem RN{a:c4}:a∈lL n s↔(∃i:Nat,i<n.sizes.length/\a∈jJ n s (i:Int))\/∃j,a∈kj n s j:=by
 unfold lL mv mw;rw[o5,R2,R2];refine or_congr ⟨λ⟨i,h1,e⟩=>⟨i,T6.1 h1,e⟩,λ⟨i,h1,e⟩=>⟨i,T6.2 h1,e⟩⟩ ⟨λ⟨j,_,h⟩=>⟨j,h⟩,λ⟨j,h⟩=>⟨j,T6.2 ?_,h⟩⟩;obtain⟨f,ag,_⟩:=FB.1 h;exact(x4.1 ag).1
theorem RO{a b:Int}(h:a<=b):(kk n s a).length<=(kk n s b).length:=by
 unfold kk;rw[<-List.countP_eq_length_filter,<-List.countP_eq_length_filter];exact List.countP_mono_left λx _ J=>decide_eq_true (by have:=of_decide_eq_true J;omega)
end
section
variable{n:aJ}{s:au}
end
section
variable{n:aJ}{s:au}
theorem RP{a:c4}(x:bx n.k n.sizes s)(h:a∈lL n s):(0<=a.i/\a.i<n.sizes.length)/\(0<=a.v->a.v∈bw s a.i)/\(0<=a.j->∃f,s.funs[a.j.toNat]?=σ f/\a.i∈f.sc)/\(0<=a.j↔a.eo=2\/a.eo=3):=by
 rcases RN.1 h with⟨i,hi,h⟩|⟨j,h⟩
 .obtain⟨ad,h⟩:=RM.1 h;rcases h with h|⟨v,e,h⟩|h<;>obtain⟨_,rfl⟩:=FA.1 h<;>simp only
  .exact⟨Ω,λh=>absurd h Φ,λh=>absurd h Φ,Φ⟩
  .exact⟨Ω,λ_=>e,λh=>absurd h Φ,Φ⟩
  .exact⟨Ω,λh=>absurd h Φ,λh=>absurd h Φ,Φ⟩
 .obtain⟨f,ag,y,p,q,v,e,h⟩:=FB.1 h;have hu:f.sc.getD p 0∈f.sc:=by rw[u4,x6 q,V1];exact T2 q
  have r:=(x.funs f (x5 ag)).1;have w:=(r.scope.1 _ hu).1;have h1:=r.vars _ hu;rcases h with h|h<;>obtain⟨_,rfl⟩:=FA.1 h<;>simp only
  .exact⟨⟨w,h1⟩,λ_=>e,λ_=>⟨f,by rw[r9];exact ag,hu⟩,λ_=>Ξ,λ_=>Ω⟩
  .exact⟨⟨w,h1⟩,λ_=>e,λ_=>⟨f,by rw[r9];exact ag,hu⟩,λ_=>Ξ,λ_=>Ω⟩
end
section
variable{w:x3}{ae gT:Nat}{A R:ak}{n:aJ}{s:au}{t:aC}
theorem RQ{i:Nat}{x:bJ}(J:s.vars[i]?=σ x):bw s (i:Int)=aF x:=by
 unfold bw;rw[r9,J]
end
section
variable{w:x3}{fd:x1}{n:aJ}{s:au}
theorem RR{i:Int}(h:jA w fd n.k n.sizes s):am x7 zx [fd,Δ i] w λr w'=>Ext w w'/\r= .bool (decide (0<=i/\i<n.sizes.length)):=by
 refine az func15 ?_;refine bf λg1 V z e q=>?_;obtain⟨szv,A,B,C,E,G,x,y,_⟩:=h.box e q;refine aV (λr aa=>aa=V/\r= .bool (decide (0<=i/\i<n.sizes.length))) ?_ λaB f=>?_
 .rintro _ _ ⟨rfl,rfl⟩;exact⟨e,rfl⟩
 rw[cn,al];refine⟨λa=>?_,λa=>f _ _ ⟨rfl,by rw[decide_eq_false λh=>a h.1]⟩⟩;rw[aM ba.p 1 x rfl,aW an.u y,aS];refine f _ _ ⟨rfl,?_⟩;congr 1;exact decide_eq_decide.2 ⟨λh=>⟨a,h⟩,λh=>h.2⟩
end
theorem RS{p a6:x1}{L:List lO}{Q:x1->x3->Prop}(S:∀w',Ext w w'->Q (.bool true) w')(bC:aH .u8 w p pl)(bF:∀b∈pl,0<=b/\b<256)(bG:Seen fo w [a6] L)(bI:∀x∈L,(nz x).ok)(a7:e5 w)(a8:Laid w):
  am x7 zw [p,a6] w Q:=by
 refine az func6 ?_;refine(RL a7 a8).mono ?_;rintro _ V _ ⟨rfl,K⟩;rw[bE,Y7,a1];refine(Ro (bC.ext K) bF (b0 bG K) bI (a7.ext K) (a8.ext K)).mono ?_;rintro _ aa _ ⟨bJ,bK⟩;have bc:=K.trans bJ;rcases bK with⟨cs,rfl,bL,bM⟩|⟨f,ae,gT,cG,Z,aG,s,cs,rfl,ag,bO,au,U,_⟩
 .rw[fP,fQ,fR];refine bo ba.i λap bP bQ av ax=>?_;refine cb (vs:=cs) ba.i bL rfl bM ax λW ay bR bd=>?_;rw[bE,V0,bT,dc cI.u];exact S _ (bc.trans (av.put ay Ω))
 rw[fP,fQ,fR];have X:cs.length=8/\∀u∈cs,u.oneCell'=true:=by
  obtain⟨A,R,A9,t,Y,_⟩:=id U;exact cd.len Y.doc
 refine bo ba.i λap bP bQ av ax=>?_;refine cb (vs:=cs) ba.i X.1 rfl X.2 ax λW ay bR bd=>?_;have aA:Ext aa W:=av.put ay Ω;have bU:=bc.trans aA;rw[bE,Y7,a1];have bf:nn W ap (cT f).k (cT f).sizes s:=jA.box (U.ext aA).ok.2 (Ext.refl _) bd;obtain⟨aC,cH,bg,_⟩:=au.ok;have cJ:rT s:=au.live.1;obtain⟨A,R,A9,t,Y,⟨aD,_⟩,_⟩:=U.ext aA;have aE:=Y.e9;have bV:s.funs.length<=160:=by have:=bg.funs;omega
 have S:∀w',Ext W w'->Q (.bool true) w':=λw' J=>S w' (bU.trans J);clear U au Y ag bO;generalize cT f=n at*;have cK:=aC.vars;have aJ:s.eg=[]:=bg.eg;have bh:EV s:=λe h=>by rw[aJ]at h;cases h
 refine(E0 aE aD bh Ω (by rw[aJ];exact X6 _)).mono ?_;rintro cL bW _ ⟨bi,cM,bX,_⟩;refine nE.range 5 (λl _ c aK=>Ext bW aK/\∃m:Nat,c=Δ (m:Int)/\∀a:Int,(l:Int)<=a->m<=(kk n s a).length) Ω ⟨Ext.refl _,0,rfl,λ_ _=>X6 _⟩ ?_ ?_
 rotate_left
 .rintro t4 _ aK bY ⟨N,_⟩;refine ct Ω ?_;have C:=bi.trans N;refine(E0 (aE.ext C) (aD.ext C) bh Ω (by rw[aJ];exact X6 _)).mono ?_;rintro cN cO _ ⟨bj,cP,bZ,_⟩;refine(AB bZ.ls ((bX.ext N).ext bj).ls).mono ?_;rintro _ cQ _ ⟨rfl,b1⟩;rw[decide_eq_true rfl];exact S _ ((C.trans bj).trans b1)
 rintro l t4 _ aK bY cR ⟨N,m,rfl,b2⟩ b3;refine bH Ω ?_;have C:=bi.trans N;refine(Fz (level:=(l:Int)) (aE.ext C) (aD.ext C) bV).mono ?_;rintro _ b4 _ ⟨bk,_,b6⟩;obtain⟨v,aY,M,rfl,hm,bl,_⟩:=b6 ⟨Ω,Ω⟩;have X:=bl.length_eq;rw[bq,br];refine aV (λv aL=>v= .bool false/\Ext b4 aL) ?_ λaB b7=>?_
 rotate_left
 .rw[bD,al];refine⟨λh=>absurd rfl h,λ_=>?_⟩;have:=b2 (l:Int) (Int.le_refl _);rw[ea dy.u hm,aS,decide_eq_false Ω];exact b7 _ _ ⟨rfl,Ext.refl _⟩
 rintro _ aL ⟨rfl,aN⟩;have ab:=hm.ext aN;have b8:=(C.trans bk).trans aN;rw[a1,ea dy.u ab,ea dy.u ab];refine b5.range M.length (λq _ ac=>Ext aL ac) ab.le (Ext.refl _) ?_ ?_
 rotate_left
 .rintro t5 ac b9 ad;refine ct Ω ?_;rw[aO];refine b3 _ _ _ ⟨((N.trans bk).trans aN).trans ad,M.length,rfl,λa aP=>?_⟩;rw[X];exact RO Ω
 rintro q t5 ac b9 ca ad cc;obtain⟨a,aP⟩:=aI (l:=M) ca;have af:a∈kk n s (l:Int):=bl.mem_iff.1 (x5 aP);obtain⟨af,bm⟩:=U5.1 af;have bm:=of_decide_eq_true bm;obtain⟨⟨cS,cU⟩,-,cV,cW⟩:=Fp aC af;obtain⟨⟨bn,ce⟩,cg,bp,y⟩:=RP aC af;refine bH Ω ?_;rw[rU (ab.ext ad) aP];refine bo bS.i λcX cY cZ ch ci=>?_;refine cb (vs:=fB a) bS.i rfl rfl (qd a) ci λbt cj c0 ck=>?_;have cl:Ext ac bt:=ch.put cj Ω;have bu:=ad.trans cl;refine aV (λv bw=>v= .bool false/\Ext bt bw) ?_ λc1 B=>?_
 .rintro _ bw ⟨rfl,cm⟩;rw[a1,aO];exact cc _ _ (bu.trans cm)
 intro c2 ah _ _;have ai:=ck.ext ah;have bx:=(b8.trans bu).trans ah;rw[aM bS.p 0 ai rfl,aS,al];refine⟨λh=>absurd h Ω,λ_=>?_⟩;rw[aM bS.p 0 ai rfl,bN,al];refine⟨λh=>absurd h Ω,λ_=>?_⟩;refine(bf.ext bx).load λc3 cp=>?_;rw[aM bS.p 1 ai rfl];refine(RR (i:=a.i) cp).mono ?_;rintro _ c4 _ ⟨aj,rfl⟩;rw[decide_eq_true ⟨bn,ce⟩,bE,Y7,a1];obtain⟨un,bz⟩:=U2 bn;obtain⟨x,J⟩:=aI (l:=s.vars) (i:=un) Ω;have cq:=bx.trans aj;have z:=ai.ext aj;obtain⟨szv,c5,c6,c7,c8,c9,aQ,da,_,cr,db,dd,bA,de⟩:=bf.ext cq;rw[aM bS.p 3 z rfl,cn,al];refine⟨λbB=>?_,λbB=>?_⟩
 .rw[aM ba.p 3 aQ rfl,aM bS.p 1 z rfl,bz];refine mQ (α:=Λ) (a:=aF x) (i:=un) rfl rfl dx.u an.i Ψ cr (by rw[x8,J];rfl) λdf cu=>?_;rw[aM bS.p 3 z rfl];refine(uC (eG cu)).mono ?_;rintro _ dg _ ⟨rfl,ak⟩;have cw:a.v∈aF x:=by have:=cg bB;rw[bz,RQ J]at this;exact this
  rw[decide_eq_true cw,bE,Y7,a1];have E:=z.ext ak;have cz:=aQ.ext ak;have cA:=b0 bA ak;have ao:=(ah.trans aj).trans ak;rw[aM bS.p 2 E rfl,cn,al];refine⟨λG=>?_,λG=>?_⟩
  .obtain⟨fn,O,aR⟩:=bp G;obtain⟨aT,P⟩:=U2 G;rw[P,r9]at O;rw[aM ba.p 6 cz rfl,aM bS.p 2 E rfl,P];refine kz (i:=aT) rfl fI.u eO.i cA (by rw[x8,O];rfl) λb o cB aW aX=>?_;obtain⟨aZ,cC,v3,rfl,a2,cD,cE⟩:=np aX;rw[aU eO.p rfl,aU bb.p rfl,aw (v:=aZ) Ψ (aW 0 _ rfl),aM bS.p 1 E rfl];refine(uC (eG a2)).mono ?_;rintro _ cF _ ⟨rfl,H⟩;rw[decide_eq_true aR,bE,Y7,a1];have I:=E.ext H;rw[aM bS.p 2 I rfl,cn,aM bS.p 0 I rfl,be,al];refine⟨λr=>?_,λr=>?_⟩
   .rw[nv eh.u,decide_eq_true (y.2 (.inl r))];exact B _ _ ⟨rfl,ao.trans H⟩
   .rw[aM bS.p 0 I rfl,be,nv eh.u];refine B _ _ ⟨?_,ao.trans H⟩;rw[show decide (0<=a.j)=decide (a.eo=3)from decide_eq_decide.2 ⟨λh=>(y.1 h).resolve_left r,λh=>y.2 (.inr h)⟩,beq_self_eq_true];rfl
  .rw[aM bS.p 2 E rfl,cn,aM bS.p 0 E rfl,be,al];refine⟨λr=>?_,λr=>?_⟩
   .rw[nv eh.u,decide_eq_true (y.2 (.inl r))];exact B _ _ ⟨rfl,ao⟩
   .rw[aM bS.p 0 E rfl,be,nv eh.u];refine B _ _ ⟨?_,ao⟩;rw[show decide (0<=a.j)=decide (a.eo=3)from decide_eq_decide.2 ⟨λh=>(y.1 h).resolve_left r,λh=>y.2 (.inr h)⟩,beq_self_eq_true];rfl
 .have aq:=ah.trans aj;rw[aM bS.p 2 z rfl,cn,al];refine⟨λG=>?_,λG=>?_⟩
  .obtain⟨fn,O,aR⟩:=bp G;obtain⟨aT,P⟩:=U2 G;rw[P,r9]at O;rw[aM ba.p 6 aQ rfl,aM bS.p 2 z rfl,P];refine kz (i:=aT) rfl fI.u eO.i bA (by rw[x8,O];rfl) λb o cB aW aX=>?_;obtain⟨aZ,cC,v3,rfl,a2,cD,cE⟩:=np aX;rw[aU eO.p rfl,aU bb.p rfl,aw (v:=aZ) Ψ (aW 0 _ rfl),aM bS.p 1 z rfl];refine(uC (eG a2)).mono ?_;rintro _ cF _ ⟨rfl,H⟩;rw[decide_eq_true aR,bE,Y7,a1];have I:=z.ext H;rw[aM bS.p 2 I rfl,cn,aM bS.p 0 I rfl,be,al];refine⟨λr=>?_,λr=>?_⟩
   .rw[nv eh.u,decide_eq_true (y.2 (.inl r))];exact B _ _ ⟨rfl,aq.trans H⟩
   .rw[aM bS.p 0 I rfl,be,nv eh.u];refine B _ _ ⟨?_,aq.trans H⟩;rw[show decide (0<=a.j)=decide (a.eo=3)from decide_eq_decide.2 ⟨λh=>(y.1 h).resolve_left r,λh=>y.2 (.inr h)⟩,beq_self_eq_true];rfl
  .rw[aM bS.p 2 z rfl,cn,aM bS.p 0 z rfl,be,al];refine⟨λr=>?_,λr=>?_⟩
   .rw[nv eh.u,decide_eq_true (y.2 (.inl r))];exact B _ _ ⟨rfl,aq⟩
   .rw[aM bS.p 0 z rfl,be,nv eh.u];refine B _ _ ⟨?_,aq⟩;rw[show decide (0<=a.j)=decide (a.eo=3)from decide_eq_decide.2 ⟨λh=>(y.1 h).resolve_left r,λh=>y.2 (.inr h)⟩,beq_self_eq_true];rfl
theorem RT{p a:x1}{L:List lO}(e:aH .u8 w p pl)(f:∀b∈pl,0<=b/\b<256)(h:Seen fo w [a] L)(q:∀x∈L,(nz x).ok)(r:e5 w)(s:Laid w):
  am x7 zw [p,a] w λv w'=>v= .bool true/\Ext w w':=RS (λw' J=>⟨rfl,J⟩) e f h q r s
end Go.Proofs.YtikkpokkcdocoabGreatDoor
