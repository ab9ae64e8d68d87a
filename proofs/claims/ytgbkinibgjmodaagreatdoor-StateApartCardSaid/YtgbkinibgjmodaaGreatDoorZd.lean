/- own texts, made small by a tool (wip/ holds them as they were written): no statement of the seat. -/
import Derived.Test.YtgbkinibgjmodaaGreatDoorZc
set_option linter.unusedVariables false
set_option linter.unusedSimpArgs false
set_option linter.unnecessarySimpa false
open Array renaming getElem?_eq_some_iff→j6,getElem?_toList→S4
open Bool renaming not_true→Y1,not_false→X5,eq_iff_iff→V8,and_eq_true→U4,or_eq_false_iff→S2
open Decidable renaming not_not→X4
open Go renaming Value→x1,World→x2,TypeId→r9,IntKind→o6,Builtin→l7,Program→W7
open Go.Addr renaming add_mid→U7
open Go.Builtin renaming append_→l9,len_→Y3
open Go.Instr renaming loadAt→x6,fieldAt→x7,storeAt→o5,indexAt→n0,buildSlice→Z7,extract→Z9,sliceAt→W6,alloc→S7
open Go.IntKind renaming i64→Y6
open Go.Proofs.Tryz renaming prog→x3
open Int renaming toNat_natCast→j0
open List renaming getElem?_eq_getElem→y0,getElem?_eq_some_iff→x4,mem_of_getElem?→x5,getElem?_map→x8,length_map→u4,getD_eq_getElem?_getD→u5,length_append→u9,take_add_one→r8,length_take→o4,replicate→o7,take_length→o9,mem_append→n9,take_of_length_le→l5,mem_singleton→j4,length_cons→j5,getElem?_append_left→j9,mem_map→Z1,getElem?_append_right→Z2,map_append→Z3,eq_nil_of_length_eq_zero→Z5,getElem?_take_of_lt→Y2,getElem?_eq_none→Y4,mem_iff_getElem?→Y7,append_assoc→X1,length_set→X2,append_nil→X6,ext_getElem?→X8,length_eq_one_iff→X9,range→W3,getElem?_set_ne→W8,drop_eq_getElem_cons→V0,pairwise_iff_getElem→V2,flatMap_cons→V5,mem_or_eq_of_mem_set→V7,getElem?_set_self→V9,length_singleton→U2,mem_of_mem_take→U3,set_append_right→U9,map_set→T2,getElem_mem→T6,map_cons→S3,length_filter_le→S9,length→R4
open Nat renaming le_refl→o8,mul_le_mul_right→Y5,le_trans→Y9,zero_le→X3,sub_self→W9,zero_add→V3,add_mul→U5,mul_one→T5,min_eq_left→T7,le_succ→S6,add_assoc→S8,add_sub_cancel_left→R3
open Option renaming isNone_some→Z0,toList_some→Z4,map_some→Y0,map_eq_some_iff→X0,map→U1,getD_some→T4
open Option.some renaming inj→Z8,injEq→Y8
open Prod.mk renaming injEq→T8
set_option maxHeartbeats 16000000
open Option renaming some→σ,none→ν
variable {sv v:x1}{B I N ah al j n:Nat}{w w':x2}{all cs l pl sizes szs t:Λ}{e:r9}{k y:Int}{S:Nat->Prop}{K:x1->Prop}
namespace Go.Proofs.YtgbkinibgjmodaaGreatDoor
open Go Go.Vc Go.RowKit Go.Proofs Go.Proofs.Tryz
set_option maxRecDepth 100000
theorem rR {g:Nat} {sc:Λ} (hm:au .i64 ab w g sv sc):∀u∈ep ⟨sv,I,sc,cs⟩,u.oneCell'=true:=λu hu=>by
 simp[ep] at hu;rcases hu with rfl|rfl
 .exact hm.ls.cells.2
 .rfl
theorem JW {b8:Nat} {f:b2} (b9:jX w b8 f) (Y:eQ N f) (ca:N<=60000) (dc:f.name≠[]/\ ∀b∈f.name,bJ b=true):
  ak x3 D3 [Γ b8] w (JV w f):=by
 have bw:=Y.k;refine aB func162 ?_;refine (Jj b9 Y ca dc).mono ?_;rintro _ U _ ⟨bx,e,rfl,he⟩;rw[bG,ae];refine⟨λcb=>⟨bx,.inl ⟨λh=>cb (he h),e,cb,rfl⟩⟩,λeE=>?_⟩;have cc:=b9.ext bx;obtain⟨av,a2,eF,bC,cd,dd,bA,a7⟩:=id cc;have eH:bC.length<=256:=by rw[a7.1];exact Y.jP
 rw[ay,ac cr.p rfl,ad Ψ (cd.Q3 rfl),eP dq.u bA];refine bE.range bC.length (λi l V=>∃g L,Ext U V/\eL V g l L/\Sem V f.k f.sizes L/\L.map dH=er f i/\ ∀r,leadsTo l r->U.heap.size<=r) (ns bA)
  ⟨0,[],Ext.refl _,⟨a6.nil _ _ _ _ _,λx aR=>(by cases aR)⟩,λx aR=>(by cases aR),rfl,λr I=>(eJ I).elim⟩ ?_ ?_
 .rintro i l V de hi ⟨g,L,aD,aS,a8,aj,ao⟩ df;obtain⟨d,ce⟩:∃d,bC[i]? =σ d:=⟨_,y0 hi⟩;obtain⟨x,ba⟩:∃x,f.funs[i]? =σ x:=⟨_,y0 (by have:=a7.1;omega)⟩;have cg:=x5 ba;have dg:=a7.2 i x d ba ce;have aE:=nW Y cg;obtain⟨dh,di,eI⟩:=AM Y i;have dj:L.length<=i:=by have dk:=congrArg R4 aj;rw[u4] at dk;omega
  refine Υ λ_=>?_;refine aQ (λl' bb=>∃ap aT,Ext U bb/\eL bb ap l' aT/\Sem bb f.k f.sizes aT/\aT.map dH=er f (i+1)/\ ∀r,leadsTo l' r->U.heap.size<=r) ?_ ?_
  .rintro l' bb ⟨ap,aT,h1,dl,dn,dp,dr⟩;rw[aN];exact df _ _ ⟨ap,aT,h1,dl,dn,dp,dr⟩
  intro eK ch;refine iy (α:=gk) cn.p rfl dq.u cn.i (bg bA aD) ce λcs bB=>?_;have ci:cs.length=2:=am.len bB;refine bp cn.i λan eM eN ds dt=>?_;refine bH (vs:=cs) cn.i ci rfl (am.one bB) dt λdu dv eO dw=>?_;have aw:Ext V du:=ds.then dv (λr I he=>by have he:r=an:=he;omega);rw[bn cn.p cn.i ci dw.range];refine (Jt Y ca cg dg (bg bB aw)).mono ?_;rintro _ dx _ ⟨dy,sv,gs,bD,dz,dA,rfl,eR,aU,cj⟩;rw[aK (v:=sv) rfl,aK (v:=Γ bD) rfl];refine bp ai.i λck eS eU dC dD=>?_;refine bh ai.i aU.ls.cells.1 aU.ls.cells.2 dD (by simp[x1.cells]) λcl dE eV bd=>?_;have bI:Ext dx cl:=dC.then dE (λr I he=>by have he:r=ck:=he;omega);have bd:af cl ck ai [sv]:=bd;rw[kx];have bK:=(aw.trans dy).trans bI;have eW:=bK.size;have eX:=aD.size;refine (JU (aS.ext bK) bd (aU.ls.ext bI)).mono ?_;rintro _ eY _ ⟨be,I⟩;have bf:=bK.trans be;have cm:=bI.trans be;have bL:=aU.ext cm;have cp:=cj.ext cm;have cq:=bd.ext be;have ct:=aS.ext bf;have bM:=a8.ext bf;rcases I with⟨rfl,dG⟩|⟨cu,rfl,y,X,bi⟩
  .refine Υ λ_=>?_;rw[ad Ψ (cq.Qz rfl),cW (cs:=#[sv,Γ bD]) (by obtain⟨_,_,_,rfl⟩:=bZ aU.ls;kernel_rfl)];let a:cA:=⟨sv,bD,bj x.scope,(gR f.sizes f.k x).2⟩;have bO:∀u∈ep a,u.oneCell'=true:=rR bL;refine fQ (f:=ep) (a:=a) ft.u cL.i Ω rfl rfl λeZ e0 dI e2 aF dJ=>?_;have aG:=ct.ext aF;refine gh (f:=ep) (a:=a) ft.u cL.i rfl aG.1 (by simpa using dJ.sl) bO Ω Ω λaV ap e3 aW bQ aX=>?_;have cw:=bL.ext aF;have bk:∀ {r:Nat},leadsTo l r-> ∃c,af dI r cL c:=λI=>by
    obtain⟨rfl,c,W⟩:=dm aG.1 I;exact⟨c,W⟩
   refine ch _ _ ⟨ap,L++[a],((aD.trans bf).trans aF).then aX (λr I he=>by have:=ao r he;omega),eL.mk aW λz J=>?_,λz J=>?_,?_,λr I=>?_⟩
   .rcases n9.1 J with J|J
    .have:=(aG.2 z J).aa aX λr I he=>(aG.2 z J).2.1 r I (aG.1.leads he).1;exact⟨this.1,this.2.2⟩
    .rw[j4.1 J];exact⟨⟨gs,bc cw aX λr I he=>by obtain⟨c,W⟩:=bk he;exact bX cw W Φ I rfl⟩,aE.scope⟩
   .rcases n9.1 J with J|J
    .exact (bM.ext aF).row aG aX z J
    .rw[j4.1 J];exact⟨dz,dA,uu (cp.ext aF) aX λr I=>bk I⟩
   .rw[Z3,aj,uy ba,AL]
    .rfl
    .intro c al dK;rw[<-aj] at al;obtain⟨z,J,rfl⟩:=Z1.1 al;exact dG z J dK
   .rcases bQ r I with h|h
    .exact ao r h
    .have:=aF.size;have:=be.size;omega
  .rw[aq,ae];refine⟨λh=>Ω,λ_=>?_⟩;intro e5 ax _ _;have bR:=ct.ext ax;have cz:=(x4.1 X).1;obtain⟨dL,dM,bl⟩:=(bM.ext ax) y (x5 X);have cB:=cq.ext ax;have cC:=bL.ext ax;have dN:=cp.ext ax;rw[cG rfl ft.u cL.i bR.1 cz,ac cL.p rfl,ad Ψ (bR.1.range X 1 _ rfl),ad Ψ (cB.Qz rfl),ad Ψ (cB.Qz rfl)];have aH:e6 f.sizes f.k (dH y):=dh _ (uz aj X);rw[bi] at bl;have cD:∀ {c:Int},0<=c/\c<=f.k->cQ c f.k:=λh=>⟨bw,h.1,h.2⟩;refine (JE bl dN cC.ls cC.ls bw (λc al=>cD (aH.ie c al)) (λc al=>cD (aE.ie c al))).mono ?_;intro e7 cE _ dO;have dP:y.cs.length=(aM (bF f.sizes (bj x.scope))).toNat:=by have:=aH.len;rw[show (dH y).1=y.sc from rfl,bi] at this;exact this
   have dQ:bS (bF f.sizes (bj x.scope)):=cj.2.2.1;obtain⟨bT,bU,cF,cH,dR,rfl,dS⟩:=JJ aE.up (λv dT=>(aE.scope.1 v dT).1) (by simp[bF];rfl) dQ aE.small dP aE.len dO;rw[aK (v:=Γ bU) rfl,aK (v:=dR) rfl,aK (v:=Δ 0) rfl];have az:=bR.ext bT;rw[cG rfl ft.u cL.i az.1 cz,ac cL.p rfl];let a:cA:=⟨y.sv,bU,y.sc,dF f.k y.cs (gR f.sizes f.k x).2⟩;refine mB (f:=ep) (j:=1) (a:=y) (a':=a) ek.i rfl rfl az.1 X rfl Ω λdU bm e8 dV=>?_;have bk:∀ {r:Nat},leadsTo l r-> ∃c,af cE r cL c:=λI=>by
    obtain⟨rfl,c,W⟩:=dm az.1 I;exact⟨c,W⟩
   refine ch _ _ ⟨g,L.set cu a,((aD.trans bf).trans (ax.trans bT)).then bm (λr I he=>by have:=ao r he;omega),eL.mk dV λz J=>?_,λz J=>?_,?_,ao⟩
   .have cI:∀z∈L,(∃bV,au .i64 ab dU bV z.sv z.sc)/\ic z.sc:=λz J=>by
     have:=(az.2 z J).aa bm λr I he=>(az.2 z J).2.1 r I (az.1.leads he).1;exact⟨this.1,this.2.2⟩
    rcases V7 J with J|rfl
    .exact cI z J
    .exact cI y (x5 X)
   .rcases V7 J with J|rfl
    .exact ((bM.ext ax).ext bT).row az bm z J
    .refine⟨cF,cH,uu ?_ bm λr I=>bk I⟩;show cR cE bU cF cH (bF f.sizes y.sc) f.k _;rw[bi];exact dS
   .rw[T2,aj,uy ba,JR (g:=gR f.sizes f.k x) di (i:=cu) (h:=dH y) (by rw[<-aj,x8,X];rfl) bi];rfl
 .rintro l V de ⟨g,L,aD,aS,a8,aj,ao⟩;rw[aq,ae];refine⟨λh=>Ω,λ_=>?_⟩;rw[a7.1,AN] at aj;have dj:L.length<=256:=by
   have:=(jV Y).2.2;rw[<-aj,u4] at this;have:=Y.jP;omega
  refine (Jy aS a8 Ω).mono ?_;rintro e9 cJ _ ⟨cK,cM,dW⟩;have dX:Ext U cJ:=aD.then cK λr I he=>by have:=ao r he;omega
  have dY:Sem cJ f.k f.sizes (L.filter fo):=λz J=>(a8.row aS cK) z (List.mem_filter.1 J).1;have fa:(L.filter fo).length<=L.length:=S9 _ _;refine (Jq cM Ω).mono ?_;rintro _ cN _ ⟨cO,M,bW,dZ,cP⟩;have ea:Ext U cN:=dX.then cO λr I he=>by have:=ao r (dW r he);omega
  have cS:Sem cN f.k f.sizes M:=λz J=>(dY.row cM cO) z (bW.mem_iff.1 J);have fb:M.length<=256:=by rw[bW.length_eq];omega
  have cT:M.map dH=e4 f:=by
   refine Ir Y ?_ ?_
   .refine (bW.map dH).trans ?_;rw[<-aj,List.filter_map];exact .refl _
   .rw[List.pairwise_map];refine V2.2 λp q eb cU ec=>?_;exact dZ p q _ _ (X3 _) ec cU (y0 eb) (y0 cU)
  intro fc bo _ _;have aY:=ea.trans bo;have fd:=cc.ext aY;have bY:=cd.ext aY;rw[ay,ac cr.p rfl,ad Ψ (bY.Q0 rfl),ay,ac cr.p rfl,ad Ψ (bY.Q1 rfl),ay,ac cr.p rfl,ad Ψ (bY.Q2 rfl)];refine (hF (dd.ls.ext aY) (by have:=Y.sizes.2.1;omega)).mono ?_;rintro aZ cV _ ⟨aI,ed,fe,cX⟩;refine⟨.inl aI,?_⟩;rw[cW (cs:=#[bz f.name,Δ f.k,aZ,.slice ν 0 0]) (by obtain⟨_,_,_,rfl⟩:=bZ cX.ls;kernel_rfl)];refine bN λaA ee ff bq b0=>?_;have b0:af ee aA cr [bz f.name,Δ f.k,aZ,.slice ν 0 0]:=b0;have fg:=(aY.trans aI).trans bq;have ef:=((cP.ext bo).ext aI).ext bq;have fh:=((cS.ext bo).ext aI).ext bq;rw[c9 ft.u ef.1];refine bP.range M.length (λi aJ=>∃a2 br aC,Ext cV aJ/\af aJ aA cr [bz f.name,Δ f.k,aZ,a2]/\pz aJ br a2 f.k f.sizes aC/\aC.map dH=(M.take i).map dH/\aC.length=i/\ ∀r,leadsTo a2 r->cV.heap.size<=r) Ω
   ⟨_,0,[],bq,b0,⟨a6.nil _ _ _ _ _,λx aR=>(by cases aR)⟩,rfl,rfl,λr I=>(eJ I).elim⟩ ?_ ?_
  rotate_left
  .rintro aJ eg ⟨a1,br,aC,aL,aO,b1,bt,_,_⟩;rw[o9,cT] at bt;rw[aq,ae];refine⟨λh=>Ω,λ_=>?_⟩;exact⟨(bx.trans (aY.trans aI)).trans aL,.inr ⟨aA,rfl,aZ,a1,ed,br,aC,aO,cX.ext aL,b1,bt⟩⟩
  rintro i aJ eg hi ⟨a1,br,aC,aL,aO,b1,bt,eh,cY⟩ ei;obtain⟨y,X⟩:∃y,M[i]? =σ y:=⟨_,y0 hi⟩;have cZ:=(bo.trans aI).trans aL;have c0:=cP.ext cZ;have c1:=c0.at X;obtain⟨dL,dM,bl⟩:=(cS.ext cZ) y (x5 X);have aH:e6 f.sizes f.k (dH y):=rC Y _ (uz cT X);refine Υ λ_=>?_;rw[rM rfl c0 X];refine bp cL.i λej fi fj em en=>?_;refine bH (vs:=ep y) cL.i rfl rfl c1.one en λeo es fk et=>?_;have eu:Ext aJ eo:=em.then es (λr I he=>by have he:r=ej:=he;omega);intro fm c2 _ _;have b3:=eu.trans c2;have c3:=et.ext c2;have ev:=aO.ext b3;rw[ay,ac cr.p rfl,ad Ψ (ev.Q3 rfl),ac cL.p rfl,ad Ψ (c3.Q0 rfl),ac cL.p rfl,ad Ψ (c3.Q1 rfl)];refine (JQ (bl.ext b3) λc al=>⟨bw,(aH.ie c al).1,(aH.ie c al).2⟩).mono ?_;rintro _ fp _ ⟨b4,ah,m,o,D,rfl,ew,ey,ez,_⟩;refine⟨.inl b4,?_⟩;have c4:=b3.trans b4;obtain⟨⟨bV,c5⟩,_,fq⟩:=c1;have c6:=c5.ext c4;rw[cW (cs:=#[y.sv,Γ ah]) (by obtain⟨_,_,_,e⟩:=bZ c5.ls;rw[e];kernel_rfl)];let a:cA:=⟨y.sv,ah,y.sc,y.cs⟩;have bO:∀u∈ep a,u.oneCell'=true:=rR c6;refine fQ (f:=ep) (a:=a) dq.u cn.i Ω rfl rfl λv25 fs b5 fu aw eA=>?_;refine⟨.inl (b4.trans aw),?_⟩;have aP:=c4.trans aw;have bu:=b1.ext aP;refine gh (f:=ep) (a:=a) dq.u cn.i rfl bu.1 (by simpa using eA.sl) bO Ω Ω λaV ap eB aW bQ c7=>?_;have fv:=aL.size;have fw:=aP.size;have b6:af eB aA cr [bz f.name,Δ f.k,aZ,a1]:=(aO.ext aP).aa c7 λhe=>by
   obtain⟨rfl,c,W⟩:=dm bu.1 he;have h1:=aO.ext aP;unfold af at W h1;rw[h1] at W;exact absurd (Obj.cells.inj (Z8 W)).2.1 Φ
  rw[ay,ac cr.p rfl];have c8:aV.cells= #[aV]/\aV.oneCell'=true:=by
   obtain⟨_,_,_,_,_,rfl,_⟩:=aW.sl;exact⟨rfl,rfl⟩
  refine bh dq.i c8.1 c8.2 b6 Ξ λeC da fx eD=>?_;rw[aN];have b7:ag (λr=>r=aA\/leadsTo a1 r) b5 eC:=(c7.mono λr _ h=>.inr h).trans (da.mono λr _ h=>.inl h);have db:∀r,(r=aA\/leadsTo a1 r)-> ∃e c,af b5 r e c/\e≠e1/\e≠ab:=λr I=>by
   rcases I with rfl|I
   .exact⟨_,_,aO.ext aP,Φ,Φ⟩
   .obtain⟨rfl,c,W⟩:=dm bu.1 I;exact⟨_,c,W,Φ,Φ⟩
  refine ei _ ⟨aV,ap,aC++[a],?_,eD,⟨aW.aa da λr I he=>?_,λz J=>?_⟩,?_,by rw[u9,eh];rfl,λr I=>?_⟩
  .exact (aL.trans aP).then b7 λr I he=>by
    rcases he with rfl|he
    .omega
    .have:=cY r he;omega
  .have he:r=aA:=he;subst he;obtain⟨rfl,c,W⟩:=dm aW I;unfold af at W b6;rw[b6] at W;exact absurd (Obj.cells.inj (Z8 W)).2.1 Φ
  .rcases n9.1 J with J|J
   .exact (bu.2 z J).aa b7 db
   .rw[j4.1 J];refine lB.aa (w:=b5) ⟨⟨bV,c6.ext aw⟩,m,o,D,ew.ext aw,?_,ez⟩ b7 db;have:=aH.small;exact Y9 ey (by show (aM (bF f.sizes (dH y).1)).toNat<=4096;omega)
  .rw[Z3,bt,r8,X,Z3];rfl
  .rcases bQ r I with h|h
   .exact cY r h
   .omega
theorem dP {r:Nat} {I:r9} {c J:List x1} (h:af w r e c) (h':af w r I J):e=I:=by
 unfold af at h h';rw[h] at h';exact (Obj.cells.inj (Z8 h')).2.1
theorem cc {α:Type} {f:α->List x1} {k:Nat} {I:r9} {g J:Nat} {L:List α} {cs:List x1} (h:a6 f k e w g v L) (U:af w J I cs) (V:e≠I):¬leadsTo v J:=λW=>by
 obtain⟨rfl,c,X⟩:=dm h W;exact V (dP X U)
structure kN where
 v:x1
 l:Λ
def mH (h:kN):List x1:=[h.v]
def gT (w:x2) (g:Nat) (v:x1) (aU:List kN):Prop:=a6 mH 1 aw w g v aU/\ ∀h∈aU,∃I,au .i64 ao w I h.v h.l
theorem gT.ext {g:Nat} {aU:List kN} (h:gT w g v aU) (I:Ext w w'):gT w' g v aU:=⟨h.1.ext I,λx J=>by
 obtain⟨U,hm⟩:=h.2 x J;exact⟨U,hm.ext I⟩⟩
theorem gT.pA {g:Nat} {aU:List kN} (h:gT w g v aU) (U:ag S w w') (V:∀r,S r-> ∃e c,af w r e c/\e≠ao):∀h∈aU,∃J,au .i64 ao w' J h.v h.l:=λx W=>by
 obtain⟨J,hm⟩:=h.2 x W;exact⟨J,bc hm U λr X I=>by
  obtain⟨e,c,Y,aa⟩:=V r I;exact bX hm Y (λhe=>aa he.symm) X rfl⟩
theorem gT.aa {g:Nat} {aU:List kN} (h:gT w g v aU) (W:ag S w w') (X:∀r,S r-> ∃e c,af w r e c/\e≠ao/\e≠aw):gT w' g v aU:=
 ⟨h.1.aa W λr J I=>by
  obtain⟨e,c,U,_,V⟩:=X r I;exact cc h.1 U (λhe=>V he.symm) J,h.pA W λr J=>by
  obtain⟨e,c,U,V,_⟩:=X r J;exact⟨e,c,U,V⟩⟩
def lC (w:x2) (k:Int) (sizes:Λ) (x:cA):Prop:=(∃I,au .i64 ab w I x.sv x.sc)/\ ∃J U,cR w x.g J U (bF sizes x.sc) k x.cs
theorem lC.ext {x:cA} (h:lC w k sizes x) (I:Ext w w'):lC w' k sizes x:=by
 obtain⟨⟨J,h1⟩,U,V,W⟩:=h;exact⟨⟨J,h1.ext I⟩,U,V,W.ext I⟩
theorem JX {g Y:Nat} {ac:x1} (h:cR w g Y ac szs k cs) (V:ag S w w') (W:∀r,S r-> ∃e c,af w r e c/\e≠cU/\e≠ab/\e≠ao):cR w' g Y ac szs k cs:=by
 obtain⟨⟨aL,gs,h1,ad,ae⟩,ah⟩:=h;refine⟨⟨aL,gs,h1.aa V λI=>?_,bc ad V λr X I=>?_,bc ae V λr X I=>?_⟩,ah⟩
 .obtain⟨e,c,J,U,_⟩:=W g I;exact U (dP J h1)
 .obtain⟨e,c,J,_,U,_⟩:=W r I;exact bX ad J (λhe=>U he.symm) X rfl
 .obtain⟨e,c,J,_,_,U⟩:=W r I;exact bX ae J (λhe=>U he.symm) X rfl
theorem lC.aa {x:cA} (h:lC w k sizes x) (J:ag S w w') (U:∀r,S r-> ∃e c,af w r e c/\e≠cU/\e≠ab/\e≠ao):lC w' k sizes x:=by
 obtain⟨⟨V,h1⟩,W,X,Y⟩:=h;refine⟨⟨V,bc h1 J λr ac I=>?_⟩,W,X,JX Y J U⟩;obtain⟨e,c,ad,_,ae,_⟩:=U r I;exact bX h1 ad (λhe=>ae he.symm) ac rfl
def kO (w:x2) (g:Nat) (v:x1) (k:Int) (sizes:Λ) (L:List cA):Prop:=a6 ep 2 hb w g v L/\ ∀x∈L,lC w k sizes x
theorem kO.ext {g:Nat} {L:List cA} (h:kO w g v k sizes L) (I:Ext w w'):kO w' g v k sizes L:=⟨h.1.ext I,λx J=>(h.2 x J).ext I⟩
theorem kO.aa {g:Nat} {L:List cA} (h:kO w g v k sizes L) (W:ag S w w') (X:∀r,S r-> ∃e c,af w r e c/\e≠hb/\e≠cU/\e≠ab/\e≠ao):kO w' g v k sizes L:=
 ⟨h.1.aa W λr J I=>by
  obtain⟨e,c,U,V,_⟩:=X r I;exact cc h.1 U (λhe=>V he.symm) J,λx Y=>(h.2 x Y).aa W λr J=>by
  obtain⟨e,c,U,_,V⟩:=X r J;exact⟨e,c,U,V⟩⟩
def e8 (w:x2) (V:Nat) (n:aV):Prop:=∃I J U W X aU L Y av aa ac,af w V ff [Γ I,Δ n.zero,J,U]/\af w I cr [Y,Δ n.k,av,ac]/\au .i64 ab w aa av n.sizes/\
 gT w W J aU/\aU.map (·.l)=n.unary/\kO w X U n.k n.sizes L/\L.map dH=n.funs
theorem e8.ext {J:Nat} {n:aV} (h:e8 w J n) (I:Ext w w'):e8 w' J n:=by
 obtain⟨U,V,W,X,Y,aU,L,aa,av,ab,ac,h1,ad,ae,af,ag,ah,ai⟩:=h;exact⟨U,V,W,X,Y,aU,L,aa,av,ab,ac,h1.ext I,ad.ext I,ae.ext I,af.ext I,ag,ah.ext I,ai⟩
def hR (n:aV) (g:cw):aV:=match g.1 with
 |[]=>{n with zero:=g.2.getD 0 0}
 |[v]=>{n with unary:=n.unary.set v.toNat g.2}
 |_=>{n with funs:=n.funs++[g]}
def AO (f:b2):aV:=⟨f.k,f.sizes,0,f.sizes.map λz=>o7 z.toNat 0,[]⟩
theorem JY (f:b2):cb f=(e4 f).foldl hR (AO f):=rfl
def dn (f:b2) (i:Nat):aV:=((e4 f).take i).foldl hR (AO f)
theorem uA {f:b2} {i:Nat} {g:cw} (h:(e4 f)[i]? =σ g):dn f (i+1)=hR (dn f i) g:=JS h
theorem rS (f:b2):dn f (e4 f).length=cb f:=by unfold dn;rw[o9,JY]
theorem JZ (n:aV) (g:cw):(hR n g).k=n.k/\(hR n g).sizes=n.sizes/\(hR n g).unary.length=n.unary.length/\(hR n g).funs.length<=n.funs.length+1:=by
 unfold hR;split
 .exact⟨rfl,rfl,rfl,S6 _⟩
 .exact⟨rfl,rfl,Ξ,S6 _⟩
 .exact⟨rfl,rfl,rfl,Ξ⟩
theorem n1 (f:b2):∀i,(dn f i).k=f.k/\(dn f i).sizes=f.sizes/\(dn f i).unary.length=f.sizes.length/\(dn f i).funs.length<=i
 |0=>⟨rfl,rfl,by show (f.sizes.map _).length=_;simp,X3 _⟩
 |i+1=>by
  have I:=n1 f i;cases J:(e4 f)[i]? with
  |none=>
   have U:=List.getElem?_eq_none_iff.1 J;have e:dn f (i+1)=dn f i:=by unfold dn;rw[l5 Ω,l5 U]
   rw[e];exact⟨I.1,I.2.1,I.2.2.1,Ω⟩
  |some g=>
   rw[uA J];obtain⟨h1,V,W,X⟩:=JZ (dn f i) g;exact⟨h1.trans I.1,V.trans I.2.1,W.trans I.2.2.1,Ω⟩
def J0 (w:x2) (f:b2) (v:x1) (w':x2):Prop:=Ext w w'/\((¬kM f.funs<=16384/\ ∃e:Int,e≠0/\v= .tuple #[.pointer ν,Δ e])\/ ∃I,v= .tuple #[Γ I,Δ 0]/\e8 w' I (cb f))
theorem cT {k:Nat} {cs:List x1} (h:bW w k v n cs):v.cells= #[v]/\v.oneCell'=true:=by
 obtain⟨_,_,_,_,_,rfl,_⟩:=h;exact⟨rfl,rfl⟩
theorem J1 {cd:Nat} {f:b2} (cI:jX w cd f) (aC:eQ N f) (cJ:N<=60000) (cK:f.name≠[]/\ ∀b∈f.name,bJ b=true):
  ak x3 Ds [Γ cd] w (J0 w f):=by
 have dK:=aC.k;refine aB func69 ?_;refine (JW cI aC cJ cK).mono ?_;rintro _ U _ ⟨be,⟨cL,e,he,rfl⟩|⟨aH,rfl,cM⟩⟩
 .rw[aK (v:=.pointer ν) rfl,aK (v:=Δ e) rfl,bG,ae];exact⟨λ_=>⟨be,.inl ⟨cL,e,he,rfl⟩⟩,λh=>absurd he h⟩
 rw[aK (v:=Γ aH) rfl,aK (v:=Δ 0) rfl,bG,ae];refine⟨λh=>absurd rfl h,λ_=>?_⟩;obtain⟨av,cN,cO,dL,M,bB,bC,ce,bf⟩:=id cM;have dM:M.length<=256:=by
  have h1:=(pq aC).2.length_eq;have aS:=(jV aC).2.2;have aV:=S9 e3 (eV f);have bg:=aC.jP;have dO:M.length=(e4 f).length:=by rw[<-bf,u4]
  omega
 have dP:=aC.sizes.2.1;rw[cW (cs:=#[Γ aH,Δ 0,.slice ν 0 0,.slice ν 0 0]) Ψ];refine bN λah V dQ bD bE=>?_;have bE:af V ah ff [Γ aH,Δ 0,.slice ν 0 0,.slice ν 0 0]:=bE;rw[ay,ac cr.p rfl,ad Ψ ((bB.ext bD).Q2 rfl),aT ai.u (bC.ls.ext bD)];refine bP.range f.sizes.length (λi aY=>∃W aj aU,Ext U aY/\af aY ah ff [Γ aH,Δ 0,W,.slice ν 0 0]/\gT aY aj W aU/\aU.map (·.l)=(f.sizes.take i).map (λz=>o7 z.toNat 0)/\ ∀r,leadsTo W r->U.heap.size<=r) Ω
  ⟨_,0,[],bD,bE,⟨a6.nil _ _ _ _ _,λx bI=>(by cases bI)⟩,rfl,λr J=>(eJ J).elim⟩ ?_ ?_
 .rintro i aY cP hi ⟨W,aj,aU,aI,bi,bK,aZ,bj⟩ cQ;obtain⟨z,al⟩:∃z,f.sizes[i]? =σ z:=⟨_,y0 hi⟩;have dR:=aC.sizes.2.2 z (x5 al);have dS:aU.length=i:=by have:=congrArg R4 aZ;simp only[u4,o4] at this;omega
  refine Υ λ_=>?_;rw[bd ai.u ab.i Ψ (bC.ls.ext aI) al];intro dT cg _ _;have cR:=bi.ext cg;rw[ay,ac ff.p rfl,ad Ψ (cR.Q2 rfl)];obtain⟨aJ,rfl⟩:∃n:Nat,z=n:=⟨z.toNat,Ω⟩;refine i9 (k:=.i64) aw.u ao.i Ω Ω λbl cS dU bL cV=>?_;refine⟨.inl bL,?_⟩;have cX:au .i64 ao cS bl (.slice (σ ⟨bl,0,ν⟩) aJ aJ) (o7 aJ 0):=au.of (bU.full (k:=1) (n:=aJ) cV Ξ (by simp[maxLen];omega));let a:kN:=⟨.slice (σ ⟨bl,0,ν⟩) aJ aJ,o7 aJ 0⟩;refine fQ (f:=mH) (a:=a) dJ.u aw.i Ω rfl rfl λdV dW bM dX bO cY=>?_;refine⟨.inl (bL.trans bO),?_⟩;have bm:=(cg.trans bL).trans bO;have bo:=bK.ext bm;refine gh (f:=mH) (a:=a) dJ.u aw.i rfl bo.1 (by simpa using cY.sl) (λu hu=>by rw[j4.1 (show u∈[a.v] from hu)];rfl) Ω Ω λbQ bR dZ ax bS ch=>?_;have a1:∀ {r:Nat},leadsTo W r-> ∃c,af bM r aw c:=λJ=>by
   obtain⟨rfl,c,X⟩:=dm bo.1 J;exact⟨c,X⟩
  have bT:=bi.ext bm;have ci:=bT.aa ch λhe=>cc bo.1 bT Φ he;rw[ay,ac ff.p rfl];refine bh dJ.i (cT ax.sl).1 (cT ax.sl).2 ci Ξ λcZ cj ea c0=>?_;rw[aN];have bV:ag (λr=>leadsTo W r\/r=ah) bM cZ:=(ch.mono λr _ h=>.inl h).trans (cj.mono λr _ h=>.inr h);have aD:∀r,(leadsTo W r\/r=ah)-> ∃e c,af bM r e c/\e≠ao:=λr J=>by
   rcases J with J|rfl
   .obtain⟨c,X⟩:=a1 J;exact⟨_,c,X,Φ⟩
   .exact⟨_,_,bT,Φ⟩
  have c1:=be.size;have z3:=aI.size;have eb:=bm.size;refine cQ _ ⟨bQ,bR,aU++[a],(aI.trans bm).then bV (λr J he=>?_),c0,⟨ax.aa cj λr J he=>?_,λy ap=>?_⟩,?_,λr J=>?_⟩
  .rcases he with he|rfl
   .have:=bj r he;omega
   .omega
  .have he:r=ah:=he;subst he;exact cc ax ci Φ J
  .rcases n9.1 ap with ap|ap
   .exact bo.pA bV aD y ap
   .rw[j4.1 ap];have ck:=cX.ext bO;exact⟨bl,bc ck bV λr J I=>by
     obtain⟨e,c,X,c2⟩:=aD r I;exact bX ck X (λhe=>c2 he.symm) J rfl⟩
  .rw[Z3,aZ,r8,al,Z4,Z3];rfl
  .rcases bS r J with h|h
   .exact bj r h
   .omega
 .rintro aY cP ⟨W,aj,aU,aI,bi,bK,aZ,bj⟩;rw[aq,ae];refine⟨λh=>Ω,λ_=>?_⟩;rw[o9] at aZ;have c3:=bB.ext aI;have c4:=ce.ext aI;rw[ay,ac cr.p rfl,ad Ψ (c3.Q3 rfl),c9 dq.u c4.1];refine bP.range M.length (λi aL=>∃W Y aj aE aU L,Ext U aL/\af aL ah ff [Γ aH,Δ (dn f i).zero,W,Y]/\gT aL aj W aU/\aU.map (·.l)=(dn f i).unary/\kO aL aE Y f.k f.sizes L/\L.map dH=(dn f i).funs/\ ∀r,leadsTo W r\/leadsTo Y r->U.heap.size<=r) Ω
   ⟨W,_,aj,0,aU,[],aI,bi,bK,aZ,⟨a6.nil _ _ _ _ _,λx bI=>(by cases bI)⟩,rfl,λr J=>J.elim (bj r) λh=>(eJ h).elim⟩ ?_ ?_
  rotate_left
  .rintro aL c5 ⟨W,Y,aj,aE,aU,L,az,bq,bW,aO,bY,aP,_⟩;rw[aq,ae];refine⟨λh=>Ω,λ_=>?_⟩;have c6:M.length=(e4 f).length:=by rw[<-bf,u4]
   have a2:=n1 f M.length;rw[c6,rS] at bq aO aP a2;refine⟨be.trans az,.inr ⟨ah,rfl,aH,W,Y,aj,aE,aU,L,bz f.name,av,cO,cN,bq,?_,?_,bW,aO,?_,aP⟩⟩
   .rw[a2.1];exact bB.ext az
   .rw[a2.2.1];exact bC.ext az
   .rw[a2.1,a2.2.1];exact bY
  rintro i aL c5 hi ⟨W,Y,aj,aE,aU,L,az,bq,bW,aO,bY,aP,aW⟩ c7;obtain⟨y,ap⟩:∃y,M[i]? =σ y:=⟨_,y0 hi⟩;have c8:(e4 f)[i]? =σ (dH y):=by rw[<-bf,x8,ap];rfl
  have br:e6 f.sizes f.k (dH y):=rC aC _ (uz bf ap);have b0:=ce.ext az;obtain⟨ec,ed,ee,ef⟩:=n1 f i;refine Υ λ_=>?_;refine di (λa7=>∃W Y aj aE aU L,Ext U a7/\af a7 ah ff [Γ aH,Δ (dn f (i+1)).zero,W,Y]/\gT a7 aj W aU/\aU.map (·.l)=(dn f (i+1)).unary/\kO a7 aE Y f.k f.sizes L/\L.map dH=(dn f (i+1)).funs/\ ∀r,leadsTo W r\/leadsTo Y r->U.heap.size<=r) ?_ ?_
  .rintro a7 h;rw[aN];exact c7 _ h
  intro eg b1;have da:=b0.2 y (x5 ap);obtain⟨⟨db,b3⟩,m,o,D,dc,eh,dd⟩:=da;rw[cG rfl dq.u cn.i b0.1 hi,bn cn.p cn.i rfl (b0.1.range ap)];refine bp cn.i λan ei ej de df=>?_;refine bH (vs:=ep y) cn.i rfl rfl (rR b3) df λdg dh ek cl=>?_;have cm:Ext aL dg:=de.then dh (λr J he=>by have he:r=an:=he;omega);rw[ac cn.p rfl,ad Ψ (cl.Q1 rfl)];refine (Aj (dc.ext cm) Ω).mono ?_;rintro _ em _ ⟨cp,_,aX⟩;obtain⟨g,dj,dk,dl,rfl,en,eo,aX,dp⟩:=aX br.small;have dr:dN (bF f.sizes y.sc):=aX.2.2.1.2;have ds:dl=y.cs:=ho.eq dr dp dd;subst ds;have aF:=cm.trans cp;have b4:=cl.ext cp;have b5:=b3.ext aF;rw[aK (v:=Γ g) rfl,aK (v:=Δ 0) rfl,ac cn.p rfl,ad Ψ (b4.Q0 rfl),aT ai.u b5.ls];have c1:=be.size;have z9:=az.size;have er:=aF.size;have b6:=bq.ext aF;have b7:=bW.ext aF;have b8:=bY.ext aF;have b9:=uA c8;rw[bk,ae];refine⟨λes=>?_,λet=>?_⟩
  .
   have aQ:y.sc=[]:=Z5 Ω;have am:dn f (i+1)={dn f i with zero:=y.cs.getD 0 0}:=by rw[b9];unfold hR;simp only[dH,aQ]
   refine (lx aX).mono ?_;rintro cq dt _ ⟨bt,eu,ev,du⟩;have ew:y.cs.length=1:=by have:=br.len;simpa[dH,aQ,bF,aM] using this
   have dv:y.cs[0]? =σ (y.cs.getD 0 0):=by rw[u5,y0 Ω];rfl
   rw[dY (y:=0) (i:=0) rfl aw.u ao.i Ψ du.ls dv,ay,ac ff.p rfl];have ct:=b6.ext bt;refine bh ao.i rfl rfl ct Ξ λey ca ez dw=>?_;have aD:∀r,r=ah-> ∃e c,af dt r e c/\e≠hb/\e≠cU/\e≠ab/\e≠ao/\e≠aw:=λr J=>by
    subst J;exact⟨_,_,ct,Φ,Φ,Φ,Φ,Φ⟩
   refine b1 _ ⟨W,Y,aj,aE,aU,L,((az.trans aF).trans bt).then ca (λr J he=>by have he:r=ah:=he;omega),?_,(b7.ext bt).aa ca (λr J=>?_),by rw[am];exact aO,(b8.ext bt).aa ca (λr J=>?_),by rw[am];exact aP,aW⟩
   .rw[am];exact dw
   .obtain⟨e,c,X,_,_,_,h1,aS⟩:=aD r J;exact⟨e,c,X,h1,aS⟩
   .obtain⟨e,c,X,h1,aS,aV,bg,_⟩:=aD r J;exact⟨e,c,X,h1,aS,aV,bg⟩
  rw[bk,ae];refine⟨λh1=>?_,λeA=>?_⟩
  .
   obtain⟨v,aQ⟩:∃v,y.sc=[v]:=X9.1 Ω;have eB:=br.scope.1 v (by show v∈y.sc;rw[aQ];exact .head _);have eC:=br.vars v (by show v∈y.sc;rw[aQ];exact .head _);have am:dn f (i+1)={dn f i with unary:=(dn f i).unary.set v.toNat y.cs}:=by rw[b9];unfold hR;simp only[dH,aQ]
   intro eD aR _ _;have cu:=b6.ext aR;have dx:=b4.ext aR;rw[ay,ac ff.p rfl,ad Ψ (cu.Q2 rfl),ac cn.p rfl,ad Ψ (dx.Q0 rfl)];refine qX (y:=0) (i:=0) rfl ai.u ab.i (b5.ls.ext aR) (show y.sc[0]? =σ v by rw[aQ];rfl) λb o dy=>?_;rw[ad Ψ dy];refine (lx (aX.ext aR)).mono ?_;rintro cq dz _ ⟨a8,dA,eE,bu⟩;refine⟨.inl a8,?_⟩;have ba:=(b7.ext aR).ext a8;have eF:aU.length=f.sizes.length:=by have:=congrArg R4 aO;rw[u4] at this;omega
   obtain⟨u,hu⟩:∃u,aU[v.toNat]? =σ u:=⟨_,y0 Ω⟩;rw[cG (i:=v.toNat) Ω dJ.u aw.i ba.1 Ω];let a:kN:=⟨cq,y.cs⟩;refine mB (f:=mH) (j:=0) (a:=u) (a':=a) aw.i bu.ls.cells.1 bu.ls.cells.2 ba.1 hu rfl Ω λeH bb eI dC=>?_;have cw:=cu.ext a8;have a1:∀ {r:Nat},leadsTo W r-> ∃c,af dz r aw c:=λJ=>by
    obtain⟨rfl,c,X⟩:=dm ba.1 J;exact⟨c,X⟩
   refine b1 _ ⟨W,Y,aj,aE,aU.set v.toNat a,L,(((az.trans aF).trans aR).trans a8).then bb (λr J he=>by have:=aW r (.inl he);omega),?_,⟨dC,λz al=>?_⟩,?_,((b8.ext aR).ext a8).aa bb (λr J=>?_),by rw[am];exact aP,aW⟩
   .rw[am];exact cw.aa bb λhe=>cc ba.1 cw Φ he
   .rcases V7 al with al|rfl
    .exact ba.pA bb (λr J=>by obtain⟨c,X⟩:=a1 J;exact⟨_,c,X,Φ⟩) z al
    .exact⟨dA,bc bu bb λr J I=>by
      obtain⟨c,X⟩:=a1 I;exact bX bu X Φ J rfl⟩
   .rw[am,T2,aO]
   .obtain⟨c,X⟩:=a1 J;exact⟨_,c,X,Φ,Φ,Φ,Φ⟩
  .
   have am:dn f (i+1)={dn f i with funs:=(dn f i).funs++[dH y]}:=by
    rw[b9];unfold hR;have cz:2<=(dH y).1.length:=by show 2<=y.sc.length;omega
    generalize dH y=g at cz ⊢;obtain⟨sc,cs⟩:=g
    match sc,cz with
    |_::_::_,_=>rfl
   intro eK aG _ _;have cB:=b6.ext aG;have dD:=b4.ext aG;have cC:=b5.ext aG;rw[ay,ac ff.p rfl,ad Ψ (cB.Q3 rfl),ac cn.p rfl,ad Ψ (dD.Q0 rfl),cW (cs:=#[y.sv,Γ g]) (by obtain⟨_,_,_,e⟩:=bZ b3.ls;rw[e];kernel_rfl)];let a:cA:=⟨y.sv,g,y.sc,y.cs⟩;refine fQ (f:=ep) (a:=a) jG.u hb.i Ω rfl rfl λeL eM bw eN aA dE=>?_;refine⟨.inl aA,?_⟩;have bx:=(b8.ext aG).ext aA;have dF:=(b7.ext aG).ext aA;have cb:=cB.ext aA;have eO:L.length<=256:=by have:=congrArg R4 aP;rw[u4] at this;omega
   refine gh (f:=ep) (a:=a) jG.u hb.i rfl bx.1 (by simpa using dE.sl) (rR (cC.ext aA)) Ω Ω λbQ bR eP ax bS cD=>?_;have cE:=cb.aa cD λhe=>cc bx.1 cb Φ he;rw[ay,ac ff.p rfl];refine bh jG.i (cT ax.sl).1 (cT ax.sl).2 cE Ξ λdG cF eR dI=>?_;have bA:ag (λr=>leadsTo Y r\/r=ah) bw dG:=(cD.mono λr _ h=>.inl h).trans (cF.mono λr _ h=>.inr h);have aD:∀r,(leadsTo Y r\/r=ah)-> ∃e c,af bw r e c/\e≠cU/\e≠ab/\e≠ao/\e≠aw:=λr J=>by
    rcases J with J|rfl
    .obtain⟨rfl,c,X⟩:=dm bx.1 J;exact⟨_,c,X,Φ,Φ,Φ,Φ⟩
    .exact⟨_,_,cb,Φ,Φ,Φ,Φ⟩
   have eS:=(aG.trans aA).size;refine b1 _ ⟨W,bQ,aj,bR,aU,L++[a],(((az.trans aF).trans aG).trans aA).then bA (λr J he=>?_),?_,dF.aa bA (λr J=>?_),by rw[am];exact aO,⟨ax.aa cF λr J he=>?_,λz al=>?_⟩,?_,λr J=>?_⟩
   .rcases he with he|rfl
    .have:=aW r (.inr he);omega
    .omega
   .rw[am];exact dI
   .obtain⟨e,c,X,_,_,aV,bg⟩:=aD r J;exact⟨e,c,X,aV,bg⟩
   .have he:r=ah:=he;subst he;exact cc ax cE Φ J
   .have cH:∀r,(leadsTo Y r\/r=ah)-> ∃e c,af bw r e c/\e≠cU/\e≠ab/\e≠ao:=λr J=>by
     obtain⟨e,c,X,h1,aS,aV,_⟩:=aD r J;exact⟨e,c,X,h1,aS,aV⟩
    rcases n9.1 al with al|al
    .exact (bx.2 z al).aa bA cH
    .rw[j4.1 al];refine lC.aa (w:=bw) ⟨⟨db,cC.ext aA⟩,dj,dk,?_⟩ bA cH;exact (aX.ext aG).ext aA
   .rw[am,Z3,aP];rfl
   .rcases J with J|J
    .exact aW r (.inl J)
    .rcases bS r J with h|h
     .exact aW r (.inr h)
     .omega
theorem uB {z:Array x1} {k:Nat} (I:z.size=k):(l7.zeroCells z n).toList=dw z (n*k):=by
 unfold l7.zeroCells dw;rw[I]
theorem J2 {P:W7} {t J X:r9} {Y kn:o6} {b g k m:Nat} {z:x1} {xs:List x1} {K:x1->x2->Prop} (ay:y=(m:Int)) (al:P.underlying t=σ (.slice e)) (am:P.underlying J=σ (.int kn)) (hi:aO P e k b z) (ab:z.cells.size=k)
  (aS:0<k) (h1:∀u∈dw z.cells (m*k),u.oneCell'=true) (h:bU w g e k v n xs) (az:0<m) (aB:(n+m)*b<=140737488355328) (aC:n+m<=9223372036854775807)
  (an:∀ac aD w',bU w' aD e k ac (n+m) (xs++dw z.cells (m*k))->(∀r,leadsTo ac r->leadsTo v r\/w.heap.size<=r)->ag (λr=>leadsTo v r) w w'->K ac w'):aA P (l9 #[t,J] X #[v,.int Y y]) w K:=by
 subst ay;obtain⟨i,hi,ad,rfl,ao⟩:=hi;obtain⟨ap,hm⟩:=h;have aE:=nr z.cells (m*k);have aF:m*i.bytes<=281474976710656:=by
  have:m*i.bytes<=(n+m)*i.bytes:=Y5 _ Ω;omega
 have grow:∀ (base:Option Addr) (cap:Nat),v= .slice base n cap->(l7.firstCells i.size n (.slice base n cap)).run P w.drew= .ok xs.toArray w.drew->cap<n+m->aA P (l9 #[t,J] X #[v,.int Y (m:Int)]) w K:=λbase cap aG aH I=>by
  subst aG;have ae:=Lib.run_append_grow_zeros (P:=P) w t J X e i z Y kn al am hi ao base n cap xs aH m az Ω I Ω aF (growslice_fits I aB);have aq:n+m<=grownCap w (n+m) cap e:=grownCap_ge w _ _ _;have aI:grownCap w (n+m) cap e<=maxLen:=grownCap_le_maxLen w (n+m) cap e (by simpa[maxLen] using aC);have aT:=nr z.cells ((grownCap w (n+m) cap e-(n+m))*k);have aU:(n+m)*k<=grownCap w (n+m) cap e*k:=Y5 _ aq;have aJ:(n+m)*k=n*k+m*k:=U5 _ _ _;have aV:(grownCap w (n+m) cap e-(n+m))*k=grownCap w (n+m) cap e*k-(n+m)*k:=Nat.sub_mul _ _ _;refine .of ae ((ov w _ (S6 _)).trans (ox _ _)) (an _ w.heap.size _ ⟨by rw[u9];omega,.inr ⟨_,xs++dw z.cells (m*k)++dw z.cells ((grownCap w (n+m) cap e-(n+m))*k),rfl,?_,aq,aI,?_,?_⟩⟩ (λr ah=>?_) (((p4 w _).trans (ow _ _)).aa _))
  .have:=heap_alloc_new w.drew (.cells (xs.toArray++l7.zeroCells z.cells m++l7.zeroCells z.cells (grownCap w (n+m) cap e-(n+m))) e);unfold af;rw[show w.drew.heap.size=w.heap.size from rfl] at this;rw[this];congr 2;apply Array.toList_inj.1;rw[Array.toList_append,Array.toList_append,uB ab,uB ab]
  .rw[u9,u9];omega
  .rw[List.take_append_of_le_length (by rw[u9];omega),l5 (by rw[u9];omega)]
  .obtain⟨a,aK,c,U,V⟩:=ah;cases U;exact .inr (by simp at V;omega)
 rcases hm with⟨rfl,aL⟩|⟨cap,cs,rfl,W,U,V,ai,au⟩
 .subst aL;have:xs=[]:=Z5 (by simpa using ap);subst this;exact grow ν 0 rfl (run_firstCells_none w.drew i.size 0 0 0) Ω
 .by_cases I:n+m<=cap
  .have av:(n+m)*k<=cs.length:=by rw[ai];exact Y5 _ I
   have aJ:(n+m)*k=n*k+m*k:=U5 _ _ _;have aj:=run_storeCells_cells (P:=P) g (0+n*k) (dw z.cells (m*k)) 0 w (λj aw=>by
    rw[aE] at aw;rw[Nat.add_zero,V3,W.cell (y0 (show n*k+j<cs.length by omega))];rfl) (λj _=>W.frozen _ _) h1
   simp only[Nat.add_zero] at aj;have hw:Y6.wrap (m:Int)=m:=by rw[o6.wrap_i64];omega
   have aM:¬((m:Int)<0):=Ω
   have aN:¬(281474976710656<(m:Int)*(i.bytes:Int)):=by rw[<-Int.natCast_mul];omega
   have ak:¬(m*i.size=0):=Nat.mul_ne_zero Ω Ω;have aP:(l7.zeroCells z.cells m).toList=dw z.cells (m*k):=uB ab;have ae:(l9 #[t,J] X #[.slice (σ ⟨g,0,ν⟩) n cap,.int Y (m:Int)]).run P w= .ok (.slice (σ ⟨g,0,ν⟩) (n+m) cap) (w.setCells g (0+n*k) (dw z.cells (m*k))):=by
    simp[l9,run_underlying al,run_underlying am,sizeOf,typeInfo,zeroValue,hi,ao,asInt,asIntOf,hw,I,aM,ak,aN,aP,Addr.add_lit,ad];simp only[V3] at aj;rw[aj];simp;intro aQ;exact absurd aQ (by rw[ad] at ak;exact ak)
   obtain⟨aR,ax⟩:=md (dw z.cells (m*k)) cs (0+n*k) w W;refine .of ae (ax.dv W) (an _ g _ ⟨by rw[u9];omega,.inr ⟨cap,_,rfl,aR,I,V,by rw[kA,ai],?_⟩⟩ (λr ah=>.inl ?_) (ax.aa.mono λr _ he=>⟨_,_,_,rfl,he.symm⟩))
   .rw[rq Ω av,ll (by rw[o4];omega),V3,List.take_take,List.drop_eq_nil_of_le (by rw[o4];omega),X6,T7 Ω,au]
   .obtain⟨a,aK,c,U,V⟩:=ah;cases U;exact⟨_,_,_,rfl,V⟩
  .refine grow _ cap rfl ?_ Ω;have av:n*k<=cs.length:=by rw[ai];exact Y5 _ U
   refine run_firstCells_some w.drew i.size n _ n cap xs (by rw[ad];exact ap) λj u hu=>?_;rw[U7,V3];have aw:=(x4.1 hu).1;rw[<-au,Y2 Ω] at hu;exact W.cell hu
def fT (c:Cell):List x1:=[Δ c.v,.int .u64 (c.st:Int)]
def hS (o:jd):List x1:=[Δ (o.i:Int),Δ o.c.v,.int .u64 (o.c.st:Int)]
def gU (m:mn):List x1:=[Δ (m.olds:Int),Δ (m.cells:Int),.int .u64 (m.st:Int)]
def cI (w:x2) (ah:Nat) (A:aj) (t:aD):Prop:=A ah/\ ∃J go ba aL I bV,af w ah cH [aL,I,bV,.int .u64 (t.ever:Int)]/\a6 fT 2 dE w J aL t.cells/\a6 hS 3 fg w go I t.olds/\a6 gU 3 dr w ba bV t.marks/\
 ∀r,leadsTo aL r\/leadsTo I r\/leadsTo bV r->A r
theorem cI.aa {S A:aj} {t:aD} (h:cI w ah A t) (J:ag S w w') (U:∀r,A r->¬S r):cI w' ah A t:=by
 obtain⟨W,X,go,ba,aL,Y,bV,h1,ab,ac,ad,V⟩:=h;exact⟨W,X,go,ba,aL,Y,bV,h1.aa J (U _ W),ab.aa J λr I=>U r (V r (.inl I)),ac.aa J λr I=>U r (V r (.inr (.inl I))),ad.aa J λr I=>U r (V r (.inr (.inr I))),V⟩
theorem cI.ext {A:aj} {t:aD} (h:cI w ah A t) (I:Ext w w'):cI w' ah A t:=h.aa (I.aa λ_=>False) λ_ _ h=>h
theorem cI.mono {A B:aj} {t:aD} (h:cI w ah A t) (I:∀r,A r->B r):cI w ah B t:=by
 obtain⟨J,U,go,ba,aL,V,bV,h1,W,X,Y,aa⟩:=h;exact⟨I _ J,U,go,ba,aL,V,bV,h1,W,X,Y,λr ab=>I r (aa r ab)⟩
def Grow (A:aj) (w:x2) (I:aj) (w':x2):Prop:=ag A w w'/\(∀r,I r->A r\/w.heap.size<=r)/\ ∀r,A r->I r
theorem Grow.refl (A:aj) (w:x2):Grow A w A w:=⟨ag.refl _ _,λ_ h=>.inl h,λ_ h=>h⟩
theorem Grow.ext {A:aj} (h:Ext w w'):Grow A w A w':=⟨h.aa _,λ_ h=>.inl h,λ_ h=>h⟩
theorem Grow.trans {A U V:aj} {W:x2} (h:Grow A w U w') (k:Grow U w' V W):Grow A w V W:=
 ⟨⟨Y9 h.1.size k.1.size,λr o J I X=>k.1.a7 r o (h.1.a7 r o J I X) I λY=>(h.2.1 r Y).elim X λaa=>by
  have:=(j6.1 J).1;omega⟩,λr J=>by
  rcases k.2.1 r J with h1|h1
  .exact h.2.1 r h1
  .have:=h.1.size;exact .inr Ω,λr J=>k.2.2 r (h.2.2 r J)⟩
theorem AP {A:aj} {t:aD} (h:cI w ah A t):ak x3 EJ [Γ ah] w λv w'=>v=Δ (t.cells.length:Int)/\Ext w w':=by
 obtain⟨J,U,go,ba,aL,V,bV,h1,I,W,X,Y⟩:=h;refine aB func225 ?_;rw[cC i7.u];simp only[Z0,aS];rw[ay,ac cH.p rfl,ad Ψ (h1.Q0 rfl),c9 fN.u I];exact⟨rfl,Ext.refl _⟩
theorem AQ {A:aj} {t:aD} {i:Int} (h:cI w ah A t):ak x3 D7 [Γ ah,Δ i] w λv w'=>v= .bool (decide (0<=i/\i<t.cells.length))/\Ext w w':=by
 refine aB func166 ?_;refine aQ (λv U=>v= .bool (decide (0<=i/\i<t.cells.length))/\Ext w U) (λ_ _ h=>h) ?_;intro W I;rw[ce,ae];refine⟨λJ=>?_,λJ=>I _ _ ⟨by rw[decide_eq_false];omega,Ext.refl _⟩⟩;refine (AP h).mono ?_;rintro _ U _ ⟨rfl,V⟩;rw[aq];refine I _ _ ⟨?_,V⟩;congr 1;rw[V8,decide_eq_true_eq,decide_eq_true_eq];exact⟨λh=>⟨Ω,h⟩,λh=>h.2⟩
theorem J3 {A:aj} {t:aD} {i:Nat} {c:Cell} (h:cI w ah A t) (W:y=(i:Int)) (I:t.cells[i]? =σ c):ak x3 wV [Γ ah,Δ y] w λv w'=>v=Δ c.v/\Ext w w':=by
 have X:=(x4.1 I).1;refine aB func74 ?_;refine (AQ h).mono ?_;rintro _ U _ ⟨rfl,J⟩;rw[decide_eq_true Ω,bf,Y1,aS];obtain⟨Y,aa,go,ba,aL,ab,bV,h1,V,ae,af,ag⟩:=h.ext J;rw[ay,ac cH.p rfl,ad Ψ (h1.Q0 rfl),cG W fN.u dE.i V X,ac dE.p rfl,ad Ψ (V.range I 0 _ rfl)];exact⟨rfl,J⟩
theorem jY {A:aj} {t:aD} {i:Nat} {x:Int} (h:cI w ah A t) (J:y=(i:Int)) (I:t.bT[i]? =σ x):ak x3 wV [Γ ah,Δ y] w λv w'=>v=Δ x/\Ext w w':=by
 unfold aD.bT at I;rw[x8] at I;obtain⟨c,U,rfl⟩:=X0.1 I;exact J3 h J U
def iI (t:aD):Prop:=t.cells.length<=100000000/\t.olds.length<=100000000/\t.marks.length<=100000000
theorem n2 {Y go ba:Nat} {aL I bV:x1} {t:aD} {x:x1} (h1:af w ah cH [aL,I,bV,x]) (U:a6 fT 2 dE w Y aL t.cells) (V:a6 hS 3 fg w go I t.olds) (W:a6 gU 3 dr w ba bV t.marks):
  (¬leadsTo aL ah/\¬leadsTo I ah/\¬leadsTo bV ah)/\(∀r,leadsTo aL r->¬leadsTo I r/\¬leadsTo bV r)/\ ∀r,leadsTo I r->¬leadsTo aL r/\¬leadsTo bV r:=by
 refine⟨⟨cc U h1 Φ,cc V h1 Φ,cc W h1 Φ⟩,λr X=>?_,λr X=>?_⟩
 .obtain⟨rfl,c,J⟩:=dm U X;exact⟨cc V J Φ,cc W J Φ⟩
 .obtain⟨rfl,c,J⟩:=dm V X;exact⟨cc U J Φ,cc W J Φ⟩
theorem pB {A:aj} {t:aD} {i:Nat} {x:Int} (h:cI w ah A t) (bM:y=(i:Int)) (aF:i<t.cells.length) (aZ:iI t):ak x3 wU [Γ ah,Δ y,Δ x] w λv w'=>v=Δ 0/\ ∃W,Grow A w W w'/\cI w' ah W (t.set i x):=by
 subst bM;obtain⟨c,ap⟩:∃c,t.cells[i]? =σ c:=⟨_,y0 aF⟩;refine aB func73 ?_;rw[cC i7.u];simp only[Z0,aS];refine (AQ h).mono ?_;rintro _ U _ ⟨rfl,ax⟩;rw[decide_eq_true Ω,bf,Y1,aS];obtain⟨bq,az,go,ba,aL,aG,bV,h1,br,a1,aO,aP⟩:=id (h.ext ax);have bN:∀ {V:x2} {W:aj} {Y:aD} {st:Nat} {K:x2->Prop},cI V ah W Y->Y.cells[i]? =σ ⟨c.v,st⟩->
   (∀X,ag W V X->cI X ah W {Y with cells:=Y.cells.set i ⟨x,st⟩}->K X)->
   (J x3 (aY (Γ ah)) V λt77=>
   J x3 (x7 cH t77 0) V λbO=>
   J x3 (x6 fN bO) V λbP=>
   J x3 (n0 fN bP (Δ (i:Int))) V λbQ=>
   J x3 (x7 dE bQ 0) V λbS=>
   aA x3 (o5 ao bS (Δ x)) V λ(_:Unit) X=>
   K X):=by
  intro V W Y st K a2 aR bT;obtain⟨a7,az,go,ba,aL,aG,bV,au,av,aH,aI,aJ⟩:=a2;have bU:=(x4.1 aR).1;rw[ay,ac cH.p rfl,ad Ψ (au.Q0 rfl),cG rfl fN.u dE.i av bU,ac dE.p rfl];obtain⟨⟨aK,a8,bb⟩,aw,_⟩:=n2 au av aH aI;refine mB (f:=fT) (j:=0) (a:=⟨c.v,st⟩) (a':=⟨x,st⟩) ao.i rfl rfl av aR rfl Ω λX al bW bX=>?_;exact bT X (al.mono λr _ I=>aJ r (.inl I)) ⟨a7,az,go,ba,aL,aG,bV,au.aa al aK,bX,aH.aa al λr I he=>(aw r he).1 I,aI.aa al λr I he=>(aw r he).2 I,aJ⟩
 refine di (λV=>∃W Y st,Grow A U W V/\cI V ah W Y/\Y.cells[i]? =σ ⟨c.v,st⟩/\t.set i x={Y with cells:=Y.cells.set i ⟨x,st⟩}) ?_ ?_
 .rintro V ⟨W,Y,st,bY,a2,aR,bc⟩;refine bN a2 aR λX al a1=>⟨by trivial,W,?_,by rw[bc];exact a1⟩;exact (Grow.ext ax).trans (bY.trans ⟨al,λ_ h=>.inl h,λ_ h=>h⟩)
 intro cj bd;rw[ay,ac cH.p rfl,ad Ψ (h1.Q2 rfl),c9 hz.u aO,bR,ae];have bt:∀ (hm:t.marks.getLast? =ν\/ ∃m,t.marks.getLast? =σ m/\¬(c.st<m.st/\i<m.cells)),t.set i x={t with cells:=t.cells.set i ⟨x,c.st⟩}:=λhm=>by
  unfold aD.set;rw[ap];rcases hm with hm|⟨m,hm,bZ⟩
  .simp only[hm]
  .simp only[hm];rw[if_neg bZ]
 refine⟨λck=>?_,λcl=>bd _ ⟨A,t,c.st,Grow.refl _ _,h.ext ax,ap,bt (.inl ?_)⟩⟩
 rotate_left
 .rw[List.getLast?_eq_none_iff];exact Z5 Ω
 obtain⟨m,hm⟩:∃m,t.marks[t.marks.length-1]? =σ m:=⟨_,y0 Ω⟩;have bu:t.marks.getLast? =σ m:=by rw[List.getLast?_eq_getElem?];exact hm
 have cm:=aZ.2.2;rw[ay,ac cH.p rfl,ad Ψ (h1.Q2 rfl),c3,wrap_i64 Ω Ω,cG (i:=t.marks.length-1) Ω hz.u dr.i aO Ω,bn dr.p dr.i rfl (aO.range hm)];refine bp dr.i λan V cn bw b0=>?_;refine bH (vs:=gU m) dr.i rfl rfl (by intro v aM;simp[gU] at aM;rcases aM with rfl|rfl|rfl<;>rfl) b0 λX al bW b1=>?_;have bx:Ext U X:=bw.then al (λr I he=>by have he:r=an:=he;omega);have aT:∀ {w':x2},Ext X w'->af w' an dr (gU m):=λax=>b1.ext ax;refine aQ (λv be=>v= .bool (decide (c.st<m.st/\i<m.cells))/\Ext X be) ?_ ?_
 rotate_left
 .intro cp bz;intro be ab _ _;have aC:=bx.trans ab;have bA:=aT ab;have aE:=br.ext aC;rw[ay,ac cH.p rfl,ad Ψ ((h1.ext aC).Q0 rfl),cG rfl fN.u dE.i aE aF,ac dE.p rfl,ad Ψ (aE.range ap 1 _ rfl),ac dr.p rfl,ad Ψ (bA.Q2 rfl),aq,ae];refine⟨λbB=>?_,λbC=>bz _ _ ⟨by rw[decide_eq_false];omega,ab⟩⟩;rw[ac dr.p rfl,ad Ψ (bA.Q1 rfl),aq];refine bz _ _ ⟨?_,ab⟩;congr 1;rw[V8,decide_eq_true_eq,decide_eq_true_eq];exact⟨λh=>⟨Ω,Ω⟩,λh=>Ω⟩
 rintro _ be ⟨rfl,ab⟩;have aC:=bx.trans ab;rw[ae];refine⟨λbB=>?_,λbC=>bd _ ⟨A,t,c.st,Grow.ext aC,(h.ext ax).ext aC,ap,bt (.inr ⟨m,bu,bC⟩)⟩⟩;intro cq aU _ _;have aN:=aC.trans aU;have bg:=h1.ext aN;have aE:=br.ext aN;have b2:=a1.ext aN;have b3:=aO.ext aN;rw[ay,ac cH.p rfl,ad Ψ (bg.Q1 rfl),ay,ac cH.p rfl,ad Ψ (bg.Q0 rfl),cG rfl fN.u dE.i aE aF,bn dE.p dE.i rfl (aE.range ap)];rw[cW (cs:=#[Δ (i:Int),Δ c.v,.int .u64 (c.st:Int)]) Ψ];let a:jd:=⟨i,c⟩;have b4:∀u∈hS a,u.oneCell'=true:=by intro v aM;simp[hS] at aM;rcases aM with rfl|rfl|rfl<;>rfl
 refine fQ (f:=hS) (a:=a) gv.u fg.i Ω rfl rfl λcr ct bD cu ai b5=>?_;refine⟨.inl ai,?_⟩;have bE:=aN.trans ai;have bi:=bg.ext ai;have bF:=aE.ext ai;have bj:=b2.ext ai;have bG:=b3.ext ai;obtain⟨⟨aK,a8,bb⟩,aw,b6⟩:=n2 bi bF bj bG;refine gh (f:=hS) (a:=a) gv.u fg.i rfl bj (by simpa using b5.sl) b4 (by have:=aZ.2.1;omega) (by have:=aZ.2.1;omega) λbk bI cw aV b7 bJ=>?_;rw[ay,ac cH.p rfl];have bK:=bi.aa bJ a8;refine bh gv.i (cT aV.sl).1 (cT aV.sl).2 bK Ξ λam bL cz bl=>?_;have bl:af am ah cH [aL,bk,bV,.int .u64 (t.ever:Int)]:=bl;have aW:ag (λr=>leadsTo aG r\/r=ah) bD am:=(bJ.mono λr _ h=>.inl h).trans (bL.mono λr _ h=>.inr h);have b8:a6 fT 2 dE am az aL t.cells:=bF.aa aW λr I he=>he.elim (λhe=>(aw r I).1 he) λhe=>aK (he▸I);have b9:a6 gU 3 dr am ba bV t.marks:=bG.aa aW λr I he=>he.elim (λhe=>(b6 r he).2 I) λhe=>bb (he▸I);have ca:a6 hS 3 fg am bI bk (t.olds++[a]):=aV.aa bL λr I he=>by
  have he:r=ah:=he;subst he;exact cc aV bK Φ I
 have cA:=bE.size;have cB:=bw.size;let bm:aj:=λr=>A r\/bD.heap.size<=r;have cb:Grow A U bm am:=⟨(bE.aa A).trans (aW.mono λr _ he=>he.elim (λhe=>aP r (.inr (.inl he))) λhe=>he▸bq),λr I=>I.imp id λI=>Ω,λr I=>.inl I⟩;have cd:cI am ah bm {t with olds:=t.olds++[a]}:=⟨.inl bq,az,bI,ba,aL,bk,bV,bl,b8,ca,b9,λr I=>by
  rcases I with I|I|I
  .exact .inl (aP r (.inl I))
  .rcases b7 r I with h|h
   .exact .inl (aP r (.inr (.inl h)))
   .exact .inr h
  .exact .inl (aP r (.inr (.inr I)))⟩
 have ce:af am an dr (gU m):=(aT ((ab.trans aU).trans ai)).aa aW λhe=>by
  rcases he with he|he
  .obtain⟨rfl,cD,cg⟩:=dm bj he;exact absurd (dP cg (aT ((ab.trans aU).trans ai))) Φ
  .subst he;exact absurd (dP bi (aT ((ab.trans aU).trans ai))) Φ
 intro cE bo _ _;have ch:=cd.ext bo;obtain⟨a7,az,go,ba,aL,aG,bV,au,av,aH,aI,aJ⟩:=ch;rw[ay,ac cH.p rfl,ad Ψ (au.Q0 rfl),ac dr.p rfl,ad Ψ ((ce.ext bo).Q2 rfl),cG rfl fN.u dE.i av aF,ac dE.p rfl];obtain⟨⟨aK,a8,bb⟩,aw,_⟩:=n2 au av aH aI;refine mB (f:=fT) (j:=1) (a:=c) (a':=⟨c.v,m.st⟩) ew.i rfl rfl av ap rfl Ω λcF aX cJ ci=>?_;have bc:t.set i x={t with olds:=t.olds++[a],cells:=t.cells.set i ⟨x,m.st⟩}:=by
  unfold aD.set;rw[ap];simp only[bu];rw[if_pos bB]
 refine bd _ ⟨bm,{t with olds:=t.olds++[a],cells:=t.cells.set i ⟨c.v,m.st⟩},m.st,cb.trans ((Grow.ext bo).trans ⟨aX.mono λr _ I=>aJ r (.inl I),λ_ h=>.inl h,λ_ h=>h⟩),⟨a7,az,go,ba,aL,aG,bV,au.aa aX aK,ci,aH.aa aX λr I he=>(aw r he).1 I,aI.aa aX λr I he=>(aw r he).2 I,aJ⟩,?_,?_⟩
 .show (t.cells.set i _)[i]? =_;rw[V9 aF]
 .rw[bc];simp only[List.set_set]
theorem AR (n:Nat):dw (#[Δ 0,.int .u64 0]:Array x1) (n*2)=(o7 n (⟨0,0⟩:Cell)).flatMap fT:=by
 have:∀n,dw (#[Δ 0,.int .u64 0]:Array x1) (n*2)=(o7 n (⟨0,0⟩:Cell)).flatMap fT:=by
  intro n;apply X8;intro j;have V:((o7 n (⟨0,0⟩:Cell)).flatMap fT).length=n*2:=by simp[fT]
  by_cases J:j<n*2
  .have U:(dw (#[Δ 0,.int .u64 0]:Array x1) (n*2))[j]? =σ (if j % 2=0 then Δ 0 else .int .u64 0):=by
    unfold dw;rw[S4,Array.getElem?_map,Array.getElem?_range,if_pos J];rcases Nat.mod_two_eq_zero_or_one j with h|h<;>simp[h]
   have I:=mA (f:=fT) (k:=2) (L:=o7 n (⟨0,0⟩:Cell)) (i:=j / 2) (j:=j % 2) (a:=⟨0,0⟩) (v:=if j % 2=0 then Δ 0 else .int .u64 0) (λa _=>rfl) (by rw[List.getElem?_replicate,if_pos Ω]) (by rcases Nat.mod_two_eq_zero_or_one j with h|h<;>simp[h,fT]);rw[show j / 2*2+j % 2=j by omega] at I;rw[U,I]
  .rw[Y4 (by rw[nr];omega),Y4 Ω]
 exact this n
theorem J4 {A:aj} {t:aD} (h:cI w ah A t) (aH:iI t) (aO:n<=100000000):ak x3 Em [Γ ah,Δ (n:Int)] w λv w'=>v=Δ (t.cells.length:Int)/\ ∃J,Grow A w J w'/\cI w' ah J (t.grow n):=by
 refine aB func192 ?_;refine (AP h).mono ?_;rintro _ U _ ⟨rfl,W⟩;refine di (λV=>∃J,Grow A w J V/\cI V ah J (t.grow n)) (λV h=>⟨rfl,h⟩) ?_;intro aP an;refine aQ (λv V=>v= .bool (decide (0<n))/\U=V) ?_ ?_
 rotate_left
 .intro aR aI;rw[xu i7.u];simp only[Z0,X5,bQ];rw[bR];refine aI _ _ ⟨?_,rfl⟩;congr 1;rw[V8,decide_eq_true_eq,decide_eq_true_eq];omega
 rintro _ _ ⟨rfl,rfl⟩;rw[ae];refine⟨λao=>?_,λao=>an _ ⟨A,Grow.ext W,?_⟩⟩
 rotate_left
 .have:n=0:=Ω
  subst this;have e:t.grow 0=t:=by unfold aD.grow;simp
  rw[e];exact h.ext W
 obtain⟨ap,aS,go,ba,aL,aq,bV,h1,au,av,aw,X⟩:=id (h.ext W);rw[ay,ac cH.p rfl,ad Ψ (h1.Q0 rfl)];obtain⟨⟨aJ,aK,aM⟩,ax,aT⟩:=n2 h1 au av aw;have aU:=aH.1;refine J2 (k:=2) (m:=n) rfl fN.u ab.u dE.i rfl Ω (λu hu=>?_) au.1 ao Ω Ω λai az V aA aN aC=>?_
 .exact AB Φ Φ u hu
 rw[ay,ac cH.p rfl];have Y:a6 fT 2 dE V az ai (t.cells++o7 n ⟨0,0⟩):=by
  refine⟨?_,λ_ _=>rfl⟩;have e:(x1.agg #[Δ 0,.int .u64 0]).cells= #[Δ 0,.int .u64 0]:=rfl;rw[e,AR] at aA;rw[u9,List.length_replicate,List.flatMap_append];exact aA
 have aE:=h1.aa aC aJ;refine bh fN.i (cT Y.sl).1 (cT Y.sl).2 aE Ξ λaF aG aV al=>?_;have al:af aF ah cH [ai,aq,bV,.int .u64 (t.ever:Int)]:=al;have am:ag (λr=>leadsTo aL r\/r=ah) U aF:=(aC.mono λr _ h=>.inl h).trans (aG.mono λr _ h=>.inr h);have z:=W.size;refine an _ ⟨λr=>A r\/U.heap.size<=r,(Grow.ext W).trans ⟨am.mono λr _ he=>he.elim (λhe=>X r (.inl he)) λhe=>he▸ap,λr I=>I,λr I=>.inl I⟩,.inl ap,az,go,ba,ai,aq,bV,al,Y.aa aG λr I he=>?_,av.aa am λr I he=>he.elim (λhe=>(ax r he).1 I) λhe=>aK (he▸I),aw.aa am λr I he=>he.elim (λhe=>(ax r he).2 I) λhe=>aM (he▸I),λr I=>?_⟩
 .have he:r=ah:=he;subst he;exact cc Y aE Φ I
 .rcases I with I|I|I
  .exact (aN r I).imp (λh=>X r (.inl h)) id
  .exact .inl (X r (.inr (.inl I)))
  .exact .inl (X r (.inr (.inr I)))
theorem J5 (ab:n<=1000):ak x3 DO [Δ (n:Int)] w λv w'=>Ext w w'/\ ∃ah,v=Γ ah/\cI w' ah (eA w.heap.size) ⟨o7 n ⟨0,0⟩,[],[],0⟩:=by
 refine aB func127 ?_;rw[qO,Int.max_eq_left Ω];refine xB (k:=2) fN.u dE.i Ω Ω λg U ac W J=>?_;rw[cW (cs:=#[.slice (σ ⟨g,0,ν⟩) n n,.slice ν 0 0,.slice ν 0 0,.int .u64 0]) Ψ];refine bN λah V ad X aa=>?_;have ae:=W.size;have e:(x1.agg #[Δ 0,.int .u64 0]).cells= #[Δ 0,.int .u64 0]:=rfl;have J:af U g dE ((o7 n (⟨0,0⟩:Cell)).flatMap fT):=by rw[<-AR,<-e];exact J
 have Y:a6 fT 2 dE U g (.slice (σ ⟨g,0,ν⟩) n n) (o7 n ⟨0,0⟩):=by
  refine⟨?_,λ_ _=>rfl⟩;rw[List.length_replicate];exact bU.full J (by simp[fT]) (by simp[maxLen];omega)
 refine⟨W.trans X,ah,rfl,by show w.heap.size<=ah;omega,g,0,0,_,_,_,aa,Y.ext X,a6.nil _ _ _ _ _,a6.nil _ _ _ _ _,λr I=>?_⟩;rcases I with I|I|I
 .have:=(Y.leads I).1;show w.heap.size<=r;omega
 .exact (eJ I).elim
 .exact (eJ I).elim
theorem mf {α β:Type} {f:α->List β}:∀ {L:List α} {i j:Nat} {a:α},L[i]? =σ a->j<(f a).length->(L.flatMap f)[((L.take i).flatMap f).length+j]? =(f a)[j]?
 |x::L,0,j,a,h,I=>by
  cases h;rw[List.take_zero,List.flatMap_nil,List.length_nil,V3,V5,j9 I]
 |x::L,i+1,j,a,h,I=>by
  have h:L[i]? =σ a:=by simpa using h
  rw[List.take_succ_cons,V5,V5,u9,S8,Z2 Ω,R3,mf h I]
theorem uC {α β:Type} {f:α->List β}:∀ {L:List α} {i j:Nat} {a b:α} {x:β},L[i]? =σ a->j<(f a).length->f b=(f a).set j x->(L.flatMap f).set (((L.take i).flatMap f).length+j) x=(L.set i b).flatMap f
 |y::L,0,j,a,b,x,h,I,J=>by
  cases h;rw[List.take_zero,List.flatMap_nil,List.length_nil,V3,V5,List.set_cons_zero,V5,J,List.set_append_left _ _ I]
 |y::L,i+1,j,a,b,x,h,I,J=>by
  have h:L[i]? =σ a:=by simpa using h
  rw[List.take_succ_cons,V5,V5,u9,S8,U9 _ _ Ω,R3,uC h I J,List.set_cons_succ,V5]
theorem AS {α β:Type} {f:α->List β} {L:List α} {i:Nat} {a:α} (h:L[i]? =σ a) (I:j<(f a).length):((L.take i).flatMap f).length+j<(L.flatMap f).length:=by
 have h1:=mf (f:=f) h I;rw[y0 I] at h1;exact (x4.1 h1).1
structure e9 where
 gone:Int
 mask:Int
 un:Λ
structure et where
 sc:Λ
 szs:Λ
 live:Int
 cs:Λ
structure hp where
 v:Int
 sc:Λ
 ea:Λ
structure aF where
 zero:Int
 vars:List e9
 funs:List et
 elims:List hp
def gE (x:e9):Λ:=x.gone::x.mask::x.un
def fU (x:et):Λ:=x.live::x.cs
def hq (s:aF):Λ:=[s.zero,(s.funs.length:Int),(s.elims.length:Int)]
def aF.cells (s:aF):Λ:=hq s++(s.vars.flatMap gE++s.funs.flatMap fU)
def eM (s:aF) (i:Nat):Nat:=3+((s.vars.take i).flatMap gE).length
def eb (s:aF) (j:Nat):Nat:=3+((s.vars.flatMap gE).length+((s.funs.take j).flatMap fU).length)
theorem J6 (s:aF):s.cells[0]? =σ s.zero:=rfl
theorem J7 (s:aF):s.cells[1]? =σ (s.funs.length:Int):=rfl
theorem J8 (s:aF):s.cells[2]? =σ (s.elims.length:Int):=rfl
theorem n3 {s:aF} {i:Nat} {x:e9} (h:s.vars[i]? =σ x) (J:j<x.un.length+2):s.cells[eM s i+j]? =(gE x)[j]?:=by
 have I:j<(gE x).length:=J;unfold aF.cells eM;rw[S8,Z2 (by simp[hq]),show (hq s).length=3 from rfl,R3,j9 (AS h I),mf h I]
theorem uD {s:aF} {i:Nat} {x:et} (h:s.funs[i]? =σ x) (I:j<x.cs.length+1):s.cells[eb s i+j]? =(fU x)[j]?:=by
 have J:j<(fU x).length:=I;unfold aF.cells eb;rw[S8,S8,Z2 (by simp[hq]),show (hq s).length=3 from rfl,R3,Z2 Ω,R3,mf h J]
theorem J9 (s:aF) (c:Int):s.cells.set 0 c=({s with zero:=c}:aF).cells:=rfl
theorem uE {s:aF} {i:Nat} {x y:e9} {c:Int} (h:s.vars[i]? =σ x) (J:j<x.un.length+2) (U:gE y=(gE x).set j c):s.cells.set (eM s i+j) c=({s with vars:=s.vars.set i y}:aF).cells:=by
 have I:j<(gE x).length:=J;unfold aF.cells eM;rw[S8,U9 _ _ (by simp[hq]),show (hq s).length=3 from rfl,R3,List.set_append_left _ _ (AS h I),uC h I U];rfl
theorem AT {s:aF} {i:Nat} {x y:et} {c:Int} (h:s.funs[i]? =σ x) (I:j<x.cs.length+1) (J:fU y=(fU x).set j c):s.cells.set (eb s i+j) c=({s with funs:=s.funs.set i y}:aF).cells:=by
 have U:j<(fU x).length:=I;unfold aF.cells eb;rw[S8,S8,U9 _ _ (by simp[hq]),show (hq s).length=3 from rfl,R3,U9 _ _ Ω,R3,uC h U J];show _=hq {s with funs:=s.funs.set i y}++_;unfold hq;rw[X2]
theorem Ka {s:aF} (x:et):(s.cells++fU x).set 1 ((s.funs.length+1:Nat):Int)=({s with funs:=s.funs++[x]}:aF).cells:=by
 unfold aF.cells;simp only[List.flatMap_append,List.flatMap_singleton,hq,u9,U2,X1];rfl
theorem Kb {s:aF} (e:hp):s.cells.set 2 ((s.elims.length+1:Nat):Int)=({s with elims:=s.elims++[e]}:aF).cells:=by
 unfold aF.cells;simp only[hq,u9,U2];rfl
theorem pC (s:aF):s.cells.length=3+((s.vars.flatMap gE).length+(s.funs.flatMap fU).length):=by
 unfold aF.cells;rw[u9,u9];rfl
def kP (a sc:Λ):Λ:=sc.map λv=>a.getD v.toNat 0
def mI (k:Int) (I:Int) (p:e9×Int):Int:=if p.1.gone≠0 then I else min (I+p.1.un.getD p.2.toNat 0) k
def kQ (k:Int) (a:Λ) (I:Int) (f:et):Int:=if f.live≠0 then min (I+cM f.szs f.cs (kP a f.sc)) k else I
def dropped (mask:Int) (v:Int):Bool:=mask.toNat.testBit v.toNat
def iJ (p:e9×Int):Bool:=decide (p.1.gone≠0)|| !dropped p.1.mask p.2
def n4 (k:Int) (s:aF) (a:Λ):Int:=if (s.vars.zip a).all iJ then s.funs.foldl (kQ k a) ((s.vars.zip a).foldl (mI k) s.zero) else k
def pD (s:aF) (a:Λ):Prop:=a.length=s.vars.length/\ ∀ (i:Nat) x v,s.vars[i]? =σ x->a[i]? =σ v->x.gone≠0\/(0<=v/\v<x.un.length)
structure eB (k:Int) (sizes:Λ) (s:aF):Prop where
 jZ:1<=k/\k<=2147483648
 eu:1<=sizes.length/\sizes.length<=64/\ ∀z∈sizes,1<=z/\z<=32
 zero:0<=s.zero/\s.zero<=k
 vars:s.vars.length=sizes.length
 var:∀ (i:Nat) x z,s.vars[i]? =σ x->sizes[i]? =σ z->x.un.length=z.toNat/\(∀c∈x.un,0<=c/\c<=k)/\0<=x.mask/\x.mask<4294967296
 funs:∀f∈s.funs,e6 sizes k (f.sc,f.cs)/\f.szs=bF sizes f.sc/\2<=f.sc.length
def newVar (u:Λ):e9:=⟨0,0,u⟩
def jm (sizes:Λ) (g:cw):et:=⟨g.1,bF sizes g.1,1,g.2⟩
def cV (n:aV):aF:=⟨n.zero,n.unary.map newVar,n.funs.map (jm n.sizes),[]⟩
theorem uF {n:aV} (h:ig n):eB n.k n.sizes (cV n):=by
 refine⟨h.k,h.sizes,h.zero,by simp[cV,h.jl],λi x z I U=>?_,λf V=>?_⟩
 .have I:(n.unary.map newVar)[i]? =σ x:=I;rw[x8] at I;obtain⟨u,hu,rfl⟩:=X0.1 I;obtain⟨h1,J⟩:=h.unary i z u U hu;exact⟨h1,J,Int.le_refl _,by show (0:Int)<_;omega⟩
 .obtain⟨g,W,rfl⟩:=Z1.1 V;obtain⟨h1,J⟩:=h.funs g W;exact⟨h1,rfl,J⟩
theorem uG {n:aV} (h:e8 w I n):ak x3 DQ [Γ I] w λv w'=>v=Δ (n.sizes.length:Int)/\Ext w w':=by
 obtain⟨V,W,X,Y,aa,aU,L,ab,av,ae,af,h1,J,U,ag,ah,aj,al⟩:=h;refine aB func129 ?_;rw[cC lg.u];simp only[Z0,aS];rw[ay,ac ff.p rfl,ad Ψ (h1.Q0 rfl),ay,ac cr.p rfl,ad Ψ (J.Q2 rfl),aT ai.u U.ls];exact⟨rfl,Ext.refl _⟩
theorem Kc {n:aV} (h:e8 w I n):ak x3 D0 [Γ I] w λv w'=>v=Δ n.k/\Ext w w':=by
 obtain⟨U,V,W,X,Y,aU,L,aa,av,ab,ae,h1,J,af,ag,ah,ai,aj⟩:=h;refine aB func145 ?_;rw[cC lg.u];simp only[Z0,aS];rw[ay,ac ff.p rfl,ad Ψ (h1.Q0 rfl),ay,ac cr.p rfl,ad Ψ (J.Q1 rfl)];exact⟨rfl,Ext.refl _⟩
theorem Kd {n:aV} (h:e8 w I n):ak x3 DP [Γ I] w λv w'=>v=Δ n.zero/\Ext w w':=by
 obtain⟨J,U,V,W,X,aU,L,Y,av,aa,ab,h1,ae,af,ag,ah,ai,aj⟩:=h;refine aB func128 ?_;rw[cC lg.u];simp only[Z0,aS];rw[ay,ac ff.p rfl,ad Ψ (h1.Q1 rfl)];exact⟨rfl,Ext.refl _⟩
theorem AU {n:aV} (h:e8 w I n):ak x3 w5 [Γ I] w λv w'=>v=Δ (n.funs.length:Int)/\Ext w w':=by
 obtain⟨V,W,X,Y,aa,aU,L,ab,av,ae,af,h1,ag,ah,ai,aj,J,U⟩:=h;refine aB func132 ?_;rw[cC lg.u];simp only[Z0,aS];rw[ay,ac ff.p rfl,ad Ψ (h1.Q3 rfl),c9 jG.u J.1];exact⟨by rw[<-U,u4],Ext.refl _⟩
theorem AV {aa:Nat} {n:aV} {i:Int} (h:e8 w aa n) (J:ig n):ak x3 DR [Γ aa,Δ i] w λv w'=>Ext w w'/\(¬(0<=i/\i<n.sizes.length)->v= .slice ν 0 0)/\
  ∀u,0<=i->n.unary[i.toNat]? =σ u-> ∃g,w.heap.size<=g/\au .i64 ao w' g v u:=by
 refine aB func130 ?_;have ap:=J.jl;refine aQ (λv U=>v= .bool (decide (¬(0<=i/\i<n.sizes.length)))/\Ext w U) ?_ ?_
 .rintro _ U ⟨rfl,I⟩;rw[ae];refine⟨λai=>⟨I,λ_=>rfl,λu aj hu=>?_⟩,λW=>?_⟩
  .have:=(x4.1 hu).1;exact absurd ⟨aj,Ω⟩ ai
  have W:0<=i/\i<n.sizes.length:=X4.1 W;obtain⟨ax,az,aA,aC,aD,aU,L,aE,av,aF,aG,h1,aH,aI,X,ab,aJ,aK⟩:=h.ext I;have aL:aU.length=n.unary.length:=by rw[<-ab,u4]
  obtain⟨a,Y⟩:∃a,aU[i.toNat]? =σ a:=⟨_,y0 Ω⟩;obtain⟨aM,hm⟩:=X.2 a (x5 Y);rw[ay,ac ff.p rfl,ad Ψ (h1.Q2 rfl),cG (i:=i.toNat) Ω dJ.u aw.i X.1 Ω,ad (o:=i.toNat*1) Ψ (X.1.range Y 0 _ rfl)];have af:n.unary[i.toNat]? =σ a.l:=by rw[<-ab,x8,Y];rfl
  have aN:a.l.length<=32:=by
   obtain⟨z,ag⟩:∃z,n.sizes[i.toNat]? =σ z:=⟨_,y0 Ω⟩;have aO:=(J.unary i.toNat z a.l ag af).1;have aP:=J.sizes.2.2 z (x5 ag);omega
  refine (tn hm.ls Ω).mono ?_;rintro v V _ ⟨al,g,aR,am⟩;refine⟨I.trans al,λan=>absurd W an,λu _ hu=>⟨g,by have:=I.size;omega,?_⟩⟩;rw[af] at hu;cases hu;exact am
 .intro aS ah;rw[aq,ae];refine⟨λaT=>ah _ _ ⟨by rw[decide_eq_true];omega,Ext.refl _⟩,λaW=>?_⟩;refine (uG h).mono ?_;rintro _ U _ ⟨rfl,I⟩;rw[ce];refine ah _ _ ⟨?_,I⟩;congr 1;rw[V8,decide_eq_true_eq,decide_eq_true_eq];omega
theorem rT {W:Nat} {n:aV} {i:Int} (h:e8 w W n) (I:ig n):ak x3 Dy [Γ W,Δ i] w λv w'=>Ext w w'/\v=Δ (if 0<=i then n.sizes.getD i.toNat 0 else 0):=by
 refine aB func77 ?_;refine (AV h I).mono ?_;rintro v U _ ⟨X,aa,ab⟩;by_cases J:0<=i/\i<n.sizes.length
 .have ac:=I.jl;obtain⟨u,hu⟩:∃u,n.unary[i.toNat]? =σ u:=⟨_,y0 Ω⟩;obtain⟨z,V⟩:∃z,n.sizes[i.toNat]? =σ z:=⟨_,y0 Ω⟩;obtain⟨g,_,hm⟩:=ab u J.1 hu;rw[aT aw.u hm.ls];refine⟨X,?_⟩;have ad:=(I.unary i.toNat z u V hu).1;have ae:=I.sizes.2.2 z (x5 V);rw[if_pos J.1,u5,V];congr 1;simp only[T4];omega
 .rw[aa J,gw aw.u];refine⟨X,?_⟩;by_cases Y:0<=i
  .rw[if_pos Y,u5,Y4 Ω];rfl
  .rw[if_neg Y];rfl
theorem AW {n:aV} {j:Int} (h:e8 w I n) {K:x1->x2->Prop} (V:∀w',Ext w w'->K (.bool (decide (¬(0<=j/\j<n.funs.length)))) w'):
  J x3 (aC .lss ab false true (Δ j) (Δ 0)) w λX=>Split X (K (.bool true) w) (ak x3 w5 [Γ I] w λY W=>J x3 (aC .geq ab false false (Δ j) Y) W λaa=>K aa W):=by
 rw[aq,ae];refine⟨λad=>?_,λaf=>?_⟩
 .have:=V w (Ext.refl _);rw[decide_eq_true (show ¬(0<=j/\j<n.funs.length) by omega)] at this;exact this
 .refine (AU h).mono ?_;rintro _ U _ ⟨rfl,ac⟩;rw[ce];have:=V U ac;have e:decide ((n.funs.length:Int)<=j)=decide (¬(0<=j/\j<n.funs.length)):=by
   rw[V8,decide_eq_true_eq,decide_eq_true_eq];omega
  rw[<-e] at this;exact this
theorem Ke {Y:Nat} {n:aV} {g:cw} (h:e8 w Y n) (af:ig n) (I:n.funs[j]? =σ g):ak x3 DT [Γ Y,Δ (j:Int)] w λv w'=>Ext w w'/\ ∃gs,w.heap.size<=gs/\au .i64 ab w' gs v g.1:=by
 refine aB func134 ?_;have al:=(x4.1 I).1;refine aQ (λv U=>v= .bool (decide (¬(0<=(j:Int)/\(j:Int)<n.funs.length)))/\Ext w U) ?_ λam ag=>AW h λw' ah=>ag _ _ ⟨rfl,ah⟩;rintro _ U ⟨rfl,J⟩;rw[decide_eq_false Ω,aS];obtain⟨an,ao,ap,aq,aw,aU,L,ax,av,az,aA,h1,aC,aD,aE,aF,W,aa⟩:=h.ext J;have aG:L.length=n.funs.length:=by rw[<-aa,u4]
 obtain⟨a,X⟩:∃a,L[j]? =σ a:=⟨_,y0 Ω⟩;have ae:dH a=g:=by rw[<-aa,x8,X] at I;exact Z8 I
 obtain⟨⟨aH,hm⟩,_⟩:=W.2 a (x5 X);rw[ay,ac ff.p rfl,ad Ψ (h1.Q3 rfl),cG rfl jG.u hb.i W.1 Ω,ac hb.p rfl,ad Ψ (W.1.range X 0 _ rfl)];have aI:a.sc.length<=6:=by
  have:=(af.funs g (x5 I)).1.scope.2;rw[<-ae] at this;exact this
 refine (hF hm.ls Ω).mono ?_;rintro v V _ ⟨ai,gs,aJ,aj⟩;refine⟨J.trans ai,gs,by have:=J.size;omega,?_⟩;rw[<-ae];exact aj
theorem Kf {g aj:Nat} (h:cR w g aj sv szs k cs):ak x3 En [Γ g] w λv w'=>Ext w w'/\ ∃J W,v=Γ J/\w.heap.size<=J/\w.heap.size<=W/\cR w' J W sv szs k cs:=by
 obtain⟨⟨aL,gs,al,hm,am⟩,⟨h1,aq,an⟩,I,af⟩:=h;refine aB func193 ?_;rw[cC ek.u];simp only[Z0,aS];intro U X _ _;have aa:=al.ext X;have au:=prod_bound I;rw[ay,ac cU.p rfl,bn (cs:=[sv]) bq.p bq.i rfl (ml aa (by
  intro j v ab
  match j,ab with
  |0,ab=>exact ab)),ay,ac cU.p rfl,ad Ψ (aa.Q1 rfl),ay,ac cU.p rfl,ad Ψ (aa.Q2 rfl)]
 refine (tn (am.ls.ext X) Ω).mono ?_;rintro ag V _ ⟨ae,W,av,Y⟩;refine⟨.inl ae,?_⟩;rw[cW (cs:=#[sv,Δ k,ag]) (by obtain⟨_,_,_,rfl⟩:=bZ hm.ls;obtain⟨_,_,_,rfl⟩:=bZ Y.ls;kernel_rfl)];refine bN λJ aw ax ah ao=>?_;have az:=X.size;have aA:=ae.size;have aC:=Y;have ai:=(X.trans ae).trans ah;refine⟨ai,J,W,rfl,Ω,Ω,⟨ag,gs,ao,hm.ext ai,Y.ext ah⟩,⟨?_,?_,an⟩,I,af⟩
 .have:=nY Y (by rw[af];omega);omega
 .intro ap;obtain⟨aD,aE⟩:=bA hm ap;omega
theorem Kg {w0:x2} {ag:Nat} {n:aV} {g:cw} (ah:e8 w0 ag n) (ai:Ext w0 w) (W:n.funs[j]? =σ g):ak x3 DU [Γ ag,Δ (j:Int)] w λv w'=>Ext w w'/\ ∃I X sv,v=Γ I/\w.heap.size<=I/\w.heap.size<=X/\cR w' I X sv (bF n.sizes g.1) n.k g.2/\ ∀r,leads sv r-> ∃c,af w0 r ab c:=by
 have h:=ah.ext ai;refine aB func135 ?_;have aE:=(x4.1 W).1;refine aQ (λv U=>v= .bool (decide (¬(0<=(j:Int)/\(j:Int)<n.funs.length)))/\Ext w U) ?_ λaF ao=>AW h λw' ap=>ao _ _ ⟨rfl,ap⟩;rintro _ U ⟨rfl,Y⟩;rw[decide_eq_false Ω,aS];have J:=ai.trans Y;obtain⟨aG,aH,aI,aJ,aK,aU,L,aL,av,aM,aN,h1,aO,aP,aR,aT,aa,aj⟩:=ah;have aW:L.length=n.funs.length:=by rw[<-aj,u4]
 obtain⟨a,ae⟩:∃a,L[j]? =σ a:=⟨_,y0 Ω⟩;have aq:dH a=g:=by rw[<-aj,x8,ae] at W;exact Z8 W
 obtain⟨_,X,au,al⟩:=aa.2 a (x5 ae);rw[ay,ac ff.p rfl,ad Ψ ((h1.ext J).Q3 rfl),cG rfl jG.u hb.i (aa.1.ext J) Ω,ac hb.p rfl,ad Ψ ((aa.1.ext J).range ae 1 _ rfl)];refine (Kf (al.ext J)).mono ?_;rintro v V _ ⟨aw,I,ax,rfl,aX,aY,az⟩;have aZ:=Y.size;refine⟨Y.trans aw,I,ax,au,rfl,Ω,Ω,?_,λr am=>?_⟩
 .rw[<-aq];exact az
 .obtain⟨⟨_,_,_,hm,_⟩,_⟩:=al;obtain⟨aA,_⟩:=bA hm am;rcases hm.2 with⟨aC,_⟩|⟨_,cs,_,aD,_⟩
  .obtain⟨_,_,_,an,a1⟩:=am;rw[aC] at an;cases an
  .exact⟨cs,aA▸aD⟩
structure n5 where
 az:x1
 av:x1
 at_:Nat
def jn (x:n5):List x1:=[x.az,x.av,Δ (x.at_:Int)]
structure mJ where
 v:Int
 az:x1
 bv:x1
def gV (x:mJ):List x1:=[Δ x.v,x.az,x.bv]
def gF (s:aF):Λ:=(W3 s.vars.length).map λi=>(eM s i:Int)
def hT (R:aj) (w:x2) (v:x1) (l:Λ):Prop:=(∃g,au .i64 ab w g v l)/\ ∀r,leads v r->R r
theorem hT.ls {R:aj} (h:hT R w v l):aJ .i64 w v l:=by
 obtain⟨⟨g,h⟩,_⟩:=h;exact h.ls
theorem hT.aa {R S:aj} (h:hT R w v l) (U:ag S w w') (V:∀r,r<w.heap.size->R r->¬S r):hT R w' v l:=by
 obtain⟨⟨g,h1⟩,I⟩:=h;exact⟨⟨g,bc h1 U λr J=>V r (by obtain⟨W,X⟩:=bA h1 J;omega) (I r J)⟩,I⟩
theorem hT.mono {R R':aj} (h:hT R w v l) (I:∀r,R r->R' r):hT R' w v l:=⟨h.1,λr J=>I r (h.2 r J)⟩
def iK (R:aj) (w:x2) (L:List n5) (s:aF):Prop:=L.length=s.funs.length/\ ∀ (j:Nat) x f,L[j]? =σ x->s.funs[j]? =σ f->hT R w x.az f.sc/\hT R w x.av f.szs/\x.at_=eb s j
def j1 (R:aj) (w:x2) (E:List mJ) (s:aF):Prop:=E.length=s.elims.length/\ ∀ (j:Nat) x e,E[j]? =σ x->s.elims[j]? =σ e->x.v=e.v/\hT R w x.az e.sc/\hT R w x.bv e.ea
theorem iK.aa {R S:aj} {L:List n5} {s:aF} (h:iK R w L s) (I:ag S w w') (J:∀r,r<w.heap.size->R r->¬S r):iK R w' L s:=⟨h.1,λj x f U V=>by
 obtain⟨h1,W,X⟩:=h.2 j x f U V;exact⟨h1.aa I J,W.aa I J,X⟩⟩
theorem j1.aa {R S:aj} {E:List mJ} {s:aF} (h:j1 R w E s) (I:ag S w w') (J:∀r,r<w.heap.size->R r->¬S r):j1 R w' E s:=⟨h.1,λj x f U V=>by
 obtain⟨h1,W,X⟩:=h.2 j x f U V;exact⟨h1,W.aa I J,X.aa I J⟩⟩
theorem iK.mono {R R':aj} {L:List n5} {s:aF} (h:iK R w L s) (I:∀r,R r->R' r):iK R' w L s:=⟨h.1,λj x f J U=>by
 obtain⟨h1,V,W⟩:=h.2 j x f J U;exact⟨h1.mono I,V.mono I,W⟩⟩
theorem j1.mono {R R':aj} {E:List mJ} {s:aF} (h:j1 R w E s) (I:∀r,R r->R' r):j1 R' w E s:=⟨h.1,λj x f J U=>by
 obtain⟨h1,V,W⟩:=h.2 j x f J U;exact⟨h1,V.mono I,W.mono I⟩⟩
theorem n7 {a b c:x2} (h:Ext a b) (k:ag S b c) (U:∀r o,a.heap[r]? =σ o->fK o=true->¬S r):Ext a c:=
 ⟨Y9 h.size k.size,λr o J I=>k.a7 r o (h.a7 r o J I) I (U r o J I)⟩
theorem cI.cut {A:aj} {t:aD} (h:cI w ah A t):cI w ah (λr=>A r/\r<w.heap.size) t:=by
 obtain⟨Y,aa,go,ba,aL,ab,bV,h1,J,U,V,ac⟩:=h;refine⟨⟨Y,h1.lt⟩,aa,go,ba,aL,ab,bV,h1,J,U,V,λr I=>⟨ac r I,?_⟩⟩;rcases I with I|I|I
 .obtain⟨W,X⟩:=J.leads I;omega
 .obtain⟨W,X⟩:=U.leads I;omega
 .obtain⟨W,X⟩:=V.leads I;omega
def dT (w:x2) (al ah W:Nat) (J U V:x1) (A R:aj) (n:aV) (s:aF) (t:aD):Prop:=
 (A al/\(∀r,A r->¬R r)/\(∀r,R r->r<w.heap.size)/\ ∀r,A r->r<w.heap.size)/\ ∃X Y ge,∃ (L:List n5) (E:List mJ) (I:aj) (w0:x2),
  af w al bt [Γ W,Γ ah,J,U,V]/\(e8 w0 W n/\Ext w0 w/\ ∀r o,w0.heap[r]? =σ o->fK o=true->R r)/\
  (cI w ah I t/\(∀r,I r->A r)/\¬I al/\ ∀r,leads J r\/leadsTo U r\/leadsTo V r->A r/\¬I r)/\au .i64 ab w X J (gF s)/\
  (a6 jn 3 cE w Y U L/\iK R w L s)/\a6 gV 3 bM w ge V E/\j1 R w E s
theorem dT.aa {S:aj} {ac:Nat} {ad ae af:x1} {A R:aj} {n:aV} {s:aF} {t:aD} (h:dT w al ah ac ad ae af A R n s t) (U:ag S w w') (V:∀r,r<w.heap.size->A r\/R r->¬S r):dT w' al ah ac ad ae af A R n s t:=by
 obtain⟨⟨h1,W,ay,az⟩,aA,aB,ge,L,E,aC,w0,ai,⟨aE,ak,am⟩,⟨aG,X,aH,Y⟩,an,⟨ao,aI⟩,ap,aJ⟩:=h;have z:=U.size;refine⟨⟨h1,W,λr J=>by have:=ay r J;omega,λr J=>by have:=az r J;omega⟩,aA,aB,ge,L,E,aC,w0,ai.aa U (V _ ai.lt (.inl h1)),⟨aE,n7 ak U λr o J aK I=>V r (by have:=ak.size;have:=(j6.1 J).1;omega) (.inr (am r o J aK)) I,am⟩,
  ⟨?_,X,aH,Y⟩,bc an U λr J I=>V r ?_ (.inl (Y r (.inl J)).1) I,⟨ao.aa U λr J I=>V r ?_ (.inl (Y r (.inr (.inl J))).1) I,aI.aa U λr J h=>V r J (.inr h)⟩,ap.aa U λr J I=>V r ?_ (.inl (Y r (.inr (.inr J))).1) I,aJ.aa U λr J h=>V r J (.inr h)⟩
 .obtain⟨aq,aM,go,ba,aL,aN,bV,au,av,aw,ax,ab⟩:=aG;refine⟨aq,aM,go,ba,aL,aN,bV,au.aa U (V _ au.lt (.inl (X _ aq))),av.aa U λr J I=>?_,aw.aa U λr J I=>?_,ax.aa U λr J I=>?_,ab⟩
  .exact V r (by obtain⟨h1,W⟩:=av.leads J;omega) (.inl (X _ (ab r (.inl J)))) I
  .exact V r (by obtain⟨h1,W⟩:=aw.leads J;omega) (.inl (X _ (ab r (.inr (.inl J))))) I
  .exact V r (by obtain⟨h1,W⟩:=ax.leads J;omega) (.inl (X _ (ab r (.inr (.inr J))))) I
 .obtain⟨h1,W⟩:=bA an J;omega
 .obtain⟨h1,W⟩:=ao.leads J;omega
 .obtain⟨h1,W⟩:=ap.leads J;omega
theorem dT.ext {J U V:x1} {A R:aj} {n:aV} {s:aF} {t:aD} (h:dT w al ah I J U V A R n s t) (W:Ext w w'):dT w' al ah I J U V A R n s t:=h.aa (W.aa λ_=>False) λ_ _ _ h=>h
theorem dT.pE {af:Nat} {ag ai ak:x1} {A R:aj} {n:aV} {s:aF} {t:aD} (h:dT w al ah af ag ai ak A R n s t):∃Y,cI w ah Y t/\ ∀X w' ad,Grow Y w X w'->cI w' ah X ad-> ∃am,Grow A w am w'/\dT w' al ah af ag ai ak am R n s ad:=by
 obtain⟨⟨h1,V,an,ao⟩,aB,aC,ge,L,E,Y,w0,ap,⟨aE,aG,aq⟩,⟨aH,W,au,ab⟩,av,⟨aw,aI⟩,ax,aJ⟩:=h;refine⟨Y,aH,λay w' ad ac aK=>?_⟩;have az:=aK.cut;have U:Grow Y w (λr=>ay r/\r<w'.heap.size) w':=⟨ac.1,λr J=>ac.2.1 r J.1,λr J=>⟨ac.2.2 r J,by have:=ao r (W r J);have:=ac.1.size;omega⟩⟩;obtain⟨X,aA⟩:∃B:aj,B=λr=>ay r/\r<w'.heap.size:=⟨_,rfl⟩;rw[<-aA] at az U;have aL:∀r,X r->r<w'.heap.size:=λr h=>by rw[aA] at h;exact h.2
 refine⟨λr=>A r\/X r,⟨U.1.mono λr _ J=>W r J,λr J=>?_,λr J=>.inl J⟩,⟨.inl h1,λr J ae=>?_,λr J=>?_,λr J=>?_⟩,aB,aC,ge,L,E,X,w0,ap.aa U.1 au,⟨aE,n7 aG U.1 λr o J aM I=>V r (W r I) (aq r o J aM),aq⟩,
  ⟨az,λr J=>.inr J,λJ=>?_,λr J=>⟨.inl (ab r J).1,λaN=>?_⟩⟩,bc av U.1 λr J I=>(ab r (.inl J)).2 I,⟨aw.aa U.1 λr J I=>(ab r (.inr (.inl J))).2 I,aI.aa U.1 λr _ J I=>V r (W r I) J⟩,ax.aa U.1 λr J I=>(ab r (.inr (.inr J))).2 I,aJ.aa U.1 λr _ J I=>V r (W r I) J⟩
 .rcases J with J|J
  .exact .inl J
  .exact (U.2.1 r J).imp (W r) id
 .have:=an r ae;rcases J with J|J
  .exact V r J ae
  .rcases U.2.1 r J with h|h
   .exact V r (W r h) ae
   .omega
 .have:=an r J;have:=U.1.size;omega
 .rcases J with J|J
  .have:=ao r J;have:=U.1.size;omega
  .exact aL r J
 .rcases U.2.1 _ J with h|h
  .exact au h
  .have:=ap.lt;omega
 .rcases U.2.1 r aN with h|h
  .exact (ab r J).2 h
  .rcases J with J|J|J
   .obtain⟨h1,V⟩:=bA av J;omega
   .obtain⟨h1,V⟩:=aw.leads J;omega
   .obtain⟨h1,V⟩:=ax.leads J;omega
def StateM (w:x2) (al ah:Nat) (A R:aj) (n:aV) (s:aF) (t:aD):Prop:=∃I J U V,dT w al ah I J U V A R n s t
theorem StateM.aa {S:aj} {A R:aj} {n:aV} {s:aF} {t:aD} (h:StateM w al ah A R n s t) (I:ag S w w') (J:∀r,r<w.heap.size->A r\/R r->¬S r):StateM w' al ah A R n s t:=by
 obtain⟨U,V,W,X,h⟩:=h;exact⟨U,V,W,X,h.aa I J⟩
theorem StateM.ext {A R:aj} {n:aV} {s:aF} {t:aD} (h:StateM w al ah A R n s t) (I:Ext w w'):StateM w' al ah A R n s t:=h.aa (I.aa λ_=>False) λ_ _ _ h=>h
theorem StateM.pE {A R:aj} {n:aV} {s:aF} {t:aD} (h:StateM w al ah A R n s t):∃I,cI w ah I t/\ ∀J w' U,Grow I w J w'->cI w' ah J U-> ∃V,Grow A w V w'/\StateM w' al ah V R n s U:=by
 obtain⟨W,X,Y,aa,h⟩:=h;obtain⟨I,h1,ab⟩:=h.pE;exact⟨I,h1,λJ w' U ac ad=>by
  obtain⟨V,ae,af⟩:=ab J w' U ac ad;exact⟨V,ae,W,X,Y,aa,af⟩⟩
def iL (s s':aF):Prop:=gF s'=gF s/\s'.funs.length=s.funs.length/\(∀ (j:Nat) I,s'.funs[j]? =σ I-> ∃f,s.funs[j]? =σ f/\I.sc=f.sc/\I.szs=f.szs/\eb s' j=eb s j)/\s'.elims=s.elims
theorem dT.same {J:Nat} {U V W:x1} {A R:aj} {n:aV} {s s':aF} {t:aD} (h:dT w al ah J U V W A R n s t) (I:iL s s'):dT w al ah J U V W A R n s' t:=by
 obtain⟨aI,Y,aa,ge,L,E,ab,w0,ac,ad,ae,af,⟨ag,X⟩,ai,ak⟩:=h;obtain⟨am,an,ao,ap⟩:=I;refine⟨aI,Y,aa,ge,L,E,ab,w0,ac,ad,ae,by rw[am];exact af,⟨ag,X.1.trans an.symm,λj x aq au av=>?_⟩,ai,?_⟩
 .obtain⟨f,aw,ax,ay,az⟩:=ao j aq av;rw[ax,ay,az];exact X.2 j x f au aw
 .unfold j1;rw[ap];exact ak
theorem StateM.same {A R:aj} {n:aV} {s s':aF} {t:aD} (h:StateM w al ah A R n s t) (I:iL s s'):StateM w al ah A R n s' t:=by
 obtain⟨J,U,V,W,h⟩:=h;exact⟨J,U,V,W,h.same I⟩
theorem rU {α β:Type} {f:α->List β}:∀ {L:List α} {i j:Nat} {a b:α},L[i]? =σ a->(f b).length=(f a).length->(((L.set i b).take j).flatMap f).length=((L.take j).flatMap f).length
 |[],_,_,_,_,h,_=>by simp at h
 |x::L,0,j,a,b,h,I=>by
  cases h;cases j with
  |zero=>rfl
  |succ j=>simp[I]
 |x::L,i+1,j,a,b,h,I=>by
  have h:L[i]? =σ a:=by simpa using h
  cases j with
  |zero=>rfl
  |succ j=>
   rw[List.set_cons_succ,List.take_succ_cons,List.take_succ_cons,V5,V5,u9,u9,rU h I]
theorem uH (s:aF) (c:Int):iL s {s with zero:=c}:=⟨rfl,rfl,λj f h=>⟨f,h,rfl,rfl,rfl⟩,rfl⟩
theorem pF {s:aF} {i:Nat} {x y:e9} (I:s.vars[i]? =σ x) (U:y.un.length=x.un.length):iL s {s with vars:=s.vars.set i y}:=by
 have J:(gE y).length=(gE x).length:=by simp[gE,U]
 refine⟨?_,rfl,λj f h=>⟨f,h,rfl,rfl,?_⟩,rfl⟩
 .unfold gF;rw[show ({s with vars:=s.vars.set i y}:aF).vars.length=s.vars.length from X2];apply List.map_congr_left;intro j _;unfold eM;rw[rU I J]
 .unfold eb;have:=rU (j:=s.vars.length) I J;rw[l5 Ξ,l5 (o8 _)] at this;show 3+(((s.vars.set i y).flatMap gE).length+_)=_;rw[this]
theorem rV {s:aF} {i:Nat} {x y:et} (I:s.funs[i]? =σ x) (U:y.cs.length=x.cs.length) (h1:y.sc=x.sc) (V:y.szs=x.szs):iL s {s with funs:=s.funs.set i y}:=by
 have W:(fU y).length=(fU x).length:=by simp[fU,U]
 refine⟨rfl,X2,λj f h=>?_,rfl⟩;have h:(s.funs.set i y)[j]? =σ f:=h;have e:eb {s with funs:=s.funs.set i y} j=eb s j:=by
  unfold eb;show 3+(_+(((s.funs.set i y).take j).flatMap fU).length)=_;rw[rU I W]
 by_cases J:i=j
 .subst J;rw[V9 (x4.1 I).1] at h;cases h;exact⟨x,I,h1,V,e⟩
 .rw[W8 J] at h;exact⟨f,h,rfl,rfl,e⟩
theorem aD.uI (t:aD) (i:Nat) (x:Int):(t.set i x).marks=t.marks:=by
 unfold aD.set;cases t.cells[i]? with
 |none=>rfl
 |some c=>
  simp only;cases t.marks.getLast? with
  |none=>rfl
  |some m=>simp only;split<;>rfl
theorem aD.n8 (t:aD) (i:Nat) (x:Int):(t.set i x).ever=t.ever:=by
 unfold aD.set;cases t.cells[i]? with
 |none=>rfl
 |some c=>
  simp only;cases t.marks.getLast? with
  |none=>rfl
  |some m=>simp only;split<;>rfl
theorem aD.AX (t:aD) (i:Nat) (x:Int):(t.set i x).cells.length=t.cells.length:=by
 have h:=congrArg R4 (aD.nx (t:=t) (i:=i) (x:=x));rw[X2] at h;unfold aD.bT at h;rwa [u4,u4] at h
theorem aD.uJ (t:aD) (i:Nat) (x:Int):(t.set i x).olds.length<=t.olds.length+1:=by
 unfold aD.set;cases t.cells[i]? with
 |none=>exact S6 _
 |some c=>
  simp only;cases t.marks.getLast? with
  |none=>exact S6 _
  |some m=>simp only;split<;>simp
theorem aD.uK {t:aD} (h:t.marks=[]) (i:Nat) (x:Int):(t.set i x).olds=t.olds:=by
 unfold aD.set;cases t.cells[i]? with
 |none=>rfl
 |some c=>simp only[h,List.getLast?_nil]
def eX (t:aD) (l:Λ):Nat->aD
 |0=>t.grow l.length
 |i+1=>(eX t l i).set (t.cells.length+i) (l.getD i 0)
def hr (t:aD) (l:Λ):aD:=eX t l l.length
theorem mK (t:aD) (l:Λ):∀i,(eX t l i).marks=t.marks
 |0=>rfl
 |i+1=>(aD.uI _ _ _).trans (mK t l i)
theorem uL (t:aD) (l:Λ):∀i,(eX t l i).ever=t.ever
 |0=>rfl
 |i+1=>(aD.n8 _ _ _).trans (uL t l i)
theorem pG (t:aD) (l:Λ):∀i,(eX t l i).cells.length=t.cells.length+l.length
 |0=>by simp[eX,aD.grow]
 |i+1=>(aD.AX _ _ _).trans (pG t l i)
theorem pH (t:aD) (l:Λ):∀i,(eX t l i).olds.length<=t.olds.length+i
 |0=>o8 _
 |i+1=>by have:=aD.uJ (eX t l i) (t.cells.length+i) (l.getD i 0);have:=pH t l i;show (aD.set _ _ _).olds.length<=_;omega
theorem AY {t:aD} (h:t.marks=[]) (l:Λ):∀i,(eX t l i).olds=t.olds
 |0=>rfl
 |i+1=>(aD.uK ((mK t l i).trans h) _ _).trans (AY h l i)
theorem AZ (t:aD) (l:Λ):∀i,i<=l.length->(eX t l i).bT=t.bT++(l.take i++o7 (l.length-i) 0)
 |0,_=>by rw[List.take_zero,List.nil_append];exact aD.FY
 |i+1,h=>by
  have I:=AZ t l i Ω;show (aD.set _ _ _).bT=_;have J:t.bT.length=t.cells.length:=by simp[aD.bT]
  rw[aD.nx,I,U9 _ _ Ω,J,R3,U9 _ _ (by rw[o4];omega),o4,T7 Ω,W9,show l.length-i=(l.length-(i+1))+1 by omega,List.replicate_succ,List.set_cons_zero,r8,u5,y0 (show i<l.length by omega)];simp only[Z4,T4,X1,List.singleton_append]
theorem A0 (t:aD) (l:Λ):(hr t l).bT=t.bT++l:=by
 unfold hr;rw[AZ t l _ (o8 _),o9,W9,List.replicate_zero,X6]
theorem ds.eX {h:List aD} {t:aD} (I:ds t h) (l:Λ):∀i,ds (eX t l i) h
 |0=>I.grow
 |i+1=>(ds.eX I l i).set
theorem fD {s:Go.Sem x1} {x:x1} (h:J x3 s w (λv=>v=x)):bl x3 s x w:=by
 obtain⟨v,h,rfl⟩:=h;exact h
theorem rW {off:Nat} {z:Nat} {I:r9} {cs:List x1} {x:x1} (U:af w al e cs) (V:∀ (K:x1->Prop),J x3 (x7 bt (Γ al) z) w K=K (.pointer (σ ⟨al,0+off,ν⟩))) (W:jI x3 I=true) (X:cs[0+off]? =σ x):
  bl x3 (x6 I (.pointer (σ ⟨al,0+off,ν⟩))) x w/\bl x3 (x7 bt (Γ al) z) (.pointer (σ ⟨al,0+off,ν⟩)) w/\bl x3 (aY (Γ al)) (Γ al) w/\True:=
 ⟨hI W (U.cell X),fD (by rw[V]),fD (by rw[ay]),trivial⟩
def A1 (w:x2) (r:Nat):Prop:=∃e c,af w r e c/\(e=cH\/e=dE\/e=fg\/e=dr\/e=bt\/e=cE\/e=bM)
def dg (w:x2) (r:Nat):Prop:=A1 w r\/ ∀o,w.heap[r]? =σ o->fK o≠true
theorem lD {U:x2} {r:Nat} (X:∀o,w.heap[r]? =σ o->fK o=true->¬dg w r->U.heap[r]? =σ o) (h:dg U r):dg w r:=by
 by_cases J:dg w r
 .exact J
 .refine absurd (.inr λo W I=>?_) J;have h1:=X o W I J;rcases h with⟨e,c,V,he⟩|Y
  .refine J (.inl ⟨e,c,?_,he⟩);unfold af at V ⊢;rw[h1] at V;rw[W];exact V
  .exact Y o h1 I
theorem j2 {U V:x2} (J:Ext w U) (W:ag (dg U) U V):ag (dg w) w V:=(J.aa _).trans (W.mono λr _ h=>lD (λo X I _=>J.a7 r o X I) h)
theorem pI {U V:x2} (h:ag (dg w) w U) (J:ag (dg U) U V):ag (dg w) w V:=h.trans (J.mono λr _ W=>lD (λo X I Y=>h.a7 r o X I Y) W)
theorem cI.min {A:aj} {t:aD} (h:cI w ah A t):cI w ah (λr=>A r/\A1 w r) t:=by
 obtain⟨X,Y,go,ba,aL,aa,bV,h1,U,V,W,ab⟩:=h;refine⟨⟨X,_,_,h1,.inl rfl⟩,Y,go,ba,aL,aa,bV,h1,U,V,W,λr I=>⟨ab r I,?_⟩⟩;rcases I with I|I|I
 .obtain⟨rfl,c,J⟩:=dm U I;exact⟨_,c,J,.inr (.inl rfl)⟩
 .obtain⟨rfl,c,J⟩:=dm V I;exact⟨_,c,J,.inr (.inr (.inl rfl))⟩
 .obtain⟨rfl,c,J⟩:=dm W I;exact⟨_,c,J,.inr (.inr (.inr (.inl rfl)))⟩
theorem dT.lE {X:Nat} {Y aa ab:x1} {A R:aj} {n:aV} {s:aF} {t:aD} (h:dT w al ah X Y aa ab A R n s t):∃I,cI w ah I t/\ ∀ac w' J,Grow I w ac w'->cI w' ah ac J->ag (dg w) w w'/\ ∃ad,Grow A w ad w'/\dT w' al ah X Y aa ab ad R n s J:=by
 obtain⟨I,ae,af⟩:=h.pE;refine⟨_,ae.min,λai U J V ak=>⟨V.1.mono λr _ h=>.inl h.2,?_⟩⟩;exact af (λr=>I r\/ai r) U _ ⟨V.1.mono λr _ h=>h.1,λr W=>W.elim .inl λh=>(V.2.1 r h).imp (λh=>h.1) id,λr W=>.inl W⟩ (ak.mono λr h=>.inr h)
theorem A2 {aa:Nat} {ab af ai:x1} {A R:aj} {n:aV} {s:aF} {t:aD} {J:x1} (h:dT w al ah aa ab af ai A R n s t) (am:aJ .i64 w J l) (aC:∀r,leads J r->¬A r) (be:t.cells.length+l.length<=100000000) (bf:t.olds.length+l.length<=100000000) (hm:t.marks.length<=100000000):
  ak x3 w4 [Γ al,J] w λv w'=>v=Δ (t.cells.length:Int)/\ag (dg w) w w'/\ ∃W,Grow A w W w'/\dT w' al ah aa ab af ai W R n s (hr t l):=by
 refine aB func131 ?_;obtain⟨_,aE,aG,ge,L,E,_,w0,an,_⟩:=id h;obtain⟨aH,ap,au⟩:=h.lE;rw[ay,ac bt.p rfl,ad Ψ (an.Q1 rfl),aT aw.u am];refine (J4 (n:=l.length) ap ⟨Ω,Ω,hm⟩ Ω).mono ?_;rintro _ U _ ⟨rfl,aI,aK,aL⟩;obtain⟨aM,aO,ax,aP⟩:=au aI U _ aK aL;have az:∀ {W:aj} {w':x2},Grow A w W w'->aJ .i64 w' J l:=λaQ=>iz am aQ.1 λr aR a aS c aU aW=>aC r ⟨a,aS,c,aU,aW⟩ aR;rw[aT aw.u (az ax)];have aX:=am.le;refine bP.range l.length (λi V=>ag (dg w) w V/\ ∃I,Grow A w I V/\dT V al ah aa ab af ai I R n s (eX t l i)) aX ⟨aM,aO,ax,aP⟩ ?_ ?_
 .rintro i V k hi ⟨av,I,X,Y⟩ aY;refine Υ λ_=>?_;obtain⟨x,aA⟩:∃x,l[i]? =σ x:=⟨_,y0 hi⟩;rw[bd aw.u ao.i Ψ (az X) aA];obtain⟨_,aE,aG,ge,L,E,_,w0,an,_⟩:=id Y;obtain⟨aH,ap,au⟩:=Y.lE;have bg:=pG t l i;have bh:=pH t l i;have aZ:=mK t l i;rw[ay,ac bt.p rfl,ad Ψ (an.Q1 rfl),aN,wrap_i64 Ω Ω];refine (pB (i:=t.cells.length+i) ap Ω Ω ⟨Ω,Ω,by rw[aZ];exact hm⟩).mono ?_;rintro _ a1 _ ⟨rfl,a2,a6,a7⟩;obtain⟨a8,ba,bb,bc⟩:=au a2 a1 _ a6 a7;rw[aN];refine aY _ ⟨pI av a8,ba,X.trans bb,?_⟩;have e:eX t l (i+1)=(eX t l i).set (t.cells.length+i) x:=by
   show (eX t l i).set _ (l.getD i 0)=_;rw[u5,aA];rfl
  rw[e];exact bc
 .rintro V k ⟨av,I,X,Y⟩;rw[aq,ae];exact⟨λh=>Ω,λ_=>⟨rfl,av,I,X,Y⟩⟩
def fV (s:aF) (sc szs cs:Λ):aF:={s with funs:=s.funs++[⟨sc,szs,1,cs⟩]}
def kR (s:aF) (t:aD) (cs:Λ):aD:=(hr t (1::cs)).set 1 ((s.funs.length+1:Nat):Int)
theorem A3 {s:aF} {t:aD} {sc:Λ} (h:t.bT=s.cells):(kR s t cs).bT=(fV s sc szs cs).cells:=by
 unfold kR fV;rw[aD.nx,A0,h,<-Ka];rfl
theorem A4 {bu:Nat} {bw a2 bx:x1} {A R:aj} {n:aV} {s:aF} {t:aD} {az:x1} {sc:Λ} {g b6:Nat} {aC:x1}
  (h:dT w al ah bu bw a2 bx A R n s t) (cA:t.bT=s.cells) (cB:aJ .i64 w az sc) (dJ:∀r,leads az r->¬A r) (bz:cR w g b6 aC szs k cs) (b7:¬A g/\¬A b6/\ ∀r,leads aC r->¬A r) (dK:sc.length<=1000)
  (bd:t.cells.length+cs.length+1<=100000000) (bB:t.olds.length+cs.length+1<=100000000) (hm:t.marks.length<=100000000) (dL:s.funs.length<=1000000):
  ak x3 DS [Γ al,az,Γ g] w λv w'=>v=Δ (s.funs.length:Int)/\ag (dg w) w w'/\ ∃bj R' bM,Grow A w bj w'/\dT w' al ah bu bw bM bx bj R' n (fV s sc szs cs) (kR s t cs)/\(∀r,R r->R' r)/\ ∀r,R' r->R r\/leads aC r\/w.heap.size<=r:=by
 have dM:t.cells.length=s.cells.length:=by rw[<-cA];simp[aD.bT]
 have dN:=pC s;have cC:eb (fV s sc szs cs) s.funs.length=t.cells.length:=by
  unfold eb fV;simp only[List.take_left];omega
 have cD:∀j,j<s.funs.length->eb (fV s sc szs cs) j=eb s j:=λj bN=>by
  unfold eb fV;simp only[List.take_append_of_le_length (show j<=s.funs.length by omega)]
 have cF:gF (fV s sc szs cs)=gF s:=rfl;refine aB func133 ?_;refine di (λU=>ag (dg w) w U/\ ∃bj R' bM,Grow A w bj U/\dT U al ah bu bw bM bx bj R' n (fV s sc szs cs) (hr t (1::cs))/\(∀r,R r->R' r)/\ ∀r,R' r->R r\/leads aC r\/w.heap.size<=r) ?_ ?_
 .rintro U ⟨cG,dO,cH,cI,cJ,cK,cL,cM⟩;intro V bO _ _;have b8:=cK.ext bO;obtain⟨_,bC,bP,ge,L,E,_,w0,aM,_,_,_,⟨bk,bD⟩,_⟩:=id b8;have bE:L.length=s.funs.length+1:=by rw[bD.1];simp[fV]
  rw[ay,ac bt.p rfl,ad Ψ (aM.Q1 rfl),ay,ac bt.p rfl,ad Ψ (aM.Q3 rfl),c9 dR.u bk];obtain⟨b9,cN,cO⟩:=b8.lE;have cP:=pG t (1::cs) (1::cs).length;have cQ:=pH t (1::cs) (1::cs).length;have cS:=mK t (1::cs) (1::cs).length;simp only[j5] at cP cQ;refine (pB (i:=1) (y:=1) cN rfl (by show 1<(eX _ _ _).cells.length;simp only[j5];omega) ⟨by show (eX _ _ _).cells.length<=_;simp only[j5];omega,by show (eX _ _ _).olds.length<=_;simp only[j5];omega,by show (eX _ _ _).marks.length<=_;rw[cS];exact hm⟩).mono ?_;rintro _ cU _ ⟨rfl,cV,cX,cY⟩;obtain⟨cZ,c0,c1,ca⟩:=cO cV cU _ cX cY;obtain⟨_,bC,bP,ge,c2,E,_,w0,aM,_,_,_,⟨bk,c4⟩,_⟩:=id ca;have dP:c2.length=s.funs.length+1:=by rw[c4.1];simp[fV]
  rw[ay,ac bt.p rfl,ad Ψ (aM.Q3 rfl),c9 dR.u bk,c3,wrap_i64 Ω Ω];refine⟨by congr 1;omega,pI cG (j2 bO cZ),c0,cH,cI,cJ.trans ((Grow.ext bO).trans c1),?_,cL,cM⟩;have e:kR s t cs=(hr t (1::cs)).set 1 (L.length:Int):=by unfold kR;rw[bE]
  rw[e];exact ca
 intro c5 c6;intro aW a6 _ _;have cb:=h.ext a6;obtain⟨_,bC,bP,ge,L,E,_,w0,aM,_⟩:=id cb;rw[ay,ac bt.p rfl,ad Ψ (aM.Q3 rfl)];have z4:=a6.size;have bF:∀ {Y:x2} {aH aE:x1} {be aI:Nat},Ext aW Y->w.heap.size<=be->w.heap.size<=aI->au .i64 ab Y be aH sc->au .i64 ao Y aI aE (1::cs)->(∀r,leads aH r\/leads aE r->¬A r)->
   ak x3 w4 [Γ al,aE] Y λc7 aN=>
    (Ext aW aN\/bl x3 (x6 dR (.pointer (σ ⟨al,0+3,ν⟩))) a2 aN/\bl x3 (x7 bt (Γ al) 3) (.pointer (σ ⟨al,0+3,ν⟩)) aN/\bl x3 (aY (Γ al)) (Γ al) aN/\True)/\
    J x3 (Instr.build cE #[(0,aH),(1,.agg #[aC]),(2,c7)]) aN λt22=>
    aA x3 (Z7 dR 1 #[(0,t22)]) aN λc8 aO=>
     (Ext aW aO\/bl x3 (x6 dR (.pointer (σ ⟨al,0+3,ν⟩))) a2 aO/\bl x3 (x7 bt (Γ al) 3) (.pointer (σ ⟨al,0+3,ν⟩)) aO/\bl x3 (aY (Γ al)) (Γ al) aO/\True)/\
    aA x3 (l9 #[dR,dR] dR #[a2,c8]) aO λda bG=>
     J x3 (aY (Γ al)) bG λt25=>
     J x3 (x7 bt t25 3) bG λdb=>
     aA x3 (o5 dR db da) bG λ(_:Unit) a7=>
      c5 a7:=by
  intro Y aH aE be aI ae cd aG ai an bQ;have dc:=cb.ext ae;refine (A2 dc an.ls (λr W=>bQ r (.inr W)) (by simp only[j5];omega) (by simp only[j5];omega) hm).mono ?_;rintro _ aN _ ⟨rfl,dd,bm,bf,de⟩;obtain⟨⟨ce,cg,df,ch⟩,bC,bP,ge,L,E,b9,w0,aM,⟨dh,dj,ci⟩,⟨dk,cj,ck,aX⟩,bR,⟨bk,bD⟩,bS,dl⟩:=id de;have aT:au .i64 ab aN be aH sc:=bc ai bf.1 λr W=>bQ r (.inl W);have bH:au .i64 ab Y (Classical.choose (show ∃gs,au .i64 ab w gs aC szs from by obtain⟨⟨_,gs,_,q,_⟩,_⟩:=bz;exact⟨gs,q⟩)) aC szs:=((Classical.choose_spec (show ∃gs,au .i64 ab w gs aC szs from by obtain⟨⟨_,gs,_,q,_⟩,_⟩:=bz;exact⟨gs,q⟩)).ext a6).ext ae;have dn:=bc bH bf.1 b7.2.2;refine⟨.inr (rW (off:=3) (z:=3) aM (λK=>by rw[ac bt.p rfl]) Ψ rfl),?_⟩;rw[cW (cs:=#[aH,aC,Δ (t.cells.length:Int)]) (by obtain⟨_,_,_,rfl⟩:=bZ ai.ls;obtain⟨_,_,_,rfl⟩:=bZ bH.ls;kernel_rfl)];let a:n5:=⟨aH,aC,t.cells.length⟩;have dp:∀u∈jn a,u.oneCell'=true:=by
   intro u hu;simp[jn] at hu;rcases hu with rfl|rfl|rfl
   .exact ai.ls.cells.2
   .exact bH.ls.cells.2
   .rfl
  refine fQ (f:=jn) (a:=a) dR.u cE.i Ω rfl rfl λdQ dS aO dU am dq=>?_;refine⟨.inr (rW (off:=3) (z:=3) (aM.ext am) (λK=>by rw[ac bt.p rfl]) Ψ rfl),?_⟩;have bn:=bk.ext am;have bE:L.length=s.funs.length:=bD.1;refine gh (f:=jn) (a:=a) dR.u cE.i rfl bn (by simpa using dq.sl) dp Ω Ω λcl dr bG bo ds cm=>?_;have bp:=aM.ext am;have cn:=bp.aa cm λhe=>cc bn bp Φ he;rw[ay,ac bt.p rfl];refine bh dR.i (cT bo.sl).1 (cT bo.sl).2 cn Ξ λa7 bU dV bV=>?_;have bV:af a7 al bt [Γ bu,Γ ah,bw,cl,bx]:=bV;have aP:ag (λr=>leadsTo a2 r\/r=al) aO a7:=(cm.mono λr _ h=>.inl h).trans (bU.mono λr _ h=>.inr h);have z9:=ae.size;have dW:=bf.1.size;have dX:=am.size;have dY:=aP.size;have bW:∀r,(leadsTo a2 r\/r=al)->bm r:=λr W=>W.elim (λW=>(aX r (.inr (.inl W))).1) λW=>W▸ce;have bY:∀r,(leadsTo a2 r\/r=al)->¬R r:=λr W=>cg r (bW r W);have dt:ag (dg w) w a7:=pI (j2 (a6.trans ae) dd) (j2 am (aP.mono λr _ W=>by
   rcases W with W|rfl
   .obtain⟨_,c,bd⟩:=dm bn W;exact .inl ⟨_,c,‹r=_› ▸bd,Φ⟩
   .exact .inl ⟨_,_,bp,Φ⟩))
  let du:aj:=λr=>bm r\/(aO.heap.size<=r/\r<a7.heap.size);let b0:aj:=λr=>R r\/(leads aC r/\r<aN.heap.size)\/(leads aH r/\r<aN.heap.size);have dZ:∀r,r<w.heap.size->bm r->A r:=λr W h=>(bf.2.1 r h).elim id λh=>Ω
  have b1:∀r,leads aH r->w.heap.size<=r/\r<Y.heap.size:=λr W=>by obtain⟨h1,bg⟩:=bA ai W;omega
  have cp:∀r,leads aC r->r<Y.heap.size:=λr W=>by obtain⟨h1,bg⟩:=bA bH W;omega
  have bI:∀r,leads aH r\/leads aC r->¬bm r:=λr W dv=>by
   rcases bf.2.1 r dv with h|h
   .rcases W with W|W
    .exact bQ r (.inl W) h
    .exact b7.2.2 r W h
   .rcases W with W|W
    .have:=b1 r W;omega
    .have:=cp r W;omega
  refine c6 _ ⟨dt,du,b0,cl,(Grow.ext (a6.trans ae)).trans (bf.trans ((Grow.ext am).trans ⟨aP.mono λr _ W=>bW r W,λr W=>W.imp id And.left,λr W=>.inl W⟩)),?_,λr W=>.inl W,λr W=>?_⟩
  rotate_left
  .rcases W with W|W|W
   .exact .inl W
   .exact .inr (.inl W.1)
   .exact .inr (.inr (b1 r W.1).1)
  have cq:∀ {v:x1} {bq:Nat} {l:Λ},au .i64 ab aO bq v l->(∀r,leads v r->¬bm r)->au .i64 ab a7 bq v l:=λhm dw=>bc hm aP λr W I=>dw r W (bW r I);have cr:∀r,b0 r->r<aO.heap.size:=λr W=>by
   rcases W with W|W|W
   .have:=df r W;omega
   .omega
   .omega
  refine⟨⟨.inl ce,λr W aZ=>?_,λr W=>by have:=cr r W;omega,λr W=>W.elim (λW=>by have:=ch r W;omega) And.right⟩,bC,dr,ge,L++[a],E,b9,w0,bV,⟨dh,n7 (dj.trans am) aP λr o W bB I=>bY r I (ci r o W bB),λr o W bB=>.inl (ci r o W bB)⟩,⟨(dk.ext am).aa aP λr W I=>?_,λr W=>.inl (cj r W),ck,λr W=>?_⟩,?_,⟨bo.aa bU λr W he=>?_,?_⟩,(bS.ext am).aa aP λr W I=>?_,?_⟩
  .have:=cr r aZ;rcases W with W|W
   .rcases aZ with aZ|aZ|aZ
    .exact cg r W aZ
    .exact bI r (.inr aZ.1) W
    .exact bI r (.inl aZ.1) W
   .omega
  .rcases I with I|rfl
   .exact (aX r (.inr (.inl I))).2 W
   .exact ck W
  .rcases W with W|W|W
   .exact⟨.inl (aX r (.inl W)).1,(aX r (.inl W)).2⟩
   .obtain⟨h1,bg⟩:=bo.leads W;rcases ds r W with h|h
    .exact⟨.inl (aX r (.inr (.inl h))).1,(aX r (.inr (.inl h))).2⟩
    .refine⟨.inr ⟨h,by have:=bU.size;omega⟩,λdy=>?_⟩;have:=ch r (cj r dy);omega
   .exact⟨.inl (aX r (.inr (.inr W))).1,(aX r (.inr (.inr W))).2⟩
  .rw[cF];exact bc (bR.ext am) aP λr W I=>by
    rcases I with I|rfl
    .obtain⟨rfl,c,bd⟩:=dm bn I;exact bX (bR.ext am) bd Φ W rfl
    .exact bX (bR.ext am) bp Φ W rfl
  .have he:r=al:=he;subst he;exact cc bo cn Φ W
  .refine⟨by rw[u9,bE];simp[fV],λj x f bJ a8=>?_⟩;have a8:(s.funs++[⟨sc,szs,1,cs⟩])[j]? =σ f:=a8;by_cases bN:j<s.funs.length
   .rw[j9 Ω] at bJ;rw[j9 bN] at a8;obtain⟨dz,dA,dC⟩:=((((iK.aa bD (am.aa λ_=>False) λ_ _ _ h=>h).aa aP λr _ W I=>bY r I W).mono (R':=b0) λr W=>.inl W)).2 j x f bJ a8;exact⟨dz,dA,by rw[cD j bN];exact dC⟩
   .have b2:j=s.funs.length:=by have:=(x4.1 a8).1;simp at this;omega
    rw[Z2 Ω,bE,b2,W9] at bJ;rw[Z2 Ω,b2,W9] at a8;cases bJ;cases a8;refine⟨⟨⟨_,cq (aT.ext am) λr W=>bI r (.inl W)⟩,λr W=>.inr (.inr ⟨W,?_⟩)⟩,⟨⟨_,cq (dn.ext am) λr W=>bI r (.inr W)⟩,λr W=>.inr (.inl ⟨W,?_⟩)⟩,?_⟩
    .have:=b1 r W;omega
    .have:=cp r W;omega
    .rw[b2,cC]
  .rcases I with I|rfl
   .obtain⟨rfl,c,bd⟩:=dm bn I;exact cc (bS.ext am) bd Φ W
   .exact cc (bS.ext am) bp Φ W
  .exact ((j1.aa dl (am.aa λ_=>False) λ_ _ _ h=>h).aa aP λr _ W I=>bY r I W).mono λr W=>.inl W
 have bi:=bz.ext a6;have ct:=cB.ext a6;have dD:∀r,A r->r<w.heap.size:=h.1.2.2.2;obtain⟨_,⟨_,_,ea⟩,ec,ed⟩:=id bz;have ee:cs.length<=4096:=Ω
 have bK:∀ {aQ:x2} {ba bb:x1} {ax:Nat} {K:x1->x2->Prop},Ext aW aQ->aW.heap.size<=ax->au .i64 ao aQ ax ba [1]->aJ .i64 aQ bb cs->
   (∀aE aI Y,Ext aW Y->ag (λr=>r=ax) aQ Y->w.heap.size<=aI->au .i64 ao Y aI aE (1::cs)->(Ext aW Y->K aE Y))->aA x3 (l9 #[aw,aw] aw #[ba,bb]) aQ K:=by
  intro aQ ba bb ax K X bL aR aU dE;refine hD aw.u ao.i rfl aR aU Θ Θ λaE aI Y aG an aS=>?_;have ae:Ext aW Y:=X.then aS λr W he=>by have he:r=ax:=he;omega
  have dF:=X.size;exact dE aE aI Y ae aS Ω an ae
 have a1:∀ {v:x1} {bq:Nat} {dG:o6} {e:r9} {dH:x2} {l:Λ},au dG e dH bq v l->w.heap.size<=bq-> ∀r,leads v r->¬A r:=λhm ef r W dI=>by
  obtain⟨h1,_⟩:=bA hm W;have:=dD r dI;omega
 refine⟨?_,?_⟩
 .refine (hF ct Ω).mono ?_;rintro aH cu _ ⟨ap,be,cd,ai⟩;have z5:=ap.size;refine⟨.inl ap,?_,?_⟩
  .refine (my (bi.ext ap)).mono ?_;rintro _ cw _ ⟨rfl,aq⟩;have aK:=ap.trans aq;have eg:=aK.size;have eh:=aq.size;have cz:=(bi.ext ap).ext aq;refine⟨.inl aK,?_,?_⟩
   .refine dx aw.u ao.i rfl λba ax aQ bL X aR=>?_;refine⟨.inl (aK.trans X),?_⟩;refine (lx (cz.ext X)).mono ?_;rintro bb b3 _ ⟨av,b4,b5,aU⟩;have aL:=(aK.trans X).trans av;refine⟨.inl aL,?_⟩;refine bK aL Ω (aR.ext av) aU.ls λaE aI Y ae aS aG an _=>⟨.inl ae,?_⟩;have aT:=bc (((ai.ext aq).ext X).ext av) aS λr W he=>by have he:r=ax:=he;obtain⟨h1,bg⟩:=bA ai W;omega
    exact bF ae Ω aG aT an λr W=>W.elim (a1 ai Ω r) (a1 an aG r)
   .refine (lx cz).mono ?_;rintro bb aQ _ ⟨X,b4,b5,aU⟩;refine⟨.inl (aK.trans X),?_⟩;have dF:=X.size;refine dx aw.u ao.i rfl λba ax b3 bL av aR=>?_;have aL:=(aK.trans X).trans av;refine⟨.inl aL,?_⟩;refine bK aL Ω aR (aU.ls.ext av) λaE aI Y ae aS aG an _=>⟨.inl ae,?_⟩;have aT:=bc (((ai.ext aq).ext X).ext av) aS λr W he=>by have he:r=ax:=he;obtain⟨h1,bg⟩:=bA ai W;omega
    exact bF ae Ω aG aT an λr W=>W.elim (a1 ai Ω r) (a1 an aG r)
  .refine dx aw.u ao.i rfl λba ax cw bL aq aR=>?_;have aK:=ap.trans aq;refine⟨.inl aK,?_⟩;refine (my ((bi.ext ap).ext aq)).mono ?_;rintro _ aQ _ ⟨rfl,X⟩;have br:=aK.trans X;refine⟨.inl br,?_⟩;refine (lx (((bi.ext ap).ext aq).ext X)).mono ?_;rintro bb b3 _ ⟨av,b4,b5,aU⟩;have aL:=br.trans av;refine⟨.inl aL,?_⟩;refine bK aL Ω ((aR.ext X).ext av) aU.ls λaE aI Y ae aS aG an _=>⟨.inl ae,?_⟩;have aT:=bc (((ai.ext aq).ext X).ext av) aS λr W he=>by have he:r=ax:=he;obtain⟨h1,bg⟩:=bA ai W;omega
   exact bF ae Ω aG aT an λr W=>W.elim (a1 ai Ω r) (a1 an aG r)
 .refine dx aw.u ao.i rfl λba ax cu bL ap aR=>?_;refine⟨.inl ap,?_⟩;have z5:=ap.size;have ei:ax<cu.heap.size:=nY aR Ξ;refine (hF (ct.ext ap) Ω).mono ?_;rintro aH cw _ ⟨aq,be,cd,ai⟩;have aK:=ap.trans aq;refine⟨.inl aK,?_⟩;refine (my ((bi.ext ap).ext aq)).mono ?_;rintro _ aQ _ ⟨rfl,X⟩;have br:=aK.trans X;refine⟨.inl br,?_⟩;refine (lx (((bi.ext ap).ext aq).ext X)).mono ?_;rintro bb b3 _ ⟨av,b4,b5,aU⟩;have aL:=br.trans av;refine⟨.inl aL,?_⟩;refine bK aL Ω (((aR.ext aq).ext X).ext av) aU.ls λaE aI Y ae aS aG an _=>⟨.inl ae,?_⟩;have aT:=bc ((ai.ext X).ext av) aS λr W he=>by have he:r=ax:=he;obtain⟨h1,bg⟩:=bA ai W;omega
  exact bF ae Ω aG aT an λr W=>W.elim (a1 ai Ω r) (a1 an aG r)
theorem eY {P:W7} {t af:r9} {k:o6} {b g:Nat} {z x:x1} {m:Λ} {K:x1->x2->Prop} (Y:P.underlying t=σ (.slice e)) (hi:aO P e 1 b z) (aa:z.cells.size=1)
  (h:au k e w g v l) (ab:aJ k w x m) (ac:(l.length+m.length)*b<=140737488355328) (ad:l.length+m.length<=9223372036854775807)
  (ae:∀I J w',au k e w' J I (l++m)->(∀r,leads I r->leads v r\/w.heap.size<=r)->ag (λr=>leads v r) w w'->K I w'):aA P (l9 #[t,t] af #[v,x]) w K:=by
 rcases h.2 with⟨V,ah⟩|⟨cap,cs,V,ak,al⟩
 .have ai:l=[]:=Z5 ah;subst ai;have h':au k e w w.heap.size v []:=by rw[V];exact au.nil _ _ _ _
  refine hD Y hi aa h' ab ac ad λI J w' W hm X=>ae I J w' hm (λr U=>.inr ?_) (X.mono λr U he=>by have he:r=w.heap.size:=he;omega);obtain⟨aj,_⟩:=bA hm U;omega
 .refine hD Y hi aa h ab ac ad λI J w' W hm X=>ae I J w' hm (λr U=>?_) (X.mono λr U he=>⟨_,_,_,V,he.symm⟩);obtain⟨aj,_⟩:=bA hm U;rcases W with W|W
  .exact .inl ⟨_,_,_,V,by show g=r;omega⟩
  .exact .inr Ω
def addVar (s:aF) (u:Λ):aF:={s with vars:=s.vars++[newVar u]}
theorem Kh (s:aF) (u:Λ):gF (addVar s u)=gF s++[((3+(s.vars.flatMap gE).length:Nat):Int)]:=by
 unfold gF addVar;rw[u9,U2,List.range_succ,Z3];congr 1
 .apply List.map_congr_left;intro i hi;have:=List.mem_range.1 hi;unfold eM;simp only[List.take_append_of_le_length (show i<=s.vars.length by omega)]
 .simp[eM]
theorem Ki {s:aF} {u:Λ} (I:s.funs=[]):(addVar s u).cells=s.cells++(0::0::u):=by
 unfold aF.cells addVar hq;simp only[I,List.flatMap_nil,X6,List.flatMap_append,List.flatMap_singleton,X1];rfl
def eC (n:aV) (i j:Nat):aF:=⟨n.zero,(n.unary.take i).map newVar,(n.funs.take j).map (jm n.sizes),[]⟩
theorem A5 {n:aV} {i:Nat} {u:Λ} (h:n.unary[i]? =σ u):eC n (i+1) 0=addVar (eC n i 0) u:=by
 unfold eC addVar;simp only[r8,h,Z4,Z3,List.map_singleton]
theorem Kj {n:aV} {i:Nat} {g:cw} (h:n.funs[j]? =σ g):eC n i (j+1)=fV (eC n i j) g.1 (bF n.sizes g.1) g.2:=by
 unfold eC fV;simp only[r8,h,Z4,Z3,List.map_singleton];rfl
theorem uM (n:aV):eC n n.unary.length n.funs.length=cV n:=by
 unfold eC cV;rw[o9,o9]
theorem uN {α β:Type} {f:α->List β} {b:Nat}:∀ {L:List α},(∀x∈L,(f x).length<=b)->(L.flatMap f).length<=L.length*b
 |[],_=>Ξ
 |x::L,h=>by
  rw[V5,u9,j5,U5];have:=uN (L:=L) λy I=>h y (.tail _ I);have:=h x (.head _);omega
theorem rX {n:aV} (I:ig n) (ac:n.funs.length<=256) (i j:Nat):(eC n i j).cells.length<=2000000:=by
 rw[pC];have h1:=uN (f:=gE) (b:=34) (L:=(eC n i j).vars) λx U=>by
  obtain⟨u,hu,rfl⟩:=Z1.1 (show x∈(n.unary.take i).map newVar from U);obtain⟨p,V⟩:=Y7.1 (U3 hu);have ad:=I.jl;have ae:=(x4.1 V).1;obtain⟨z,W⟩:∃z,n.sizes[p]? =σ z:=⟨_,y0 Ω⟩;have Y:=(I.unary p z u W V).1;have J:=I.sizes.2.2 z (x5 W);show u.length+2<=34;omega
 have Y:=uN (f:=fU) (b:=4097) (L:=(eC n i j).funs) λx U=>by
  obtain⟨g,aa,rfl⟩:=Z1.1 (show x∈(n.funs.take j).map (jm n.sizes) from U);have J:=(I.funs g (U3 aa)).1;have X:=J.len;have ab:=J.small;show g.2.length+1<=4097;omega
 have J:(eC n i j).vars.length<=64:=by
  show ((n.unary.take i).map newVar).length<=64;rw[u4,o4];have:=I.jl;have:=I.sizes.2.1;omega
 have X:(eC n i j).funs.length<=256:=by
  show ((n.funs.take j).map (jm n.sizes)).length<=256;rw[u4,o4];omega
 have ab:=Y5 34 J;have af:=Y5 4097 X;omega
def Plain (t:aD):Prop:=t.marks=[]/\t.olds=[]/\ds t []/\t.ever=0
theorem Plain.set {t:aD} (h:Plain t) (i:Nat) (x:Int):Plain (t.set i x):=⟨(aD.uI _ _ _).trans h.1,(aD.uK h.1 _ _).trans h.2.1,h.2.2.1.set,(aD.n8 _ _ _).trans h.2.2.2⟩
theorem Plain.lay {t:aD} (h:Plain t) (l:Λ):Plain (hr t l):=⟨(mK _ _ _).trans h.1,(AY h.1 _ _).trans h.2.1,h.2.2.1.eX l _,(uL _ _ _).trans h.2.2.2⟩
theorem Plain.put {s:aF} {t:aD} (h:Plain t) (cs:Λ):Plain (kR s t cs):=(h.lay _).set _ _
def Kk (w:x2) (n:aV) (v:x1) (w':x2):Prop:=Ext w w'/\ ∃al ah A R t,v=Γ al/\StateM w' al ah A R n (cV n) t/\t.bT=(cV n).cells/\Plain t/\ ∀r,A r->w.heap.size<=r
def Kl (w:x2) (R0:aj) (n:aV) (v:x1) (w':x2):Prop:=Ext w w'/\ ∃al ah A R t,v=Γ al/\StateM w' al ah A R n (cV n) t/\t.bT=(cV n).cells/\Plain t/\(∀r,A r->w.heap.size<=r)/\ ∀r,R r->R0 r\/w.heap.size<=r
theorem A6 {w0:x2} {R0:aj} {X:Nat} {n:aV} (bd:e8 w0 X n) (aU:Ext w0 w) (bB:∀r o,w0.heap[r]? =σ o->fK o=true->R0 r) (be:∀r,R0 r->r<w.heap.size) (Y:ig n) (bC:n.funs.length<=256):ak x3 sU [Γ X] w (Kl w R0 n):=by
 have h:=bd.ext aU;have cb:=Y.jl;have df:=Y.sizes.2.1;refine aB func48 ?_;rw[cC lg.u];simp only[Z0,aS];refine (J5 (n:=3) Ω).mono ?_;rintro _ U _ ⟨aW,ah,rfl,cc⟩;rw[cW (cs:=#[Γ X,Γ ah,.slice ν 0 0,.slice ν 0 0,.slice ν 0 0]) Ψ];refine bN λal V dg aE aF=>?_;have aF:af V al bt [Γ X,Γ ah,.slice ν 0 0,.slice ν 0 0,.slice ν 0 0]:=aF;have dh:=aW.size;have di:=aE.size;have dj:=aF.lt;have cd:dT V al ah X (.slice ν 0 0) (.slice ν 0 0) (.slice ν 0 0) (λr=>r=al\/(w.heap.size<=r/\r<U.heap.size)) R0 n ⟨0,[],[],[]⟩ ⟨o7 3 ⟨0,0⟩,[],[],0⟩:=by
  refine⟨⟨.inl rfl,λr J ax=>?_,λr J=>?_,λr J=>?_⟩,0,0,0,[],[],λr=>w.heap.size<=r/\r<U.heap.size,w0,aF,⟨bd,aU.trans (aW.trans aE),bB⟩,⟨(cc.cut).ext aE,λr J=>.inr J,λJ=>?_,λr J=>?_⟩,au.nil _ _ _ _,⟨a6.nil _ _ _ _ _,rfl,λj x f aG=>by simp at aG⟩,a6.nil _ _ _ _ _,rfl,λj x f aG=>by simp at aG⟩
  .have ax:=be r ax;rcases J with J|J<;>omega
  .have J:=be r J;omega
  .rcases J with J|J<;>omega
  .omega
  .rcases J with J|J|J
   .obtain⟨a,dk,c,bf,dl⟩:=J;cases bf
   .exact (eJ J).elim
   .exact (eJ J).elim
 intro dm aH _ _;have ce:=cd.ext aH;rw[ay,ac bt.p rfl,ad Ψ ((aF.ext aH).Q1 rfl)];refine (Kd (h.ext ((aW.trans aE).trans aH))).mono ?_;rintro _ dn _ ⟨rfl,aX⟩;refine⟨.inl aX,?_⟩;have cg:=ce.ext aX;obtain⟨bg,ch,ci⟩:=cg.pE;refine (pB (i:=0) (y:=0) ch rfl Φ ⟨Ξ,Ξ,Ξ⟩).mono ?_;rintro _ bD _ ⟨_,cj,ck,cl⟩;obtain⟨cm,bE,bi⟩:=ci cj bD _ ck cl;have bi:=bi.same (uH ⟨0,[],[],[]⟩ n.zero);have z3:=aH.size;have z4:=aX.size;have cn:=((aW.trans aE).trans aH).trans aX;have bF:Ext w bD:=cn.then bE.1 λr J he=>by rcases he with he|he<;>omega
 refine (uG (h.ext bF)).mono ?_;rintro _ dp _ ⟨rfl,bG⟩;refine bP.range n.sizes.length (λi aY=>∃A ap t,Ext w aY/\dT aY al ah X ap (.slice ν 0 0) (.slice ν 0 0) A R0 n (eC n i 0) t/\t.bT=(eC n i 0).cells/\Plain t/\ ∀r,A r->w.heap.size<=r) Ω
  ⟨cm,_,_,bF.trans bG,bi.ext bG,?_,?_,λr J=>?_⟩ ?_ ?_
 .rw[aD.nx];rfl
 .exact Plain.set (t:=⟨o7 3 ⟨0,0⟩,[],[],0⟩) ⟨rfl,rfl,⟨rfl,rfl,λc am=>by rw[(List.mem_replicate.1 am).2];exact o8 _⟩,rfl⟩ _ _
 .rcases bE.2.1 r J with he|he
  .rcases he with he|he<;>omega
  .omega
 .rintro i aY cp hi ⟨A,ap,t,aA,bj,aI,aJ,aZ⟩ cq;obtain⟨u,hu⟩:∃u,n.unary[i]? =σ u:=⟨_,y0 Ω⟩;obtain⟨bH,bI⟩:∃z,n.sizes[i]? =σ z:=⟨_,y0 Ω⟩;have dq:u.length<=32:=by
   have dr:=(Y.unary i bH u bI hu).1;have ds:=Y.sizes.2.2 bH (x5 bI);omega
  refine Υ λ_=>?_;refine (AV (h.ext aA) Y).mono ?_;rintro dt du _ ⟨cr,_,ct⟩;obtain⟨dv,dw,cu⟩:=ct u Ω (by rw[j0];exact hu);intro bk bJ _ _;have bl:=cr.trans bJ;have bK:=bj.ext bl;obtain⟨⟨_,_,_,aK⟩,cw,bL,ge,L,E,bg,w0,a1,_⟩:=id bK;have dy:=bl.size;have dz:=aA.size;rw[ay,ac bt.p rfl,ad Ψ (a1.Q2 rfl)];refine ny (l:=[0,0]) aw.u ao.i Ω rfl Ψ λcz dA dC dD a2 bM=>?_;refine⟨.inl a2,?_⟩;refine eY aw.u ao.i rfl bM ((cu.ext bJ).ls.ext a2) Θ Θ λcA dE cB cD cE cF=>?_;have bO:∀r,leads cz r->bk.heap.size<=r:=λr J=>by obtain⟨bf,_⟩:=bA bM J;omega
  have a7:Ext bk cB:=a2.then cF λr J he=>by have:=bO r he;omega
  refine⟨.inl a7,?_⟩;have cG:=bK.ext a7;have cH:∀r,leads cA r->bk.heap.size<=r:=λr J=>by
   rcases cE r J with h|h
   .exact bO r h
   .have:=a2.size;omega
  have cI:t.cells.length<=2000000:=by
   have h1:=rX Y bC i 0;rw[<-aI] at h1;unfold aD.bT at h1;rwa [u4] at h1
  have cJ:t.olds.length=0:=by rw[aJ.2.1];rfl
  have cK:t.marks.length=0:=by rw[aJ.1];rfl
  refine (A2 cG cD.ls (λr J W=>by have:=aK r W;have:=cH r J;omega) Θ Θ Ω).mono ?_;rintro _ dF _ ⟨rfl,_,bm,bn,cL⟩;obtain⟨⟨bQ,bR,cM,bS⟩,cw,bL,ge,L,E,bg,w0,a1,⟨cN,cO,bU⟩,⟨cP,bV,bW,a8⟩,cQ,⟨cR,cS⟩,cT,cU⟩:=id cL;refine⟨.inr (rW (off:=2) (z:=2) a1 (λK=>by rw[ac bt.p rfl]) Ψ rfl),?_⟩;refine dx (k:=.i64) ai.u ab.i rfl λdG dH bY dI an cX=>?_;have bo:=a1.ext an;refine⟨.inr (rW (off:=2) (z:=2) bo (λK=>by rw[ac bt.p rfl]) Ψ rfl),?_⟩;have bZ:(gF (eC n i 0)).length=i:=by
   unfold gF eC;simp only[u4,List.length_range,o4];omega
  have b0:=cQ.ext an;refine eY ai.u ab.i rfl b0 cX.ls (by rw[bZ];simp;omega) (by rw[bZ];simp;omega) λb1 cY dJ aL cZ b2=>?_;have b3:=bo.aa b2 λhe=>bX b0 bo Φ he rfl;rw[ay,ac bt.p rfl];refine bh ai.i aL.ls.cells.1 aL.ls.cells.2 b3 Ξ λbp bq dK br=>?_;have br:af bp al bt [Γ X,Γ ah,b1,.slice ν 0 0,.slice ν 0 0]:=br;rw[aN];have am:ag (λr=>leads ap r\/r=al) bY bp:=(b2.mono λr _ h=>.inl h).trans (bq.mono λr _ h=>.inr h);have dL:=a7.size;have z12:=bn.1.size;have dM:=an.size;have dN:=am.size;have b4:∀r,bm r->w.heap.size<=r:=λr J=>(bn.2.1 r J).elim (aZ r) λh=>Ω
  have b5:∀r,(leads ap r\/r=al)->bm r:=λr J=>J.elim (λJ=>(a8 r (.inl J)).1) λJ=>J▸bQ;have c0:(eC n (i+1) 0).cells=(eC n i 0).cells++(0::0::u):=by rw[A5 hu];exact Ki rfl
  have c1:t.cells.length=3+((eC n i 0).vars.flatMap gE).length:=by
   have h1:=congrArg R4 aI;rw[pC] at h1;unfold aD.bT at h1;rw[u4] at h1;have:((eC n i 0).funs.flatMap fU).length=0:=by simp[eC]
   omega
  refine cq _ ⟨λr=>bm r\/(bY.heap.size<=r/\r<bp.heap.size),b1,hr t ([0,0]++u),?_,⟨⟨.inl bQ,λr J ax=>?_,λr J=>by have:=cM r J;omega,λr J=>?_⟩,cY,bL,ge,L,E,bg,w0,br,⟨cN,n7 (cO.trans an) am λr o J c2 I=>bR r (b5 r I) (bU r o J c2),bU⟩,⟨(cP.ext an).aa am λr J I=>?_,λr J=>.inl (bV r J),bW,λr J=>?_⟩,?_,⟨(cR.ext an).aa am λr J I=>?_,?_⟩,(cT.ext an).aa am λr J I=>?_,?_⟩,?_,aJ.lay _,λr J=>?_⟩
  .exact ((aA.trans (bl.trans a7)).then bn.1 λr J he=>by have:=aZ r he;omega).trans an |>.then am λr J I=>by have:=b4 r (b5 r I);omega
  .rcases J with J|J
   .exact bR r J ax
   .have ax:=be r ax;omega
  .rcases J with J|J
   .have:=bS r J;omega
   .exact J.2
  .rcases I with I|rfl
   .exact (a8 r (.inl I)).2 J
   .exact bW J
  .rcases J with J|J|J
   .have dO:=(bA aL J);rcases cZ r J with h|h
    .exact⟨.inl (a8 r (.inl h)).1,(a8 r (.inl h)).2⟩
    .refine⟨.inr ⟨h,by have:=bq.size;omega⟩,λc3=>by have:=bS r (bV r c3);omega⟩
   .exact (eJ J).elim
   .exact (eJ J).elim
  .rw[A5 hu,Kh,<-c1];exact bc aL bq λr J he=>by
    have he:r=al:=he;subst he;exact bX aL b3 Φ J rfl
  .exact (eJ J).elim
  .refine⟨cS.1,λj x f aG bu=>?_⟩;have bu:((n.funs.take 0).map (jm n.sizes))[j]? =σ f:=bu;simp at bu
  .exact (eJ J).elim
  .refine⟨cU.1,λj x e aG he=>?_⟩;have he:([]:List hp)[j]? =σ e:=he;simp at he
  .rw[A0,c0,aI];rfl
  .rcases J with J|J
   .exact b4 r J
   .omega
 .rintro aY cp ⟨A,ap,t,aA,bj,aI,aJ,aZ⟩;rw[aq,ae];refine⟨λh=>Ω,λ_=>?_⟩;refine (AU (h.ext aA)).mono ?_;rintro _ dP _ ⟨rfl,b6⟩;refine bP.range n.funs.length (λj aM=>∃A R ba t,Ext w aM/\dT aM al ah X ap ba (.slice ν 0 0) A R n (eC n n.sizes.length j) t/\t.bT=(eC n n.sizes.length j).cells/\Plain t/\(∀r,A r->w.heap.size<=r)/\ ∀r,R r->R0 r\/w.heap.size<=r) Ω
   ⟨A,_,_,t,aA.trans b6,bj.ext b6,aI,aJ,aZ,λ_ h=>.inl h⟩ ?_ ?_
  .rintro j aM c4 c5 ⟨A,R,ba,t,av,aO,aC,aP,aQ,bw⟩ c6;obtain⟨g,bb⟩:∃g,n.funs[j]? =σ g:=⟨_,y0 c5⟩;have bx:=(Y.funs g (x5 bb)).1;refine Υ λ_=>?_;refine (Ke (h.ext av) Y bb).mono ?_;rintro az dQ _ ⟨aR,gs,dR,b7⟩;refine (Kg bd (aU.trans (av.trans aR)) bb).mono ?_;rintro _ dS _ ⟨aT,dU,dV,c7,rfl,dW,dX,c8,b8⟩;have z0:=aU.size;have c9:∀r,leads c7 r->r<w.heap.size:=λr J=>by obtain⟨c,bz⟩:=b8 r J;have:=bz.lt;omega
   have da:=(aO.ext aR).ext aT;have aK:∀r,A r->r<aM.heap.size:=aO.1.2.2.2;have dY:=aR.size;have cI:t.cells.length<=2000000:=by
    have h1:=rX Y bC n.sizes.length j;rw[<-aC] at h1;unfold aD.bT at h1;rwa [u4] at h1
   have cJ:t.olds.length=0:=by rw[aP.2.1];rfl
   have cK:t.marks.length=0:=by rw[aP.1];rfl
   have dZ:g.2.length<=4096:=by have:=bx.len;have:=bx.small;omega
   have ea:g.1.length<=6:=bx.scope.2;refine (A4 (sc:=g.1) da aC (b7.ls.ext aT) (λr J W=>by have:=aK r W;obtain⟨bf,_⟩:=bA b7 J;omega) c8 ⟨λW=>by have:=aK _ W;omega,λW=>by have:=aK _ W;omega,λr J W=>by have:=aQ r W;have:=c9 r J;omega⟩ Ω Ω Ω Ω ?_).mono ?_
   .show ((n.funs.take j).map (jm n.sizes)).length<=_;rw[u4,o4];omega
   rintro _ eb _ ⟨rfl,_,db,R',dc,b9,dd,ec,de⟩;rw[aN];have ca:=Kj (i:=n.sizes.length) bb;refine c6 _ ⟨db,R',dc,kR (eC n n.sizes.length j) t g.2,((av.trans aR).trans aT).then b9.1 (λr J W=>by have:=aQ r W;omega),?_,?_,aP.put _,λr J=>?_,λr J=>?_⟩
   .rw[ca];exact dd
   .rw[ca];exact A3 aC
   .rcases b9.2.1 r J with h|h
    .exact aQ r h
    .have:=av.size;have:=aT.size;omega
   .rcases de r J with h|h|h
    .exact bw r h
    .exact .inl (by obtain⟨c,bz⟩:=b8 r h;exact bB r _ bz rfl)
    .exact .inr (by have:=av.size;have:=aR.size;have:=aT.size;omega)
  .rintro aM c4 ⟨A,R,ba,t,av,aO,aC,aP,aQ,bw⟩;rw[aq,ae];refine⟨λh=>Ω,λ_=>?_⟩;have e:eC n n.sizes.length n.funs.length=cV n:=by rw[<-cb];exact uM n
   rw[e] at aO aC;exact⟨av,al,ah,A,R,t,rfl,⟨X,ap,ba,_,aO⟩,aC,aP,aQ,bw⟩
theorem Km {n:aV} (h:e8 w I n) (J:ig n) (U:n.funs.length<=256):ak x3 sU [Γ I] w (Kk w n):=
 (A6 (R0:=λr=>r<w.heap.size) h (Ext.refl w) (λr o V _=>(j6.1 V).1) (λ_ h=>h) J U).mono λ_ _ _ ⟨h1,al,ah,A,R,t,W,X,Y,aa,ab,_⟩=>⟨h1,al,ah,A,R,t,W,X,Y,aa,ab⟩
theorem Kn (ap:Bytes l) (aD:l.length<=100000):ak x3 Ey [bz l] w λv w'=>v=je l/\Ext w w':=by
 refine aB func207 ?_;refine h4 (λaJ aK U=>Ext w U/\ ∃ (m:Λ) (s:Int),aJ=bz m/\aK=Δ s/\Bytes m/\m.length<=100000/\nM l m s) ?_ ?_
 .rintro _ _ U ⟨au,m,s,rfl,rfl,al,a2,am⟩;rw[mp cP.u,bk,ae];refine⟨λav=>?_,λav=>?_⟩
  .have aw:m=[]:=Z5 Ω;exact⟨by rw[q5 am (by rw[aw];rfl)],au⟩
  have aw:m≠[]:=λh=>av (by rw[h];rfl);refine m8.range m.length (λi _ _ ax ay X=>Ext U X/\ ∃ (n:Int) (I:Bool),ax= .int .u64 n/\ay= .bool I/\ln n I ((m.take i).foldl eH 0)/\(m.take i).all fy=true) Ω ⟨Ext.refl _,0,false,rfl,rfl,FU,rfl⟩ ?_ ?_
  .rintro i aL t3 _ _ X aM hi ⟨ag,n,I,rfl,rfl,aa,ah⟩ aO;obtain⟨b,ab⟩:∃b,m[i]? =σ b:=⟨_,y0 hi⟩;have a6:=al b (x5 ab);rw[mp cP.u,aq,ae];refine⟨λ_=>?_,λh=>Ω⟩;refine tu (λ_ _ ax ay Y=>Ext U Y/\ ∃ (n:Int) (I:Bool),ax= .int .u64 n/\ay= .bool I/\ln n I ((m.take (i+1)).foldl eH 0)/\(m.take (i+1)).all fy=true) ?_ ?_
   .rintro a7 a8 a3 a4 Y aP;rw[aN];exact aO _ _ _ _ _ aP
   intro aR ad;refine aQ (λv Y=>X=Y/\v= .bool (!fy b)) ?_ ?_
   rotate_left
   .intro az W;rw[oS rfl cP.u al ab,aq,ae];refine⟨λh=>W _ _ ⟨rfl,by unfold fy;rw[decide_eq_false Ω];rfl⟩,λh=>?_⟩;rw[oS rfl cP.u al ab,bR];refine W _ _ ⟨rfl,?_⟩;unfold fy;congr 1;by_cases aE:57<b
    .rw[decide_eq_true aE,decide_eq_false Ω];rfl
    .rw[decide_eq_false aE,decide_eq_true Ω];rfl
   rintro _ _ ⟨rfl,rfl⟩;cases aA:fy b with
   |false=>
    rw[X5,bQ];exact⟨by rw[q5 am (yW ab aA)],au.trans ag⟩
   |true=>
    rw[Y1,aS];have aT:=of_decide_eq_true aA;have an:=FT aa aT;rw[yU ab,yT ab,ah,aA] at ad;have aU:=aa.1;have aV:=aa.2.1;refine aQ (λv Y=>X=Y/\v= .bool (I||decide (461168601842738790<n))) ?_ ?_
    rotate_left
    .intro az W;rw[bR,ae];refine⟨λh=>W _ _ ⟨rfl,by rw[decide_eq_true h,Bool.or_true]⟩,λh=>W _ _ ⟨rfl,by rw[decide_eq_false h,Bool.or_false]⟩⟩
    rintro _ _ ⟨rfl,rfl⟩;by_cases ai:I=true\/461168601842738790<n
    .have ac:(I||decide (461168601842738790<n))=true:=by rcases ai with h|h<;>simp[h]
     rw[if_pos ai,ac] at an;rw[ac,bf,Y1,aS];exact ad _ _ _ _ _ ⟨ag,n,true,rfl,rfl,an,rfl⟩
    .have ac:(I||decide (461168601842738790<n))=false:=by
      cases I with
      |true=>exact absurd (.inl rfl) ai
      |false=>simp;omega
     rw[if_neg ai,ac] at an;have ba:¬461168601842738790<n:=λh=>ai (.inr h);rw[ac,bf,X5,bQ,fv,oS rfl cP.u al ab,c3,wrap_u8 Ω Ω,e2 cv.u ew.u,wrap_u64 Ω Ω,wrap_u64 Ω Ω,aN,wrap_u64 Ω Ω];exact ad _ _ _ _ _ ⟨ag,_,false,rfl,rfl,an,rfl⟩
  .rintro aL t3 _ _ X aM ⟨ag,n,I,rfl,rfl,aa,ah⟩;rw[o9] at ah aa;rw[mp cP.u,aq,ae];refine⟨λh=>Ω,λ_=>?_⟩;have aF:=FV aa;have aU:=aa.1;have aV:=aa.2.1;have aW:∀ {x:Int},x=m.foldl eH 0->0<=x->x<=4611686018427387904->(J x3 (convert ew ao (.int .u64 x)) X λaX=>
     J x3 (aC .mul ao false false (Δ s) aX) X λaY=>(λv w'=>v=je l/\Ext w w') (.tuple #[aY,(Δ 0)]) X):=by
    intro x aZ av h1;rw[e2 ew.u ao.u,wrap_i64 Ω Ω,fv];have hw:Y6.wrap (s*x)=s*x:=by
     rcases am.1 with rfl|rfl<;>exact wrap_i64 Ω Ω
    rw[hw];refine⟨?_,au.trans ag⟩;rw[yZ am (yV aw ah),aZ]
   refine aQ (λv Y=>X=Y/\v= .int .u64 (m.foldl eH 0)) ?_ ?_
   .rintro _ _ ⟨rfl,rfl⟩;have aG:=qV (l:=m) (n:=0) ah ⟨Int.le_refl _,Φ⟩;exact aW rfl aG.1 aG.2
   intro az W;refine aQ (λv Y=>X=Y/\v= .bool (I||decide (4611686018427387904<n))) ?_ ?_
   .rintro _ _ ⟨rfl,rfl⟩;rw[bD];refine⟨λh=>W _ _ ⟨rfl,?_⟩,λh=>W _ _ ⟨rfl,?_⟩⟩
    .have h':I=true\/4611686018427387904<n:=by simpa using h
     rw[aF,if_pos h']
    .have h':¬(I=true\/4611686018427387904<n):=by
      intro aj;rcases aj with aj|aj
      .simp[aj] at h
      .simp[aj] at h
     rw[aF,if_neg h']
   .intro bb aH;cases I with
    |true=>rw[bQ];exact aH _ _ ⟨rfl,rfl⟩
    |false=>rw[aS,bR];exact aH _ _ ⟨rfl,by rw[Bool.false_or]⟩
 .intro aR ad;refine aQ (λv V=>w=V/\ ∃c:Bool,v= .bool c/\(c=true↔l[0]? =σ 45)) ?_ ?_
  .rintro _ _ ⟨rfl,c,rfl,aI⟩;rw[bD];refine⟨λa1=>?_,λac=>?_⟩
   .obtain⟨m,rfl⟩:∃m,l=45::m:=by
     have:=aI.1 a1;cases l with
     |nil=>simp at this
     |cons x m=>exact⟨m,by simp at this;rw[this]⟩
    rw[yc (y:=1) (i:=1) rfl cP.u Ξ];exact ad _ _ _ ⟨Ext.refl _,m,-1,rfl,rfl,λb af=>ap b (.tail _ af),by simp at aD;omega,yX⟩
   .refine ad _ _ _ ⟨Ext.refl _,l,1,rfl,rfl,ap,aD,yY λb af he=>?_⟩;subst he;have:=aI.2 af;rw[ac] at this;cases this
  .intro az W;rw[mp cP.u,bR,ae];refine⟨λh=>?_,λh=>W _ _ ⟨rfl,false,rfl,?_⟩⟩
   .obtain⟨b,af⟩:∃b,l[0]? =σ b:=⟨_,y0 Ω⟩;rw[oS (y:=0) (i:=0) rfl cP.u ap af,bk];refine W _ _ ⟨rfl,_,rfl,?_⟩;rw[decide_eq_true_eq,af];exact⟨λh=>by rw[h],λh=>Z8 h⟩
   .have:l=[]:=Z5 Ω;subst this;simp
theorem Ko {s:Go.Sem x1} (h:J x3 s w λu=>u=v) (I:K v):J x3 s w K:=by
 obtain⟨u,h1,rfl⟩:=h;exact⟨u,h1,I⟩
abbrev gm:Type:=Λ×Int
def fa (x:gm):List x1:=[bz x.1,Δ x.2]
theorem uO (x:gm):∀u∈fa x,u.oneCell'=true:=by
 intro u hu;simp[fa] at hu;rcases hu with rfl|rfl<;>rfl
def hU (w:x2) (v:x1) (L:List gm):Prop:=bW w 2 v L.length (L.flatMap fa)
theorem uP {g:Nat} {L:List gm} (h:a6 fa 2 cd w g v L):hU w v L:=h.sl
theorem A7 {L:List gm} {I:r9} (h:hU w v L):J x3 (Y3 #[eT] I #[v]) w K=K (Δ (L.length:Int)):=by
 obtain⟨_,_,_,_,_,rfl,_⟩:=h;exact gw eT.u
theorem Kp {k:Nat} {cs:List x1} (h:bW w k v n cs) (U:ag S w w') (V:∀r,leadsTo v r->¬S r):bW w' k v n cs:=by
 obtain⟨h1,b,o,base,cap,rfl,W,X,J,Y⟩:=h;refine⟨h1,b,o,base,cap,rfl,W,X,J,?_⟩;rcases Nat.eq_zero_or_pos n with I|I
 .have:cs=[]:=Z5 (by rw[h1,I,Nat.zero_mul]);subst this;intro j v aa;simp at aa
 .have ab:=J I;exact nq U (V b ⟨⟨b,o,ν⟩,n,cap,by rw[ab],rfl⟩) Y
theorem hU.aa {L:List gm} (h:hU w v L) (I:ag S w w') (J:∀r,leadsTo v r->¬S r):hU w' v L:=Kp h I J
theorem A8 {x:gm} {L:List gm} (h:hU w v (x::L)) (I:∀b o,w.rangeAt b o (fa x)->K (.pointer (σ ⟨b,o,ν⟩))):J x3 (n0 eT v (Δ 0)) w K:=by
 obtain⟨_,b,o,base,cap,rfl,_,_,U,V⟩:=h;have:=fi (P:=x3) (w:=w) (K:=K) (k:=.i64) (c:=cap) eT.u cd.i (show 0<(x::L).length by simp) U;rw[show ((0:Nat):Int)=0 from rfl] at this;rw[this];refine I _ _ λj u hu=>?_;have W:=(x4.1 hu).1;rw[Nat.zero_mul,Nat.add_zero];exact V j u (by rw[V5,j9 W];exact hu)
theorem Kq {x:gm} {L:List gm} (h:hU w v (x::L)) (W:∀U,(∀w',hU w' v (x::L)->hU w' U L)->(∀r,leadsTo U r->leadsTo v r)->K U):J x3 (W6 eT v (σ (Δ 1)) ν ν) w K:=by
 have ab:=h;obtain⟨_,b,o,base,cap,rfl,ac,_⟩:=h;rw[fw eT.u cd.i (l8 1 1 rfl) hC ez Ξ Ω (o8 _)];refine W _ (λw' X=>?_) λr Y=>?_
 .have:=bW.part (l:=1) (h:=(x::L).length) (m:=cap) X Ξ (o8 _) Ω (o8 _);have e:(((x::L).flatMap fa).drop (1*2)).take (((x::L).length-1)*2)=L.flatMap fa:=by
   rw[V5];have aa:(L.flatMap fa).length=L.length*2:=fB (k:=2) λ_ _=>rfl;show (L.flatMap fa).take _=_;rw[l5 (by rw[aa,j5,Nat.add_sub_cancel];exact o8 _)]
  rw[e] at this;exact this
 .obtain⟨a,n,c,I,V⟩:=Y;split at I
  .cases I;exact⟨_,_,_,rfl,V⟩
  .cases base with
   |none=>cases I
   |some q=>cases I;exact⟨_,_,_,rfl,V⟩
theorem Kr {g:Nat} {L:List gm} (W:y=(n:Int)) (h:a6 fa 2 cd w g v L) (X:n<=L.length) (Y:∀U,hU w U (L.take n)->(∀r,leadsTo U r->leadsTo v r)->K U):J x3 (W6 eT v ν (σ (Δ y)) ν) w K:=by
 have aa:=uP h;obtain⟨_,b,o,base,cap,rfl,ad,_⟩:=h.sl;rw[fw eT.u cd.i hB (ma n y W) ez (X3 _) Ω (o8 _)];refine Y _ ?_ λr ab=>?_
 .have:=bW.part (l:=0) (h:=n) (m:=cap) aa (X3 _) X Ω (o8 _);have e:((L.flatMap fa).drop (0*2)).take ((n-0)*2)=(L.take n).flatMap fa:=by
   rw[Nat.zero_mul,List.drop_zero,Nat.sub_zero,pi (f:=fa) (k:=2) n λ_ _=>rfl]
  rw[e] at this;have ac:(L.take n).length=n-0:=by rw[o4];omega
  unfold hU;rw[ac];exact this
 .obtain⟨a,n,c,I,V⟩:=ab;split at I
  .cases I;exact⟨_,_,_,rfl,V⟩
  .cases base with
   |none=>cases I
   |some q=>cases I;exact⟨_,_,_,rfl,V⟩
def Ks (w:x2) (pl:Λ) (v:x1) (w':x2):Prop:=Ext w w'/\ ∃I L,∃bad:Int,v= .tuple #[I,Δ bad]/\hU w' I L/\L.map (·.1)=(lex pl).1/\(0<=bad↔(lex pl).2=false)/\(∀r,leadsTo I r->w.heap.size<=r)/\ ∀r,leadsTo I r-> ∃c,af w' r cd c
theorem Kt {p:x1} (ao:aJ .u8 w p pl) (aX:Bytes pl) (bu:pl.length<=65536):ak x3 D1 [p] w (Ks w pl):=by
 refine aB func156 ?_;rw[aT cB.u ao];refine m8.range pl.length (λi _ _ aa aj U=>Ext w U/\ ∃g L,∃ (V:List (Λ)) (ab:Λ) (op:Bool),aj= .bool op/\a6 fa 2 cd U g aa L/\L.map (·.1)=(if op then V++[ab] else V)/\(op=true->ab.length<=i)/\L.length<=i/\hg (pl.drop i) V ab op=lex pl/\ ∀r,leadsTo aa r->w.heap.size<=r) ao.le
  ⟨Ext.refl _,0,[],[],[],false,rfl,a6.nil _ _ _ _ _,rfl,(λh=>by cases h),o8 _,Ge pl,λr af=>(eJ af).elim⟩ ?_ ?_
 rotate_left
 .rintro aY t3 aa aj U aZ ⟨ah,g,L,V,ab,op,rfl,ag,Y,_,_,W,ai⟩;rw[aq,ae];refine⟨λh=>Ω,λ_=>?_⟩;rw[List.drop_length] at W;have W:(if op then V++[ab] else V,true)=lex pl:=W;exact⟨ah,aa,L,-1,rfl,uP ag,by rw[Y,<-W],by rw[<-W];simp,ai,λr af=>by obtain⟨rfl,c,aw⟩:=dm ag af;exact⟨c,aw⟩⟩
 rintro i aY t3 aa aj U aZ hi ⟨ah,g,L,V,ab,op,rfl,ag,Y,aK,bw,W,ai⟩ a1;obtain⟨b,ax⟩:∃b,pl[i]? =σ b:=⟨_,y0 hi⟩;have bx:=aX b (x5 ax);have aL:pl.drop i=b::pl.drop (i+1):=by rw[V0 hi,(x4.1 ax).2]
 rw[aL] at W;unfold hg at W;refine Υ λ_=>?_;refine tu (λ_ _ aa aj ay=>Ext w ay/\ ∃g L,∃ (V:List (Λ)) (ab:Λ) (op:Bool),aj= .bool op/\a6 fa 2 cd ay g aa L/\L.map (·.1)=(if op then V++[ab] else V)/\(op=true->ab.length<=i+1)/\L.length<=i+1/\hg (pl.drop (i+1)) V ab op=lex pl/\ ∀r,leadsTo aa r->w.heap.size<=r) ?_ ?_
 .rintro bA bB a3 a4 ay a2;rw[aN];exact a1 _ _ _ _ _ a2
 intro bC aM;rw[bd cB.u cv.i Ψ (ao.ext ah) ax];refine aQ (λv al=>U=al/\v= .bool (cj b)) ?_ ?_
 rotate_left
 .intro az X;unfold cj at X;rw[bk,ae];refine⟨λh=>X _ _ ⟨rfl,by rw[decide_eq_true (.inl h)]⟩,λh1=>?_⟩;rw[bk,ae];refine⟨λh=>X _ _ ⟨rfl,by rw[decide_eq_true (.inr (.inl h))]⟩,λap=>?_⟩;rw[bk,ae];refine⟨λh=>X _ _ ⟨rfl,by rw[decide_eq_true (.inr (.inr (.inl h)))]⟩,λa7=>?_⟩;rw[bk];refine X _ _ ⟨rfl,?_⟩;congr 1;rw[V8,decide_eq_true_eq,decide_eq_true_eq];exact⟨λh=>.inr (.inr (.inr h)),λh=>by rcases h with h|h|h|h;exact absurd h h1;exact absurd h ap;exact absurd h a7;exact h⟩
 rintro _ _ ⟨rfl,rfl⟩;cases I:cj b with
 |true=>
  rw[bQ];rw[if_pos I] at W;exact aM _ _ _ _ _ ⟨ah,g,L,_,[],false,rfl,ag,Y,(λh=>by cases h),Ω,W,ai⟩
 |false=>
  rw[aS];rw[if_neg (by rw[I];simp)] at W;refine aQ (λv al=>U=al/\v= .bool (!bJ b)) ?_ ?_
  rotate_left
  .intro az X;unfold bJ at X;rw[aq,ae];refine⟨λh=>X _ _ ⟨rfl,by rw[decide_eq_false Ω];rfl⟩,λh=>?_⟩;rw[bR];refine X _ _ ⟨rfl,?_⟩;by_cases ap:126<b
   .rw[decide_eq_true ap,decide_eq_false Ω];rfl
   .rw[decide_eq_false ap,decide_eq_true Ω];rfl
  rintro _ _ ⟨rfl,rfl⟩;cases hw:bJ b with
  |false=>
   rw[X5,bQ];rw[if_neg (by rw[hw];simp)] at W;refine aQ (λv al=>U=al/\ ∃au,hU U v au/\au.map (·.1)=V/\(∀r,leadsTo v r->w.heap.size<=r)/\ ∀r,leadsTo v r->leadsTo aa r) ?_ ?_
   .rintro v _ ⟨rfl,au,aA,a8,av,ba⟩;exact⟨ah,v,au,(i:Int),rfl,aA,by rw[a8,<-W],by rw[<-W];simp,av,λr af=>by obtain⟨rfl,c,aw⟩:=dm ag (ba r af);exact⟨c,aw⟩⟩
   .intro az X;cases op with
    |false=>
     rw[aS];rw[if_neg Ξ] at Y;exact X _ _ ⟨rfl,L,uP ag,Y,ai,λ_ h=>h⟩
    |true=>
     rw[bQ];rw[if_pos rfl] at Y;have aC:L.length=V.length+1:=by have:=congrArg R4 Y;simpa using this
     rw[c9 eT.u ag,c3,wrap_i64 Ω Ω];refine Kr (n:=V.length) Ω ag Ω λam aA av=>X _ _ ⟨rfl,_,aA,?_,λr af=>ai r (av r af),av⟩;rw[List.map_take,Y,List.take_left]
  |true=>
   rw[Y1,aS];rw[if_pos hw] at W;refine aQ (λaa aD=>Ext w aD/\ ∃g M,∃x:gm,a6 fa 2 cd aD g aa (M++[x])/\M.map (·.1)=V/\x.1=(if op then ab else[])/\(M++[x]).length<=i+1/\ ∀r,leadsTo aa r->w.heap.size<=r) ?_ ?_
   .rintro bD aD ⟨aO,bb,M,x,bc,be,aE,bg,aP⟩;intro aF aG _ _;have an:=bc.ext aG;have aR:(M++[x])[M.length]? =σ x:=Ξ
    have bE:(M++[x]).length=M.length+1:=Ξ
    rw[c9 eT.u an,c3,wrap_i64 Ω Ω,cG (i:=M.length) Ω eT.u cd.i an Ω,ac cd.p rfl,ad (o:=M.length*2+0) Ψ (an.range aR 0 _ rfl),aN,wrap_i64 Ω Ω];obtain⟨bF,aU⟩:∃am,aJ .u8 aF am [b]/\J x3 (W6 cB p (σ (Δ (i:Int))) (σ (Δ ((i:Int)+1))) ν) aF (λv=>v=am):=by
     have bh:=ao.ext (aO.trans aG);have:=qW (P:=x3) (low:=σ (Δ (i:Int))) (high:=σ (Δ ((i:Int)+1))) (K:=λv=>aJ .u8 aF v [b]) cB.u cv.i bh (l8 i _ rfl) (ma (i+1) ((i:Int)+1) Ω) Ω Ω λam aV=>by
      have e:((ints .u8 pl).drop (i*1)).take ((i+1-i)*1)=ints .u8 [b]:=by
       simp only[T5,show i+1-i=1 by omega];rw[ints,<-List.map_drop,<-List.map_take,aL];rfl
      rw[e] at aV;exact aJ.of (n:=i+1-i) aV
     obtain⟨v,bi,bj⟩:=this;exact⟨v,bj,v,bi,rfl⟩
    refine Ko aU.2 ?_;have bG:x.1.length<=65536:=by
     rw[aE];cases op with
     |true=>rw[if_pos rfl];have:=aK rfl;omega
     |false=>simp
    rw[tw cB.u cv.u cP.u aU.1,tv Θ,cG (i:=M.length) Ω eT.u cd.i an Ω,ac cd.p rfl];refine mB (f:=fa) (j:=0) (a:=x) (a':=(x.1++[b],x.2)) cP.i rfl rfl an aR rfl Ω λbH bl bI aW=>?_;have e:(M++[x]).set M.length (x.1++[b],x.2)=M++[(x.1++[b],x.2)]:=by
     rw[U9 _ _ (o8 _),W9];rfl
    rw[e] at aW;refine aM _ _ _ _ _ ⟨(aO.trans aG).then bl (λr af he=>by have:=aP r he;omega),bb,_,V,x.1++[b],true,rfl,aW,by rw[Z3,be];rfl,λ_=>?_,by simp at bg ⊢;omega,?_,aP⟩
    .rw[u9,aE];cases op with
     |true=>rw[if_pos rfl];have:=aK rfl;simp;omega
     |false=>simp
    .rw[<-W,aE];cases op with
     |true=>rfl
     |false=>rfl
   .intro az X;cases op with
    |true=>
     rw[bf,Y1,aS];rw[if_pos rfl] at Y;have aC:L.length=V.length+1:=by have:=congrArg R4 Y;simpa using this
     obtain⟨M,x,rfl⟩:∃M x,L=M++[x]:=by
      have:L≠[]:=λh=>by rw[h] at aC;simp at aC
      exact⟨L.dropLast,L.getLast this,(List.dropLast_concat_getLast this).symm⟩
     rw[Z3] at Y;obtain⟨bm,aH⟩:=List.append_inj' Y Ξ;refine X _ _ ⟨ah,g,M,x,ag,bm,?_,Ω,ai⟩;rw[if_pos rfl];have aH:[x.1]=[ab]:=aH;exact (List.cons.inj aH).1
    |false=>
     rw[bf,X5,bQ];rw[if_neg Ξ] at Y;rw[cW (cs:=#[bz [],Δ (i:Int)]) Ψ];refine fQ (f:=fa) (a:=(([],(i:Int)):gm)) eT.u cd.i Ω rfl rfl λv9 bK bL bM aI bn=>?_;have bo:=ag.ext aI;refine gh (f:=fa) (a:=(([],(i:Int)):gm)) eT.u cd.i rfl bo (by simpa using bn.sl) (uO _) Ω Ω λam bp bN bq br bt=>?_;have bO:=ah.size;have z9:=aI.size;refine X _ _ ⟨(ah.trans aI).then bt (λr af he=>by have:=ai r he;omega),bp,L,_,bq,Y,rfl,Θ,λr af=>?_⟩;rcases br r af with h|h
     .exact ai r h
     .omega
structure uQ where
 v:x1
 t:Λ
 c:Int
def mL (y:uQ):List x1:=[y.v,Δ y.c]
def jo (w:x2) (g:Nat) (v:x1) (l:List (Λ×Int)):Prop:=∃L:List uQ,a6 mL 2 b4 w g v L/\(∀y∈L,∃I,au .i64 ao w I y.v y.t)/\L.map (λy=>(y.t,y.c))=l
structure hV where
 az:x1
 av:x1
 o:Int
 bY:x1
def eD (h:hV):List x1:=[h.az,h.av,Δ h.o,h.bY]
def fW (w:x2) (h:hV) (x:cg):Prop:=(∃g,au .i64 ao w g h.az x.scope)/\(∃g,au .i64 ao w g h.av x.sizes)/\h.o=x.other/\ ∃g,jo w g h.bY x.lines
def gn (w:x2) (r:Nat):Prop:=∃e c,af w r e c/\e≠ao/\e≠b4
theorem eh {g:Nat} (h:au .i64 ao w g v l) (U:ag S w w') (V:∀r,S r->gn w r\/w.heap.size<=r):au .i64 ao w' g v l:=bc h U λr J I=>by
 rcases V r I with⟨e,c,W,X,_⟩|Y
 .exact bX h W (λhe=>X he.symm) J rfl
 .obtain⟨aa,ab⟩:=bA h J;omega
theorem uR {α:Type} {f:α->List x1} {k:Nat} {g:Nat} {L:List α} (h:a6 f k e w g v L) (V:ag S w w') (W:∀r,S r->(∃J c,af w r J c/\J≠e)\/w.heap.size<=r):a6 f k e w' g v L:=h.aa V λr U I=>by
 rcases W r I with⟨J,c,X,Y⟩|ab
 .exact cc h X (λhe=>Y he.symm) U
 .obtain⟨ac,ad⟩:=h.leads U;omega
theorem jo.dt {g:Nat} {l:List (Λ×Int)} (h:jo w g v l) (I:ag S w w') (J:∀r,S r->gn w r\/w.heap.size<=r):jo w' g v l:=by
 obtain⟨L,h1,U,V⟩:=h;refine⟨L,uR h1 I λr W=>(J r W).imp (λ⟨e,c,X,_,Y⟩=>⟨e,c,X,Y⟩) id,λy aa=>?_,V⟩;obtain⟨ab,hm⟩:=U y aa;exact⟨ab,eh hm I J⟩
theorem fW.dt {h:hV} {x:cg} (aI:fW w h x) (I:ag S w w') (J:∀r,S r->gn w r\/w.heap.size<=r):fW w' h x:=by
 obtain⟨⟨g1,h1⟩,⟨U,V⟩,W,X,Y⟩:=aI;exact⟨⟨g1,eh h1 I J⟩,⟨U,eh V I J⟩,W,X,Y.dt I J⟩
theorem fW.ext {h:hV} {x:cg} (aI:fW w h x) (I:Ext w w'):fW w' h x:=aI.dt (I.aa λ_=>False) λ_ h=>h.elim
theorem fW.one {h:hV} {x:cg} (aI:fW w h x):∀u∈eD h,u.oneCell'=true:=by
 obtain⟨⟨g1,h1⟩,⟨U,I⟩,V,W,L,J,_⟩:=aI;intro u hu;simp[eD] at hu;rcases hu with rfl|rfl|rfl|rfl
 .exact h1.ls.cells.2
 .exact I.ls.cells.2
 .rfl
 .exact (cT J.sl).2
def kS (w:x2) (I:x1) (U:List gm) (gs:Nat) (sv:x1) (L:List hV) (J:List cg):Prop:=(hU w I U/\ ∀r,leadsTo I r-> ∃c,af w r cd c)/\a6 eD 4 aX w gs sv L/\J.length=L.length/\ ∀ (i:Nat) h x,L[i]? =σ h->J[i]? =σ x->fW w h x
theorem kS.dt {W:x1} {ab:List gm} {gs:Nat} {L:List hV} {ac:List cg} (h:kS w W ab gs sv L ac) (V:ag S w w') (X:∀r,S r->(∃e c,af w r e c/\e≠ao/\e≠b4/\e≠cd/\¬leadsTo sv r)\/w.heap.size<=r):kS w' W ab gs sv L ac:=by
 obtain⟨⟨h1,ad⟩,ae,ai,aj⟩:=h;have hw:∀r,leadsTo W r->¬S r:=λr J I=>by
  obtain⟨c,U⟩:=ad r J;rcases X r I with⟨e,ak,ah,_,_,Y,_⟩|al
  .exact Y (dP ah U)
  .have:=U.lt;omega
 refine⟨⟨h1.aa V hw,λr J=>?_⟩,ae.aa V λr J I=>?_,ai,λi aI x hi am=>(aj i aI x hi am).dt V λr J=>(X r J).imp (λ⟨e,c,U,an,ap,_⟩=>⟨e,c,U,an,ap⟩) id⟩
 .obtain⟨c,U⟩:=ad r J;exact⟨c,U.aa V (hw r J)⟩
 .rcases X r I with⟨e,ak,ah,_,_,_,Y⟩|al
  .exact Y J
  .obtain⟨aq,au⟩:=ae.leads J;omega
def fF (I:x1) (J U bad V big W told:Int) (sv:x1):List x1:=[I,Δ J,Δ U,Δ bad,Δ V,Δ big,Δ W,Δ told,sv]
def Ku (N:Nat) (so:Option aH) (I:List gm) (J bad big told:Int) (L:List hV) (U:List cg):Prop:=match so with
 |some s=>bad=0/\J≠0/\(big≠0↔s.big=true)/\(s.big=false->told=s.told)/\True/\I.map (·.1)=s.toks/\(∀t∈s.toks,Bytes t/\t.length<=65536)/\U.map (λx=>(x.sizes,x.lines))=s.shared/\L.length+I.length<=100000
 |none=>bad≠0/\L.length<=N
def bI (w:x2) (g B:Nat) (H:aj) (N:Nat) (so:Option aH):Prop:=100000<=N/\ ∃w0 I J gs sv L U,∃ (W V bad X big Y told:Int),w0.heap.size=B/\ag (λr=>r=g) w0 w/\(∃c,af w0 g br c)/\af w g br (fF I W V bad X big Y told sv)/\kS w0 I J gs sv L U/\(∀r,leadsTo sv r->H r)/\Ku N so J V bad big told L U
theorem kS.g {g:Nat} {J:x1} {U:List gm} {gs:Nat} {L:List hV} {V:List cg} (h:kS w J U gs sv L V) (X:ag (λr=>r=g) w w') (Y:∃c,af w g br c):kS w' J U gs sv L V:=
 h.dt X λr I=>.inl (by
  have I:r=g:=I;subst I;obtain⟨c,W⟩:=Y;exact⟨_,c,W,Φ,Φ,Φ,λaa=>cc h.2.1 W Φ aa⟩)
theorem bI.new {g:Nat} {H:aj} {so:Option aH} (h:bI w g B H N so) (J:ag S w w') (U:∀r,S r->B<=r):bI w' g B H N so:=by
 obtain⟨ab,w0,ac,ad,gs,sv,L,ae,af,ah,bad,ai,big,ak,told,h1,V,W,al,am,an,ao⟩:=h;have X:g<w0.heap.size:=by obtain⟨c,ap⟩:=W;exact ap.lt
 exact⟨ab,w0,ac,ad,gs,sv,L,ae,af,ah,bad,ai,big,ak,told,h1,⟨Y9 V.size J.size,λr o Y I X=>J.a7 r o (V.a7 r o Y I X) I λaq=>by
  have:=U r aq;have:=(j6.1 Y).1;omega⟩,W,al.aa J λI=>by have:=U g I;omega,am,an,ao⟩
theorem bI.ext {g:Nat} {H:aj} {so:Option aH} (h:bI w g B H N so) (I:Ext w w'):bI w' g B H N so:=h.new (I.aa λ_=>False) λ_ h=>h.elim
theorem bI.base {g:Nat} {H:aj} {so:Option aH} (h:bI w g B H N so):bI w g w.heap.size H N so:=by
 obtain⟨J,w0,U,V,gs,sv,L,W,X,Y,bad,aa,big,ab,told,h1,ac,ad,I,ae,af,ah⟩:=h;exact⟨J,w,U,V,gs,sv,L,W,X,Y,bad,aa,big,ab,told,rfl,ag.refl _ _,⟨_,I⟩,I,ae.g ac ad,af,ah⟩
theorem bI.dt {g:Nat} {H:aj} {so:Option aH} (h:bI w g B H N so) (V:ag S w w') (W:∀r,S r->(∃e c,af w r e c/\e≠ao/\e≠b4/\e≠cd/\e≠br/\¬H r)\/w.heap.size<=r):bI w' g w'.heap.size H N so:=by
 obtain⟨ad,w0,X,Y,gs,sv,L,ab,ae,ah,bad,ai,big,ak,told,h1,al,am,U,an,ac,ap⟩:=h.base;have aq:kS w X Y gs sv L ab:=an.g al am;have J:=U.aa V λI=>by
  rcases W g I with⟨e,c,J,_,_,_,au,_⟩|aB
  .exact au (dP J U)
  .have:=U.lt;omega
 refine⟨ad,w',X,Y,gs,sv,L,ab,ae,ah,bad,ai,big,ak,told,rfl,ag.refl _ _,⟨_,J⟩,J,aq.dt V λr av=>(W r av).imp (λ⟨e,c,J,aw,ax,ay,_,az⟩=>⟨e,c,J,aw,ax,ay,λaA=>az (ac r aA)⟩) id,ac,ap⟩
theorem bI.lt {g:Nat} {H:aj} {so:Option aH} (h:bI w g B H N so):g<B/\B<=w.heap.size:=by
 obtain⟨U,w0,V,W,gs,sv,L,X,Y,aa,bad,ab,big,ac,told,h1,I,⟨c,J⟩,_⟩:=h;have:=J.lt;have:=I.size;omega
theorem gW {g:Nat} {H:aj} {so:Option aH} (h:bI w g B H N so):∃I,∃ (J U bad V big W told:Int),∃sv,af w g br (fF I J U bad V big W told sv)/\(so.isSome=true↔bad=0):=by
 obtain⟨aa,w0,I,ab,gs,sv,L,ac,J,U,bad,V,big,W,told,h1,ad,ae,Y,ag,ah,X⟩:=h;refine⟨I,J,U,bad,V,big,W,told,sv,Y,?_⟩;cases so with
 |none=>exact⟨(λh=>by cases h),λh=>absurd h X.1⟩
 |some s=>exact⟨λ_=>X.1,λ_=>rfl⟩
theorem j3 {g:Nat} {H:aj} {so:Option aH} (h:bI w g B H N so):J x3 (aY (Γ g)) w (λI=>J x3 (x7 br I 3) w λt45=>J x3 (x6 ab t45) w λt46=>J x3 (aC .eql ab false true t46 (Δ 0)) w K)=K (.bool so.isSome):=by
 obtain⟨V,W,X,bad,Y,big,aa,told,sv,U,hi⟩:=gW h;rw[ay,ac br.p rfl,ad Ψ (U.Q3 rfl),bk];congr 2;rw[V8,decide_eq_true_eq];exact hi.symm
theorem pJ {g:Nat} {H:aj} {so:Option aH} (h:bI w g B H N so):J x3 (aY (Γ g)) w (λV=>J x3 (x7 br V 3) w λt45=>J x3 (x6 ab t45) w λt46=>J x3 (aC .neq ab false true t46 (Δ 0)) w K)=K (.bool (!so.isSome)):=by
 obtain⟨X,Y,aa,bad,ae,big,af,told,sv,W,hi⟩:=gW h;rw[ay,ac br.p rfl,ad Ψ (W.Q3 rfl),bG];congr 2;cases U:so.isSome with
 |true=>have I:=hi.1 U;simp[I]
 |false=>
  have I:bad≠0:=λI=>by rw[hi.2 I] at U;cases U
  simp[I]
def oa (w:x2) (g B:Nat) (H:aj) (N:Nat) (so:Option aH) (w':x2):Prop:=ag (λr=>r=g) w w'/\bI w' g B H N so
theorem mM {g:Nat} {H:aj} {so:Option aH} {e at_:Int} (h:bI w g B H N so) (he:e≠0):ak x3 l1 [Γ g,Δ e,Δ at_] w λ_ w'=>oa w g B H N ν w':=by
 refine aB func161 ?_;rw[j3 h];cases so with
 |none=>rw[Option.isSome_none,aS];exact⟨ag.refl _ _,h⟩
 |some s=>
  rw[Option.isSome_some,bQ];obtain⟨ad,w0,J,ae,gs,sv,L,ah,W,X,bad,aw,big,Y,told,h1,ai,al,am,an,ao,ap⟩:=h;rw[ay,ac br.p rfl];refine bh (g:=g) (o:=3) ab.i rfl rfl am (by simp[fF]) λU aq ax au=>?_;rw[ay,ac br.p rfl];refine bh (g:=g) (o:=4) ab.i rfl rfl au (by simp[fF]) λV av az I=>?_;have I:af V g br (fF J W X e at_ big Y told sv):=I;have aa:=aq.trans av;obtain⟨_,_,_,_,_,_,_,_,aA⟩:=ap;exact⟨aa,ad,w0,J,ae,gs,sv,L,ah,W,X,e,at_,big,Y,told,h1,ai.trans aa,al,I,an,ao,he,Ω⟩
theorem lF {g:Nat} {H:aj} {so:Option aH} {b:Bool} {at_:Int} (h:bI w g B H N so):ak x3 qD [Γ g,.bool b,Δ at_] w λ_ w'=>oa w g B H N (so.map (a8 b)) w':=by
 refine aB func158 ?_;obtain⟨aq,w0,J,au,gs,sv,L,av,W,X,bad,Y,big,aF,told,h1,aw,ax,aa,az,aA,ah⟩:=id h;refine aQ (λv U=>w=U/\v= .bool (b&&decide (big=0)&&so.isSome)) ?_ ?_
 .rintro _ _ ⟨rfl,rfl⟩;rw[bD];refine⟨λaC=>?_,λaG=>⟨ag.refl _ _,aq,w0,J,au,gs,sv,L,av,W,X,bad,Y,big,aF,told,h1,aw,ax,aa,az,aA,?_⟩⟩
  .rw[U4,U4] at aC;obtain⟨⟨aJ,aO⟩,aK⟩:=aC;rw[ay,ac br.p rfl];refine bh (g:=g) (o:=5) ab.i rfl rfl aa (by simp[fF]) λU aL aP aM=>?_;rw[ay,ac br.p rfl];refine bh (g:=g) (o:=6) ab.i rfl rfl aM (by simp[fF]) λV aN aR ai=>?_;have ai:af V g br (fF J W X bad Y 5 at_ told sv):=ai;have aD:=aL.trans aN;refine⟨aD,aq,w0,J,au,gs,sv,L,av,W,X,bad,Y,5,at_,told,h1,aw.trans aD,ax,ai,az,aA,?_⟩;cases so with
   |none=>cases aK
   |some s=>
    obtain⟨al,am,aE,an,ao⟩:=ah;exact⟨al,am,⟨λ_=>by show (s.big||b)=true;rw[aJ,Bool.or_true],λ_=>Ω⟩,λaI=>an (S2.1 aI).1,ao⟩
  .cases so with
   |none=>exact ah
   |some s=>
    obtain⟨al,am,aE,an,ao⟩:=ah;refine⟨al,am,?_,λaI=>an (S2.1 aI).1,ao⟩;show big≠0↔(s.big||b)=true;cases b with
    |false=>rw[Bool.or_false];exact aE
    |true=>
     have I:big≠0:=by simpa using aG
     simp[I]
 .intro aT ap;cases b with
  |false=>rw[aS];exact ap _ _ ⟨rfl,Ξ⟩
  |true=>
   rw[bQ,ay,ac br.p rfl,ad Ψ (aa.Q5 rfl),bk,ae];refine⟨λI=>?_,λI=>ap _ _ ⟨rfl,by rw[decide_eq_false I];simp⟩⟩;rw[j3 h];exact ap _ _ ⟨rfl,by rw[decide_eq_true I];simp⟩
def ih (so:Option aH):Option (Λ×aH):=so.bind dy
theorem Ba {g:Nat} {H:aj} {so:Option aH} (h:bI w g B H N so):ak x3 D2 [Γ g] w λv w'=>oa w g B H N ((ih so).map (·.2)) w'/\ ∃ (t:Λ) (n:Int),v= .agg #[bz t,Δ n]/\Bytes t/\t.length<=65536/\ ∀q,ih so=σ q->t=q.1:=by
 have a6:=h.lt;refine aB func157 ?_;refine bp cd.i λI U bO ab ah=>?_;have h1:=h.ext ab;have zero:∀ {X:x2},oa U g B H N ν X->af X I cd [.string ⟨#[]⟩,Δ 0]->ih so=ν->(J x3 (Instr.build cd #[]) X λt9=>
   aA x3 (o5 cd (Γ I) t9) X λ(_:Unit) V=>
   J x3 (do loadVar cd (<-asAddr (Γ I))) V λa7=>(λv w'=>oa w g B H N ((ih so).map (·.2)) w'/\ ∃ (t:Λ) (n:Int),v= .agg #[bz t,Δ n]/\Bytes t/\t.length<=65536/\ ∀q,ih so=σ q->t=q.1) a7 V):=by
  intro X Y ao aw;rw[cW (cs:=#[.string ⟨#[]⟩,Δ 0]) Ψ];refine bH (vs:=[.string ⟨#[]⟩,Δ 0]) cd.i rfl rfl (by intro v aG;simp at aG;rcases aG with rfl|rfl<;>rfl) ao λa8 aI bP ba=>?_;rw[eO cd.p cd.i rfl ba.range,aw];have bb:=ab.size;have bR:=a6;refine⟨⟨gf ((ab.aa _).trans Y.1) aI λr W he=>?_,Y.2.new aI λr W=>?_⟩,[],0,rfl,(λb bc=>by cases bc),Ξ,λq ax=>by cases ax⟩
  .have he:r=I:=he;omega
  .have W:r=I:=W;omega
 rw[pJ h1];cases so with
 |none=>
  rw[Option.isSome_none,X5,bQ];exact zero ⟨ag.refl _ _,h1⟩ ah rfl
 |some s=>
 rw[Option.isSome_some,Y1,aS];obtain⟨bd,w0,bS,az,gs,sv,L,aJ,aK,aL,bad,aM,big,aN,told,be,aO,aP,ai,ap,bf,bg⟩:=id h1;have bi:=ap.g aO aP;obtain⟨⟨aq,bT⟩,_⟩:=id bi;obtain⟨bj,aQ,bl,bm,bo,aR,aT,bq,bt⟩:=id bg;rw[ay,ac br.p rfl,ad Ψ (ai.Q0 rfl),A7 aq,bk,ae];refine⟨λaU=>?_,λaU=>?_⟩
 .have bu:az=[]:=Z5 Ω;have al:s.toks=[]:=by rw[<-aR,bu];rfl
  have aw:ih (σ s)=ν:=by show dy s=ν;unfold dy;rw[al]
  intro X au _ _;have ao:=ai.ext au;rw[ay,ac br.p rfl,ad Ψ (ao.Q2 rfl),ay,ac br.p rfl,ad Ψ (ao.Q1 rfl)];refine (mM (h1.ext au) aQ).mono ?_;rintro _ a8 _ Y;have bw:=ah.lt;exact zero ⟨(au.aa _).trans Y.1,Y.2⟩ ((ah.ext au).aa Y.1 λhe=>by have he:I=g:=he;omega) aw
 .obtain⟨x,am,rfl⟩:∃x l,az=x::l:=by
   cases az with
   |nil=>exact absurd rfl aU
   |cons x l=>exact⟨x,l,rfl⟩
  have al:s.toks=x.1::am.map (·.1):=by rw[<-aR];rfl
  have bx:ih (σ s)=σ (x.1,{s with toks:=am.map (·.1)}):=by show dy s=_;unfold dy;rw[al]
  have aV:=aT x.1 (by rw[al];exact .head _);rw[ay,ac br.p rfl,ad Ψ (ai.Q0 rfl)];refine A8 aq λb o bA=>?_;rw[bn cd.p cd.i rfl bA];refine bp cd.i λaC bU bV bB bC=>?_;refine bH (vs:=fa x) cd.i rfl rfl (uO x) bC λbD bE bW aW=>?_;have av:Ext U bD:=bB.then bE λr W he=>by have he:r=aC:=he;omega
  have aX:=ai.ext av;rw[ay,ac br.p rfl,ad Ψ (aX.Q0 rfl)];refine Kq (aq.aa (av.aa λ_=>False) λ_ _ h=>h) λaD aY bF=>?_;have aZ:=aY U aq;rw[ay,ac br.p rfl];refine bh (g:=g) (o:=0) eT.i (cT aZ).1 (cT aZ).2 aX (by simp[fF]) λan aE bX aF=>?_;have aF:af an g br (fF aD aK aL bad aM big aN told sv):=aF;have bw:=ai.lt;have bY:=aW.lt;have bZ:=ah.lt;have bb:=ab.size;have bG:af an aC cd (fa x):=aW.aa aE λhe=>by have he:aC=g:=he;omega
  rw[bn cd.p cd.i rfl bG.range];have bJ:af an I cd [.string ⟨#[]⟩,Δ 0]:=(af.ext ah av).aa aE λhe=>by have he:I=g:=he;omega
  refine bH (vs:=fa x) cd.i rfl rfl (uO x) bJ λb0 a1 b1 bK=>?_;rw[eO cd.p cd.i rfl bK.range];have a2:ag (λr=>r=g) U an:=(av.aa _).trans aE;rw[bx];refine⟨⟨gf ((ab.aa _).trans a2) a1 λr W he=>?_,?_⟩,x.1,x.2,rfl,aV.1,aV.2,λq ax=>by cases ax;rfl⟩
  .have he:r=I:=he;omega
  .have bL:kS w0 aD am gs sv L aJ:=⟨⟨aY w0 ap.1.1,λr W=>ap.1.2 r (bF r W)⟩,ap.2⟩;have bM:bI an g B H N (σ {s with toks:=am.map (·.1)}):=⟨bd,w0,aD,am,gs,sv,L,aJ,aK,aL,bad,aM,big,aN,told,be,aO.trans a2,aP,aF,bL,bf,bj,aQ,bl,bm,bo,rfl,λt bN=>aT t (by rw[al];exact .tail _ bN),bq,by simp at bt;omega⟩;refine bM.new a1 λr W=>?_;have W:r=I:=W;omega
theorem Kv {lo hi:Int} {so:Option aH}:a1 lo hi so=match ih so with
  |none=>ν
  |some (w,s)=>match fz w with
   |none=>ν
   |some n=>if lo<=n/\n<=hi then σ (n,s) else ν:=by
 cases so with
 |none=>rfl
 |some s=>rfl
theorem jp {g:Nat} {H:aj} {so:Option aH} {lo hi:Int} (h:bI w g B H N so):ak x3 kr [Γ g,Δ lo,Δ hi] w λv w'=>oa w g B H N ((a1 lo hi so).map (·.2)) w'/\ ∃n at_:Int,v= .tuple #[Δ n,Δ at_]/\(∀q,a1 lo hi so=σ q->n=q.1)/\(a1 lo hi so=ν->n=0):=by
 have a2:=h.lt;refine aB func159 ?_;refine (Ba h).mono ?_;rintro _ U _ ⟨⟨av,h1⟩,t,at_,rfl,aF,a6,aw⟩;have a7:=h1.lt;refine bp cd.i λax V a8 aG aJ=>?_;refine bH (vs:=[bz t,Δ at_]) cd.i rfl rfl (by intro v ay;simp at ay;rcases ay with rfl|rfl<;>rfl) aJ λaL aM ba az=>?_;have aA:Ext U aL:=aG.then aM λr bb he=>by have he:r=ax:=he;omega
 have aN:=h1.ext aA;rw[ac cd.p rfl,ad Ψ (az.Q0 rfl)];refine (Kn aF Ω).mono ?_;rintro _ ai _ ⟨rfl,al⟩;have am:=aN.ext al;have aC:=az.ext al;have aO:=aA.trans al;have bc:=av.size;obtain⟨n,e,aP,an,aR⟩:∃n e:Int,je t= .tuple #[Δ n,Δ e]/\(∀m,fz t=σ m->n=m/\e=0)/\(fz t=ν->e≠0):=by
  unfold je;cases fz t with
  |none=>exact⟨0,4,rfl,(λm hm=>by cases hm),λ_=>Ω⟩
  |some m=>exact⟨m,0,rfl,(λm hm=>by cases hm;exact⟨rfl,rfl⟩),λh=>by cases h⟩
 rw[aP,aK (v:=Δ n) rfl,aK (v:=Δ e) rfl];have I:=Kv (lo:=lo) (hi:=hi) (so:=so);have aD:ag (λr=>r=g) w ai:=av.trans (aO.aa _);refine di (λY=>ag (λr=>r=g) ai Y/\bI Y g B H N ((a1 lo hi so).map (·.2))) ?_ ?_
 .rintro Y ⟨ab,X⟩;rw[pJ X];cases af:a1 lo hi so with
  |none=>
   rw[af] at X;rw[Option.map_none,Option.isSome_none,X5,bQ];exact⟨⟨aD.trans ab,X⟩,0,0,rfl,(λq af=>by cases af),λ_=>rfl⟩
  |some q=>
   rw[af] at X I;rw[Y0,Option.isSome_some,Y1,aS];intro bd ao _ _;have aT:=(aC.aa ab λhe=>by have he:ax=g:=he;omega).ext ao;rw[ac cd.p rfl,ad Ψ (aT.Q1 rfl)];refine⟨⟨(aD.trans ab).trans (ao.aa _),X.ext ao⟩,n,at_,rfl,λbe aU=>?_,λh=>by cases h⟩;cases aU;cases W:ih so with
   |none=>rw[W] at I;cases I
   |some p=>
    obtain⟨ap,s1⟩:=p;have au:=aw (ap,s1) W;subst au;rw[W] at I;simp only at I;cases J:fz t with
    |none=>rw[J] at I;cases I
    |some m=>
     rw[J] at I;simp only at I;split at I
     .cases I;exact (an m J).1
     .cases I
 .intro bf aE;refine aQ (λv Y=>ai=Y/\ ∃c:Bool,v= .bool c/\(c=true->a1 lo hi so=ν)/\(c=false->(a1 lo hi so).map (·.2)=(ih so).map (·.2))) ?_ ?_
  .rintro _ _ ⟨rfl,c,rfl,aV,aW⟩;rw[bD];refine⟨λh=>?_,λh=>aE _ ⟨ag.refl _ _,by rw[aW h];exact am⟩⟩;rw[ac cd.p rfl,ad Ψ (aC.Q1 rfl)];refine (mM am Ω).mono ?_;rintro _ Y _ ⟨ab,X⟩;exact aE _ ⟨ab,by rw[aV h];exact X⟩
  .intro bg ah;rw[j3 am];cases W:ih so with
   |none=>
    rw[W] at I;simp only at I;rw[Option.map_none,Option.isSome_none,aS];exact ah _ _ ⟨rfl,false,rfl,(λh=>by cases h),λ_=>by rw[I,W];rfl⟩
   |some p=>
    obtain⟨ap,s1⟩:=p;have au:=aw (ap,s1) W;subst au;rw[W] at I;simp only at I;rw[Y0,Option.isSome_some,bQ,bG,ae];refine⟨λhe=>?_,λhe=>?_⟩
    .refine ah _ _ ⟨rfl,true,rfl,λ_=>?_,λh=>by cases h⟩;cases J:fz t with
     |none=>rw[I,J]
     |some m=>exact absurd (an m J).2 he
    .have aX:e=0:=X4.1 he;cases J:fz t with
     |none=>exact absurd aX (aR J)
     |some m=>
      rw[J] at I;simp only at I;have aY:=(an m J).1;subst aY;rw[aq,ae];refine⟨λaZ=>ah _ _ ⟨rfl,true,rfl,λ_=>by rw[I,if_neg Ω],λh=>by cases h⟩,λaZ=>?_⟩;rw[bR];refine ah _ _ ⟨rfl,_,rfl,λaI=>?_,λaI=>?_⟩
      .rw[I,if_neg (by have:=of_decide_eq_true aI;omega)]
      .rw[I,if_pos (by have:=of_decide_eq_false aI;omega),W];rfl
theorem uS {df bv:x1} {a b:Λ} (I:aJ .i64 w df a) (ab:aJ .i64 w bv b):ak x3 qF [df,bv] w λv w'=>v= .bool (decide (a=b))/\Ext w w':=by
 refine aB func208 ?_;rw[aT aw.u I,aT aw.u ab,bG,ae];refine⟨λh=>⟨by rw[decide_eq_false];intro he;rw[he] at h;exact h rfl,Ext.refl _⟩,λh=>?_⟩;have ac:a.length=b.length:=by have:=X4.1 h;omega
 rw[aT aw.u I];refine bE.range a.length (λi _ U=>Ext w U/\a.take i=b.take i) I.le ⟨Ext.refl _,rfl⟩ ?_ ?_
 .rintro i _ U k hi ⟨Y,J⟩ ad;obtain⟨x,W⟩:∃x,a[i]? =σ x:=⟨_,y0 hi⟩;obtain⟨y,aa⟩:∃y,b[i]? =σ y:=⟨_,y0 Ω⟩;refine Υ λ_=>?_;intro V af _ _;have X:=Y.trans af;rw[bd aw.u ao.i Ψ (I.ext X) W,bd aw.u ao.i Ψ (ab.ext X) aa,bG,ae];refine⟨λag=>⟨by rw[decide_eq_false];intro he;rw[he,aa] at W;exact ag (Z8 W).symm,X⟩,λhe=>?_⟩;rw[aN];refine ad _ _ ⟨X,?_⟩;rw[r8,r8,J,W,aa,X4.1 he]
 .rintro _ U k ⟨Y,J⟩;rw[aq,ae];refine⟨λh=>Ω,λ_=>⟨?_,Y⟩⟩;rw[o9,ac,o9] at J;rw[decide_eq_true J]
def gp (w:x2) (B I:Nat) (x:cg):Prop:=∃az av bY g1 J U,af w I aX [az,av,Δ x.other,bY]/\au .i64 ao w g1 az x.scope/\au .i64 ao w J av x.sizes/\jo w U bY x.lines/\(∀r,leads az r\/leads av r->B<=r)/\(∀r,leads az r->¬leads av r)/\B<=I
def Bb (w:x2) (r:Nat):Prop:=(∃e c,af w r e c/\e≠ao/\e≠b4/\e≠aX)\/w.heap.size<=r
theorem gp.dt {U:Nat} {x:cg} (h:gp w B U x) (J:ag S w w') (X:∀r,S r->Bb w r):gp w' B U x:=by
 obtain⟨az,av,bY,g1,Y,ab,h1,ac,ad,ae,af,ah,ai⟩:=h;have V:∀r,S r->gn w r\/w.heap.size<=r:=λr aj=>(X r aj).imp (λ⟨e,c,W,ak,al,_⟩=>⟨e,c,W,ak,al⟩) id;refine⟨az,av,bY,g1,Y,ab,h1.aa J λI=>?_,eh ac J V,eh ad J V,ae.dt J V,af,ah,ai⟩;rcases X U I with⟨e,c,W,_,_,am⟩|an
 .exact am (dP W h1)
 .have:=h1.lt;omega
theorem gp.ext {x:cg} (h:gp w B I x) (J:Ext w w'):gp w' B I x:=h.dt (J.aa λ_=>False) λ_ h=>h.elim
theorem jq {g:Nat} {H:aj} {so:Option aH} (h:bI w g B H N so):∀r,r=g->Bb w r:=λr I=>by
 subst I;obtain⟨U,V,W,bad,X,big,Y,told,sv,J,_⟩:=gW h;exact .inl ⟨_,_,J,Φ,Φ,Φ⟩
def fX (g B:Nat):aj:=λr=>r=g\/B<=r
theorem Kw {n:Int} {k:Nat} {acc:Λ} {s:aH}:cD (λacc s=>match bb 0 (n-1) s with
 |none=>ν
 |some (v,s)=>if v∈acc then ν else σ (v,s)) (k+1) acc s=match bb 0 (n-1) s with
  |none=>ν
  |some (v,s')=>if v∈acc then ν else cD (λacc s=>match bb 0 (n-1) s with
 |none=>ν
 |some (v,s)=>if v∈acc then ν else σ (v,s)) k (acc++[v]) s':=by
 rw[cD];cases bb 0 (n-1) s with
 |none=>rfl
 |some q=>
  obtain⟨v,s'⟩:=q;simp only;by_cases I:v∈acc
  .rw[if_pos I,if_pos I]
  .rw[if_neg I,if_neg I]
def Bc (n:Int) (k:Nat) (acc:Λ) (s:aH):Option (Λ×aH):=cD (λacc s=>match bb 0 (n-1) s with
 |none=>ν
 |some (v,s)=>if v∈acc then ν else σ (v,s)) k acc s
theorem Bd {g W b1 ar:Nat} {H:aj} {s:aH} {so:Option aH} {aO:x1} {bn bo:x2->Prop} (aI:bI w g B H N so) (cq:so=σ s\/(so=ν/\ar=0)) (cr:gp w B W ⟨[],[],0,[]⟩) (ct:∀c,af w W aX c->c[3]? =σ (.slice ν 0 0)) (b2:au .i64 ao w b1 aO all) (cu:∀r,leads aO r->r<B) (dG:all.length<=100001) (dH:ar<=4611686018427387904) (bp:so=σ s->s.toks.length<=100000)
  (a2:so=σ s-> ∀w' x,ag (fX g B) w w'->eI all.length ar s=ν->bI w' g B H N ν->gp w' B W x->bn w')
  (cw:so=ν->bo w)
  (bq:so=σ s-> ∀w' scope s',ag (fX g B) w w'->eI all.length ar s=σ (scope,s')->bI w' g B H N (σ s')->gp w' B W ⟨scope,scope.map λv=>all.getD v.toNat 0,0,[]⟩->(∀c,af w' W aX c->c[3]? =σ (.slice ν 0 0))->bo w'):
  bP (Δ 0) w λi X k=>
   bB (α:=x1->x2->Prop) (λ(cz:x1) (ap:x2)=>
    Split cz (J x3 (Y3 #[aw] ab #[aO]) ap λt53=>
   J x3 (aC .sub ao false true t53 (Δ 1)) ap λcA=>
   ak x3 kr [Γ g,(Δ 0),cA] ap λt55 Y=>
   J x3 (Z9 t55 0) Y λbt=>
   J x3 (Z9 t55 1) Y λcB=>
   J x3 (aY (Γ g)) Y λcC=>
   J x3 (x7 br cC 3) Y λcD=>
   J x3 (x6 ab cD) Y λcE=>
   J x3 (aC .neq ab false true cE (Δ 0)) Y λcF=>
   Split cF (bn Y)
    (J x3 (x7 aX (Γ W) 0) Y λcG=>
   J x3 (x6 aw cG) Y λb3=>
   J x3 (Y3 #[aw] ab #[b3]) Y λt66=>
   bP (Δ 0) Y λbu ai cH=>
    J x3 (aC .lss ab false false bu t66) ai λcI=>
    Split cI (J x3 (n0 aw b3 bu) ai λcJ=>
    J x3 (x6 ao cJ) ai λt70=>
    J x3 (aC .eql ao false false t70 bt) ai λcK=>
    Split cK (ak x3 l1 [Γ g,(Δ 4),cB] ai λt76 bw=>bn bw)
     (J x3 (aC .add ab false true bu (Δ 1)) ai λcL=>
    cH cL ai))
     (J x3 (x7 aX (Γ W) 0) ai λcM=>
   J x3 (x6 aw cM) ai λcN=>
   aA x3 (Z7 aw 1 #[(0,bt)]) ai λcO aP=>
   aA x3 (l9 #[aw,aw] aw #[cN,cO]) aP λcP bx=>
   J x3 (x7 aX (Γ W) 0) bx λcQ=>
   aA x3 (o5 aw cQ cP) bx λ(_:Unit) aB=>
   cm aB λaE=>
   J x3 (x7 aX (Γ W) 1) aE λbz=>
   J x3 (x6 aw bz) aE λb4=>
   J x3 (n0 aw aO bt) aE λcR=>
   J x3 (x6 ao cR) aE λcS=>
   aA x3 (Z7 aw 1 #[(0,cS)]) aE λcT aM=>
    (Ext aE aM\/bl x3 (x6 aw bz) b4 aM/\bl x3 (x7 aX (Γ W) 1) bz aM/\True)/\
   aA x3 (l9 #[aw,aw] aw #[b4,cT]) aM λcU bC=>
    J x3 (x7 aX (Γ W) 1) bC λcV=>
    aA x3 (o5 aw cV cU) bC λ(_:Unit) aF=>
     J x3 (aC .add ao false true i (Δ 1)) aF λcW=>
   k cW aF)))
     (bo ap)) λb5=>
   J x3 (aC .lss ao false false i (Δ (ar:Int))) X λcX=>
   Split cX (J x3 (aY (Γ g)) X λcY=>
   J x3 (x7 br cY 3) X λcZ=>
   J x3 (x6 ab cZ) X λt45=>
   J x3 (aC .eql ab false true t45 (Δ 0)) X λt46=>
   b5 t46 X)
    (b5 (.bool false) X):=by
 have dI:=aI.lt;rcases cq with rfl|⟨rfl,rfl⟩
 rotate_left
 .refine bP.range 0 (λ_ U=>w=U) Ω rfl (λi U k hi=>Ω) ?_;rintro _ k rfl;refine aQ (λv ap=>w=ap/\v= .bool false) ?_ ?_
  .rintro _ _ ⟨rfl,rfl⟩;rw[aS];exact cw rfl
  .intro b6 aR;rw[aq,ae];exact⟨λh=>Ω,λ_=>aR _ _ ⟨rfl,rfl⟩⟩
 have h:=aI;have bp:=bp rfl;have a2:=a2 rfl;have bq:=bq rfl;refine bP.range ar (λi X=>∃scope ax,ag (fX g B) w X/\bI X g B H N (σ ax)/\gp X B W ⟨scope,scope.map λv=>all.getD v.toNat 0,0,[]⟩/\scope.length=i/\scope.length+ax.toks.length<=100000/\eI all.length ar s=Bc all.length (ar-i) scope ax/\ ∀c,af X W aX c->c[3]? =σ (.slice ν 0 0)) Ω ⟨[],s,ag.refl _ _,h,cr,rfl,by simpa using bp,rfl,ct⟩ ?_ ?_
 rotate_left
 .rintro X k ⟨scope,ax,a6,aD,a7,b7,c0,ah,bD⟩;refine aQ (λv ap=>X=ap/\v= .bool false) ?_ ?_
  .rintro _ _ ⟨rfl,rfl⟩;rw[aS];rw[W9] at ah;exact bq X scope ax a6 ah aD a7 bD
  .intro b6 aR;rw[aq,ae];exact⟨λh=>Ω,λ_=>aR _ _ ⟨rfl,rfl⟩⟩
 rintro i X k hi ⟨scope,ax,a6,aD,a7,b7,c0,ah,bD⟩ c1;refine aQ (λv ap=>X=ap/\v= .bool true) ?_ ?_
 rotate_left
 .intro b6 aR;refine Υ λ_=>?_;rw[j3 aD];exact aR _ _ ⟨rfl,rfl⟩
 rintro _ _ ⟨rfl,rfl⟩;rw[bQ];have b8:∀ {w':x2},ag (fX g B) w w'->au .i64 ao w' b1 aO all:=λc2=>bc b2 c2 λr V I=>by
  rcases I with rfl|I
  .obtain⟨c4,al,aU,bad,c5,big,c6,told,sv,am,_⟩:=gW h;exact bX b2 am Φ V rfl
  .have:=cu r V;omega
 rw[aT aw.u (b8 a6).ls,c3,wrap_i64 Ω Ω];refine (jp aD).mono ?_;rintro _ Y _ ⟨⟨bE,an⟩,n,at_,rfl,bF,c7⟩;rw[aK (v:=Δ n) rfl,aK (v:=Δ at_) rfl,pJ an];have bG:=a7.dt bE (jq aD);have bH:ag (fX g B) w Y:=a6.trans (bE.mono λr _ h=>.inl h);have c8:=Kw (n:=(all.length:Int)) (k:=ar-(i+1)) (acc:=scope) (s:=ax);have c9:ar-i=(ar-(i+1))+1:=Ω
 rw[c9] at ah;unfold Bc at ah;rw[c8] at ah;have da:a1 0 ((all.length:Int)-1) (σ ax)=bb 0 ((all.length:Int)-1) ax:=rfl;rw[da] at an bF c7 ⊢;cases a8:bb 0 ((all.length:Int)-1) ax with
 |none=>
  rw[a8] at an ah;rw[Option.map_none,Option.isSome_none,X5,bQ];exact a2 Y _ bH ah an bG
 |some q=>
  obtain⟨v,bJ⟩:=q;rw[a8] at an ah bF;have db:n=v:=bF _ rfl;subst db;have dJ:=(gQ a8).1;have dK:=(dl a8).1;simp only at ah;rw[Y0,Option.isSome_some,Y1,aS];have an:bI Y g B H N (σ bJ):=an;obtain⟨az,av,bY,g1,dc,bK,f1,f2,f3,f4,f5,f6,f7⟩:=id bG;rw[ac aX.p rfl,ad Ψ (f1.Q0 rfl),aT aw.u f2.ls];have dL:scope.length<=100000:=Ω
  refine bP.range scope.length (λj ai=>Y=ai/\n∉scope.take j) Ω ⟨rfl,Ξ⟩ ?_ ?_
  .rintro j _ dd de ⟨rfl,ba⟩ df;obtain⟨u,hu⟩:∃u,scope[j]? =σ u:=⟨_,y0 de⟩;rw[aq,ae];refine⟨λ_=>?_,λh=>by simp only at h;omega⟩;rw[bd aw.u ao.i Ψ f2.ls hu,bk,ae];refine⟨λhe=>?_,λdg=>?_⟩
   .refine (mM an Ω).mono ?_;rintro _ bw _ ⟨b9,dh⟩;rw[if_pos (by rw[<-he];exact x5 hu)] at ah;exact a2 bw _ (bH.trans (b9.mono λr _ h=>.inl h)) ah dh (bG.dt b9 (jq an))
   .rw[aN];refine df _ ⟨rfl,?_⟩;rw[r8,hu];intro hm;rcases n9.1 hm with hm|hm
    .exact ba hm
    .simp at hm;exact dg hm.symm
  .rintro _ dd ⟨rfl,ba⟩;rw[o9] at ba;rw[aq,ae];refine⟨λh=>by simp only at h;omega,λ_=>?_⟩;rw[if_neg ba] at ah;rw[ac aX.p rfl,ad Ψ (f1.Q0 rfl)];refine dx aw.u ao.i rfl λdM dN aP dO ay di=>?_;have dQ:=an.lt;refine eY aw.u ao.i rfl (f2.ext ay) di.ls Θ Θ λaG bL bx be dj ca=>?_;have bf:=f1.ext ay;have f113:=bf.aa ca λhe=>bX (f2.ext ay) bf Φ he rfl;rw[ac aX.p rfl];refine bh (g:=W) (o:=0) aw.i be.ls.cells.1 be.ls.cells.2 f113 Ξ λaB cb dR bg=>?_;have bg:af aB W aX [aG,av,Δ 0,bY]:=bg;intro aE bM _ _;have aV:ag (λr=>leads az r\/r=W) aP aB:=(ca.mono λr _ h=>.inl h).trans (cb.mono λr _ h=>.inr h);have cd:∀r,(leads az r\/r=W)->fX g B r:=λr V=>.inr (V.elim (λV=>f5 r (.inl V)) λV=>V▸f7);have ce:ag (fX g B) w aB:=(bH.trans (ay.aa _)).trans (aV.mono λr _ V=>cd r V);have dk:ag (fX g B) w aE:=ce.trans (bM.aa _);have dm:au .i64 ao aB dc av _:=bc (f3.ext ay) aV λr V I=>by
    rcases I with I|rfl
    .exact f6 r I V
    .exact bX (f3.ext ay) bf Φ V rfl
   have dn:au .i64 ao aB bL aG (scope++[n]):=bc be cb λr V he=>by
    have he:r=W:=he;subst he;exact bX be f113 Φ V rfl
   have dp:∀r,(leads az r\/r=W)->(∃c,af aP r ao c)\/ ∃c,af aP r aX c:=λr V=>by
    rcases V with V|rfl
    .obtain⟨al,_⟩:=bA f2 V;obtain⟨_,⟨aW,_⟩|⟨_,cs,aW,am,_⟩⟩:=f2.ext ay
     .rw[aW] at V;obtain⟨a,dq,c,al,aU⟩:=V;cases al
     .exact .inl ⟨cs,al▸am⟩
    .exact .inr ⟨_,bf⟩
   have dr:jo aB bK bY []:=by
    obtain⟨L,aJ,ds,bN⟩:=f4.dt (ay.aa λ_=>False) λ_ h=>h.elim;have bO:L=[]:=List.map_eq_nil_iff.1 bN;subst bO;refine⟨[],aJ.aa aV λr V I=>?_,λy bR=>(by cases bR),rfl⟩;rcases dp r I with⟨c,am⟩|⟨c,am⟩
    .exact cc aJ am Φ V
    .exact cc aJ am Φ V
   have du:bI aB g B H N (σ bJ):=(an.ext ay).new aV λr V=>by
    rcases cd r V with rfl|h
    .rcases V with V|V
     .exact f5 _ (.inl V)
     .exact V▸f7
    .exact h
   rw[ac aX.p rfl,ad Ψ ((bg.ext bM).Q1 rfl)];have dv:all[n.toNat]? =σ (all.getD n.toNat 0):=by rw[u5,y0 Ω];rfl
   rw[dY (y:=n) (i:=n.toNat) Ω aw.u ao.i Ψ (b8 dk).ls dv];refine dx aw.u ao.i rfl λdS dT aM dU cg dw=>?_;refine⟨.inl cg,?_⟩;have aL:=bM.trans cg;have f316:=dm.ext aL;have ch:(scope.map λv=>all.getD v.toNat 0).length=scope.length:=u4 _;refine eY aw.u ao.i rfl f316 dw.ls (by simp at ch ⊢;omega) (by simp at ch ⊢;omega) λbS dy bC bi ci cj=>?_;have bj:=bg.ext aL;have ck:=bj.aa cj λhe=>bX f316 bj Φ he rfl;rw[ac aX.p rfl];refine bh (g:=W) (o:=1) aw.i bi.ls.cells.1 bi.ls.cells.2 ck Ξ λaF cl dV aZ=>?_;have aZ:af aF W aX [aG,bS,Δ 0,bY]:=aZ;rw[aN];have bm:ag (λr=>leads av r\/r=W) aM aF:=(cj.mono λr _ h=>.inl h).trans (cl.mono λr _ h=>.inr h);have cn:∀r,(leads av r\/r=W)->B<=r:=λr V=>V.elim (λV=>f5 r (.inr V)) λV=>V▸f7;have bT:=dn.ext aL;have dW:=ay.size;have dX:=aV.size;have bU:∀r,leads aG r->B<=r/\¬leads av r:=λr V=>by
    rcases dj r V with h|h
    .exact⟨f5 r (.inl h),f6 r h⟩
    .exact⟨Ω,λbV=>by obtain⟨al,aU⟩:=bA f3 bV;omega⟩
   have dz:au .i64 ao aF bL aG (scope++[n]):=bc bT bm λr V I=>by
    rcases I with I|rfl
    .exact (bU r V).2 I
    .exact bX bT bj Φ V rfl
   have dA:=bc bi cl λr V he=>by
    have he:r=W:=he;subst he;exact bX bi ck Φ V rfl
   have dC:jo aF bK bY []:=by
    obtain⟨L,aJ,ds,bN⟩:=dr.dt (aL.aa λ_=>False) λ_ h=>h.elim;have bO:L=[]:=List.map_eq_nil_iff.1 bN;subst bO;refine⟨[],aJ.aa bm λr V I=>?_,λy bR=>(by cases bR),rfl⟩;rcases I with I|rfl
    .obtain⟨al,_⟩:=bA f316 I;obtain⟨_,⟨aW,_⟩|⟨_,cs,aW,am,_⟩⟩:=f316
     .rw[aW] at I;obtain⟨a,dq,c,al,aU⟩:=I;cases al
     .exact cc aJ (al▸am) Φ V
    .exact cc aJ bj Φ V
   refine c1 _ ⟨scope++[n],bJ,((ce.trans (aL.aa _)).trans (bm.mono λr _ V=>.inr (cn r V))),(du.ext aL).new bm cn,⟨aG,bS,bY,bL,dy,bK,aZ,dz,by rw[Z3];exact dA,dC,λr V=>?_,λr V bV=>?_,f7⟩,by rw[u9,b7];rfl,by rw[u9];simp;omega,ah,λc bW=>?_⟩
   .rcases V with V|V
    .exact (bU r V).1
    .rcases ci r V with h|h
     .exact f5 r (.inr h)
     .have:=aL.size;omega
   .rcases ci r bV with h|h
    .exact (bU r V).2 h
    .obtain⟨al,aU⟩:=bA bT V;omega
   .have dD:c=[aG,bS,Δ 0,bY]:=by
     unfold af at bW aZ;rw[aZ] at bW;have:=(Obj.cells.inj (Z8 bW)).1;exact (Array.toList_inj.2 this).symm
    have dE:bY= .slice ν 0 0:=by
     obtain⟨dZ,ea,eb,_,_,_,bZ,_⟩:=a7;have cp:=bD _ bZ;have b0:=bZ.aa bE λhe=>by
      have he:W=g:=he;obtain⟨c4,al,aU,bad,c5,big,c6,told,sv,am,_⟩:=gW aD;subst he;exact absurd (dP am bZ) Φ
     unfold af at b0 f1;rw[f1] at b0;have dF:=Array.toList_inj.2 (Obj.cells.inj (Z8 b0)).1;have aD:=congrArg (λl=>l[3]?) dF;simp at aD;simp at cp;rw[aD,cp]
    rw[dD,dE];rfl
theorem Kx {ad:x1->x2->Prop} (h:aJ .i64 w sv l) (h1:∀z∈l,1<=z) (am:∀c:Int,(4096<c↔da l=true)->ad (Δ c) w):
  bE (Δ 1) (Δ 0) w λcount Y I an=>
   J x3 (aC .lss ab false false Y (Δ (l.length:Int))) I λap=>
   Split ap (bB (α:=x1->x2->Prop) (λ(au:x1) (af:x2)=>
    J x3 (aC .add ab false true Y (Δ 1)) af λav=>
    an au av af) λag=>
   J x3 (n0 aw sv Y) I λax=>
   J x3 (x6 ao ax) I λah=>
   bB (α:=x1->x2->Prop) (λ(ay:x1) (W:x2)=>
    J x3 (aC .mul ao false false count ay) W λai=>
    J x3 (aC .gtr ao false true ai (Δ 4096)) W λaz=>
    Split az (ag (Δ 4097) W)
     (ag ai W)) λaj=>
   J x3 (aC .gtr ao false true ah (Δ 4096)) I λaA=>
   Split aA (aj (Δ 4097) I)
    (aj ah I))
    (ad count I):=by
 refine bE.range l.length (λi c U=>w=U/\ ∃p:Int,p=aM ((l.take i).map λk=>min k 4097)/\1<=p/\c=Δ (if 4096<p then 4097 else p)) h.le ⟨rfl,1,by simp[aM],Ω,by rw[if_neg Ω]⟩ ?_ ?_
 .rintro i _ _ aB hi ⟨rfl,p,X,aD,rfl⟩ aE;obtain⟨z,aa⟩:∃z,l[i]? =σ z:=⟨_,y0 hi⟩;have aG:=h1 z (x5 aa);have e:aM ((l.take (i+1)).map λk=>min k 4097)=p*min z 4097:=by
   rw[X,r8,aa,Z4,Z3,S3,List.map_nil,rf]
  have aH:p*1<=p*min z 4097:=Int.mul_le_mul_of_nonneg_left Ω Ω;refine Υ λ_=>?_;refine aQ (λv V=>w=V/\v=Δ (if 4096<p*min z 4097 then 4097 else p*min z 4097)) ?_ ?_
  .rintro _ _ ⟨rfl,rfl⟩;rw[aN];exact aE _ _ ⟨rfl,_,e.symm,Ω,rfl⟩
  intro aK ac;rw[bd aw.u ao.i Ψ h aa];refine aQ (λv V=>w=V/\v=Δ (min z 4097)) ?_ ?_
  .rintro _ _ ⟨rfl,rfl⟩;rw[fv];by_cases ak:4096<p
   .rw[if_pos ak];have aF:(4097:Int)*1<=4097*min z 4097:=Int.mul_le_mul_of_nonneg_left Ω Ω;rw[wrap_i64 Ω Ω,bR,ae];refine⟨λ_=>ac _ _ ⟨rfl,by rw[if_pos Ω]⟩,λaL=>Ω⟩
   .rw[if_neg ak];have aF:p*min z 4097<=4096*4097:=by
     have aO:=Int.mul_le_mul_of_nonneg_right (show p<=4096 by omega) (show 0<=min z 4097 by omega);have aP:=Int.mul_le_mul_of_nonneg_left (show min z 4097<=4097 by omega) (show (0:Int)<=4096 by omega);omega
    rw[wrap_i64 Ω Ω,bR,ae];exact⟨λaI=>ac _ _ ⟨rfl,by rw[if_pos aI]⟩,λaI=>ac _ _ ⟨rfl,by rw[if_neg aI]⟩⟩
  .intro aR al;rw[bR,ae];exact⟨λaI=>al _ _ ⟨rfl,by congr 1;omega⟩,λaI=>al _ _ ⟨rfl,by congr 1;omega⟩⟩
 .rintro _ _ aB ⟨rfl,p,X,aD,rfl⟩;rw[o9] at X;rw[aq,ae];refine⟨λh=>Ω,λ_=>am _ ?_⟩;unfold da;rw[<-X,decide_eq_true_eq];split
  .exact⟨λ_=>Ω,λ_=>Ω⟩
  .exact Iff.rfl
theorem Ky {g an aS:Nat} {H:aj} {so:Option aH} {av:x1} {aT:x2->Prop} (h:bI w g B H N so) (ap:au .i64 ao w aS av sizes) (bg:∀z∈sizes,1<=z/\z<=ax) (bT:sizes.length<=100001)
  (aM:af w an b4 [.slice ν 0 0,Δ 0]) (bi:B<=an)
  (aU:∀t w' aE X,t.length=sizes.length->ag (λr=>r=g\/r=an\/w.heap.size<=r) w w'->af w' an b4 [aE,Δ 0]->au .i64 ao w' X aE t->(∀r,leads aE r->w.heap.size<=r)->bI w' g B H N ((eK sizes [] so).map (·.2))->(∀q,eK sizes [] so=σ q->t=q.1)->aT w'):
  bP (Δ 0) w λaO ah bj=>
      J x3 (aC .lss ab false false aO (Δ (sizes.length:Int))) ah λbk=>
      Split bk (J x3 (n0 aw av aO) ah λbl=>
      J x3 (x6 ao bl) ah λbm=>
      J x3 (aC .sub ao false true bm (Δ 1)) ah λbn=>
      ak x3 kr [Γ g,(Δ 0),bn] ah λaV ay=>
      J x3 (Z9 aV 0) ay λbo=>
      J x3 (Z9 aV 1) ay λbU=>
      J x3 (x7 b4 (Γ an) 0) ay λbp=>
      J x3 (x6 aw bp) ay λbq=>
      aA x3 (Z7 aw 1 #[(0,bo)]) ay λbt bu=>
      aA x3 (l9 #[aw,aw] aw #[bq,bt]) bu λbw aW=>
      J x3 (x7 b4 (Γ an) 0) aW λbx=>
      aA x3 (o5 aw bx bw) aW λ(_:Unit) aX=>
      J x3 (aC .add ab false true aO (Δ 1)) aX λbz=>
      bj bz aX)
       (aT ah):=by
 have bV:=aM.lt;have bW:=h.lt;refine bP.range sizes.length (λj U=>∃t aE X s1,t.length=j/\ag (λr=>r=g\/r=an\/w.heap.size<=r) w U/\af U an b4 [aE,Δ 0]/\au .i64 ao U X aE t/\(∀r,leads aE r->w.heap.size<=r)/\bI U g B H N s1/\eK sizes [] so=eK (sizes.drop j) t s1) ap.ls.le
  ⟨[],_,0,so,rfl,ag.refl _ _,aM,au.nil _ _ _ _,(λr W=>by obtain⟨a,n,c,aF,aP⟩:=W;cases aF),h,rfl⟩ ?_ ?_
 rotate_left
 .rintro U bB ⟨t,aE,X,s1,aG,ai,aI,az,al,aB,he⟩;rw[aq,ae];refine⟨λh=>Ω,λ_=>?_⟩;rw[List.drop_length] at he;cases s1 with
  |none=>
   have he:eK sizes [] so=ν:=he;exact aU t U aE X aG ai aI az al (by rw[he];exact aB) (λq Y=>by rw[he] at Y;cases Y)
  |some s1=>
   have he:eK sizes [] so=σ (t,s1):=he;exact aU t U aE X aG ai aI az al (by rw[he];exact aB) (λq Y=>by rw[he] at Y;cases Y;rfl)
 rintro j U bB aY ⟨t,aE,X,s1,aG,ai,aI,az,al,aB,he⟩ bC;obtain⟨z,aQ⟩:∃z,sizes[j]? =σ z:=⟨_,y0 aY⟩;have bD:=bg z (x5 aQ);have bY:z<=4611686018427387904:=bD.2;have bE:au .i64 ao U aS av sizes:=bc ap ai λr W I=>by
  rcases I with rfl|rfl|I
  .obtain⟨bF,aF,aP,bad,bG,big,bH,told,sv,aD,_⟩:=gW h;exact bX ap aD Φ W rfl
  .exact bX ap aM Φ W rfl
  .obtain⟨aF,aP⟩:=bA ap W;omega
 refine Υ λ_=>?_;rw[bd aw.u ao.i Ψ bE.ls aQ,c3,wrap_i64 Ω Ω];refine (jp aB).mono ?_;rintro _ V _ ⟨⟨aJ,bJ⟩,n,at_,rfl,bK,bZ⟩;rw[aK (v:=Δ n) rfl,aK (v:=Δ at_) rfl];have bL:an≠g:=Ω
 have aZ:=aI.aa aJ λhe=>bL he;have bM:∃c,af U g br c:=by obtain⟨bF,aF,aP,bad,bG,big,bH,told,sv,aD,_⟩:=gW aB;exact⟨_,aD⟩
 have a2:au .i64 ao V X aE t:=bc az aJ λr W he=>by
  have he:r=g:=he;obtain⟨c,aD⟩:=bM;exact bX az aD Φ W he
 rw[ac b4.p rfl,ad Ψ (aZ.Q0 rfl)];refine dx aw.u ao.i rfl λa3 b0 bN b1 am bO=>?_;refine eY aw.u ao.i rfl (a2.ext am) bO.ls Θ Θ λa6 bQ b2 aL bR a7=>?_;have a8:=aZ.ext am;have ba:=a8.aa a7 λhe=>bX (a2.ext am) a8 Φ he rfl;rw[ac b4.p rfl];refine bh (g:=an) (o:=0) aw.i aL.ls.cells.1 aL.ls.cells.2 ba Ξ λbb be b3 aR=>?_;have aR:af bb an b4 [a6,Δ 0]:=aR;rw[aN];have bf:ag (λr=>leads aE r\/r=an) bN bb:=(a7.mono λr _ h=>.inl h).trans (be.mono λr _ h=>.inr h);have b5:=ai.size;have b6:=aJ.size;have z3:=am.size;refine bC _ ⟨t++[n],a6,bQ,(a1 0 (z-1) s1).map (·.2),by simp[aG],?_,aR,bc aL be λr W he=>?_,λr W=>?_,?_,?_⟩
 .refine (ai.trans (aJ.mono λr _ h=>.inl h)).trans ((am.aa _).trans (bf.mono λr _ h=>?_));exact h.elim (λh=>.inr (.inr (al r h))) λh=>.inr (.inl h)
 .have he:r=an:=he;subst he;exact bX aL ba Φ W rfl
 .rcases bR r W with h|h
  .exact al r h
  .omega
 .refine (bJ.ext am).new bf λr W=>?_;rcases W with W|rfl
  .have:=al r W;omega
  .exact bi
 .rw[he];have bS:sizes.drop j=z::sizes.drop (j+1):=by rw[V0 aY,(x4.1 aQ).2]
  rw[bS,zI];cases Y:a1 0 (z-1) s1 with
  |none=>rfl
  |some q=>
   obtain⟨v,b7⟩:=q;have:=bK _ Y;subst this;rfl
theorem uT {g:Nat} {c:Int} (h:au .i64 ao w g v t):∀u∈mL ⟨v,t,c⟩,u.oneCell'=true:=by
 intro u hu;simp[mL] at hu;rcases hu with rfl|rfl
 .exact h.ls.cells.2
 .rfl
def Kz (sizes:Λ) (cnt i:Nat) (s0:aH) (A:List (Λ×Int)) (so:Option aH):Prop:=(∃s,so=σ s/\cD (dz sizes) cnt [] s0=cD (dz sizes) (cnt-i) A s/\A.length+s.toks.length<=100000)\/(so=ν/\cD (dz sizes) cnt [] s0=ν)
theorem KA {g g1 bq aF:Nat} {H:aj} {s0:aH} {az av bY:x1} {scope:Λ} {o n:Int} {a6:List (Λ×Int)} {cd:x2->Prop} (h:bI w g B H N (σ s0)) (f1:af w ah aX [az,av,Δ o,bY]) (f2:au .i64 ao w g1 az scope) (f3:au .i64 ao w bq av sizes) (f4:jo w aF bY a6)
  (f5:∀r,leads az r\/leads av r->B<=r) (f6:∀r,leads az r->¬leads av r) (f7:B<=ah) (c4:∀z∈sizes,1<=z/\z<=ax) (c5:sizes.length<=100001) (e5:n<=4611686018427387904) (bK:0<n->a6=[]/\ ∀r,¬leadsTo bY r) (c6:s0.toks.length<=100000)
  (ce:∀w' A bL,ag (fX g B) w w'->gp w' B ah ⟨scope,sizes,o,A⟩->bI w' g B H N bL->(n<=0->A=a6/\bL=σ s0)->(0<n->bL=(cD (dz sizes) n.toNat [] s0).map (·.2)/\ ∀q,cD (dz sizes) n.toNat [] s0=σ q->A=q.1)->cd w'):
  bP (Δ 0) w λcg aL c7=>
     bB (α:=x1->x2->Prop) (λ(c8:x1) (ch:x2)=>
      Split c8 (aA x3 (S7 b4 true (.tuple #[])) ch λx aG=>
     J x3 (x7 aX (Γ ah) 1) aG λda=>
     J x3 (x6 aw da) aG λci=>
     J x3 (Y3 #[aw] ab #[ci]) aG λdb=>
     bP (Δ 0) aG λbM aM dc=>
      J x3 (aC .lss ab false false bM db) aM λdd=>
      Split dd (J x3 (n0 aw ci bM) aM λde=>
      J x3 (x6 ao de) aM λdf=>
      J x3 (aC .sub ao false true df (Δ 1)) aM λdg=>
      ak x3 kr [Γ g,(Δ 0),dg] aM λcj a7=>
      J x3 (Z9 cj 0) a7 λdh=>
      J x3 (Z9 cj 1) a7 λe6=>
      J x3 (x7 b4 x 0) a7 λdj=>
      J x3 (x6 aw dj) a7 λdk=>
      aA x3 (Z7 aw 1 #[(0,dh)]) a7 λdn dp=>
      aA x3 (l9 #[aw,aw] aw #[dk,dn]) dp λdq ck=>
      J x3 (x7 b4 x 0) ck λdr=>
      aA x3 (o5 aw dr dq) ck λ(_:Unit) cl=>
      J x3 (aC .add ab false true bM (Δ 1)) cl λds=>
      dc ds cl)
       (ak x3 kr [Γ g,(Δ 0),(Δ 4611686018427387904)] aM λcm X=>
     J x3 (Z9 cm 0) X λdu=>
     J x3 (Z9 cm 1) X λdv=>
     J x3 (x7 aX (Γ ah) 3) X λdw=>
     J x3 (x6 dK dw) X λcn=>
     J x3 (Y3 #[dK] ab #[cn]) X λdx=>
     bP (Δ 0) X λbN ai dy=>
      J x3 (aC .lss ab false false bN dx) ai λdA=>
      Split dA (bB (α:=x2->Prop) (λ(aW:x2)=>
       J x3 (aC .add ab false true bN (Δ 1)) aW λdC=>
       dy dC aW) λcp=>
      J x3 (n0 dK cn bN) ai λdD=>
      J x3 (x6 b4 dD) ai λdE=>
      aA x3 (S7 b4 true (.tuple #[])) ai λy cq=>
      aA x3 (o5 b4 y dE) cq λ(_:Unit) al=>
      bB (α:=x1->x2->Prop) (λ(dF:x1) (a8:x2)=>
       Split dF (ak x3 l1 [Γ g,(Δ 4),dv] a8 λe7 cr=>
        cp cr)
        (cp a8)) λct=>
      J x3 (aY (Γ g)) al λdG=>
      J x3 (x7 br dG 3) al λdH=>
      J x3 (x6 ab dH) al λdI=>
      J x3 (aC .eql ab false true dI (Δ 0)) al λdJ=>
      Split dJ (J x3 (x7 b4 x 0) al λdL=>
       J x3 (x6 aw dL) al λdM=>
      J x3 (x7 b4 y 0) al λdN=>
      J x3 (x6 aw dN) al λdO=>
      ak x3 qF [dM,dO] al λdP cu=>
      ct dP cu)
       (ct (.bool false) al))
       (J x3 (x7 b4 x 1) ai λdQ=>
     aA x3 (o5 ao dQ du) ai λ(_:Unit) aI=>
     J x3 (x7 aX (Γ ah) 3) aI λdR=>
     J x3 (x6 dK dR) aI λdS=>
     J x3 (x6 b4 x) aI λdT=>
     aA x3 (Z7 dK 1 #[(0,dT)]) aI λdU bt=>
     aA x3 (l9 #[dK,dK] dK #[dS,dU]) bt λdV bO=>
     J x3 (x7 aX (Γ ah) 3) bO λdW=>
     aA x3 (o5 dK dW dV) bO λ(_:Unit) aJ=>
     J x3 (aC .add ao false true cg (Δ 1)) aJ λdX=>
     c7 dX aJ)))
       (cd ch)) λcw=>
     J x3 (aC .lss ao false false cg (Δ n)) aL λdY=>
     Split dY (J x3 (aY (Γ g)) aL λdZ=>
     J x3 (x7 br dZ 3) aL λea=>
     J x3 (x6 ab ea) aL λeb=>
     J x3 (aC .eql ab false true eb (Δ 0)) aL λec=>
     cw ec aL)
      (cw (.bool false) aL):=by
 have ed:=h.lt;refine bP.range n.toNat (λi U=>∃A so bY aF,ag (fX g B) w U/\af U ah aX [az,av,Δ o,bY]/\au .i64 ao U g1 az scope/\au .i64 ao U bq av sizes/\jo U aF bY A/\(0<n-> ∀r,leadsTo bY r->B<=r)/\bI U g B H N so/\(n<=0->A=a6/\so=σ s0)/\(0<n->Kz sizes n.toNat i s0 A so)) Ω
  ⟨a6,σ s0,bY,aF,ag.refl _ _,f1,f2,f3,f4,λaB r W=>absurd W ((bK aB).2 r),h,λ_=>⟨rfl,rfl⟩,λaB=>.inl ⟨s0,rfl,by rw[(bK aB).1];rfl,by rw[(bK aB).1];simpa using c6⟩⟩ ?_ ?_
 rotate_left
 .rintro U k ⟨A,so,bY,aF,ba,aZ,bu,bd,be,bR,aO,cz,Y⟩;refine aQ (λv V=>U=V/\v= .bool false) ?_ ?_
  .rintro _ _ ⟨rfl,rfl⟩;rw[aS];refine ce U A so ba ⟨az,av,bY,g1,bq,aF,aZ,bu,bd,be,f5,f6,f7⟩ aO cz λaB=>?_;rcases Y aB with⟨s,rfl,he,_⟩|⟨rfl,he⟩
   .rw[W9] at he;rw[he];exact⟨rfl,λq am=>by cases am;rfl⟩
   .rw[he];exact⟨rfl,λq am=>by cases am⟩
  .intro ee bS;rw[aq,ae];exact⟨λh=>Ω,λ_=>bS _ _ ⟨rfl,rfl⟩⟩
 rintro i U k hi ⟨A,so,bY,aF,ba,aZ,bu,bd,be,bR,aO,cz,Y⟩ ef;have aB:0<n:=Ω
 refine aQ (λv V=>U=V/\v= .bool so.isSome) ?_ ?_
 rotate_left
 .intro ee bS;refine Υ λ_=>?_;rw[j3 aO];exact bS _ _ ⟨rfl,rfl⟩
 rintro _ _ ⟨rfl,rfl⟩;rcases Y aB with⟨b8,rfl,he,e8⟩|⟨rfl,he⟩
 rotate_left
 .rw[Option.isSome_none,aS];refine ce U A ν ba ⟨az,av,bY,g1,bq,aF,aZ,bu,bd,be,f5,f6,f7⟩ aO (λh=>Ω) λ_=>?_;rw[he];exact⟨rfl,λq am=>by cases am⟩
 rw[Option.isSome_some,bQ];have e9:=aO.lt;refine bp b4.i λan aG fa bf bT=>?_;have bT:af aG an b4 [.slice ν 0 0,Δ 0]:=bT;have eg:=aZ.ext bf;have cA:=bd.ext bf;have fb:=bf.size;have fc:=aZ.lt;rw[ac aX.p rfl,ad Ψ (eg.Q1 rfl),aT aw.u cA.ls];refine Ky (aO.ext bf) cA c4 c5 bT Ω λt aM aE cB fd ei ej ek em en eo=>?_;refine (jp en).mono ?_;rintro _ X _ ⟨⟨bU,bw⟩,c,at_,rfl,ep,fe⟩;rw[aK (v:=Δ c) rfl,aK (v:=Δ at_) rfl];have bV:an≠g:=Ω
 have cC:ah≠g:=by have:=h.lt;omega
 have er:ag (λr=>r=g\/r=an\/aG.heap.size<=r) aG X:=ei.trans (bU.mono λr _ h=>.inl h);have cE:∀ {S:Nat->Prop},(∀r,S r->r=g\/U.heap.size<=r)-> ∀r,S r->gn U r\/U.heap.size<=r:=λes r W=>(es r W).imp (λhe=>by
  subst he;obtain⟨cF,bg,bi,bad,cH,big,cI,told,sv,Y,_⟩:=gW aO;exact⟨_,_,Y,Φ,Φ⟩) id
 have bx:ag (λr=>r=g\/U.heap.size<=r) U X:=(bf.aa _).trans (er.mono λr _ h=>h.elim .inl λh=>h.elim (λh=>.inr Ω) λh=>.inr Ω);have cJ:af X ah aX [az,av,Δ o,bY]:=aZ.aa bx λh=>h.elim cC λh=>Ω
 obtain⟨L,bz,cK,bW⟩:=be.dt bx (cE λr W=>W);have cL:af X an b4 [aE,Δ 0]:=ej.aa bU λhe=>bV he;have cM:au .i64 ao X cB aE t:=bc ek bU λr W he=>by
  have he:r=g:=he;have:=em r W;omega
 have ff:L.length=A.length:=by rw[<-bW,u4]
 rw[ac aX.p rfl,ad Ψ (cJ.Q3 rfl),c9 dK.u bz];generalize cN:(a1 0 4611686018427387904 (U1 (λx=>x.snd) (eK sizes [] (σ b8)))).map (·.2)=aP at bw;have fg:=bx.size;refine bP.range L.length (λj ai=>ag (λr=>r=g) X ai/\bI ai g B H N (if t∈(L.take j).map (·.t) then ν else aP)) bz.le ⟨ag.refl _ _,by simpa using bw⟩ ?_ ?_
 .rintro j ai et cO ⟨ap,bj⟩ eu;obtain⟨y,ay⟩:∃y,L[j]? =σ y:=⟨_,y0 cO⟩;have bZ:∃c,af X g br c:=by obtain⟨cF,bg,bi,bad,cH,big,cI,told,sv,Y,_⟩:=gW bw;exact⟨_,Y⟩
  have aR:∀r,r=g->gn X r\/X.heap.size<=r:=λr W=>by
   subst W;obtain⟨c,Y⟩:=bZ;exact .inl ⟨_,c,Y,Φ,Φ⟩
  have bA:=uR bz ap λr W=>(aR r W).imp (λ⟨e,c,Y,_,bk⟩=>⟨e,c,Y,bk⟩) id;obtain⟨fh,ev⟩:=cK y (x5 ay);have cP:=eh ev ap aR;have b0:=eh cM ap aR;have bC:=cL.aa ap λhe=>bV he;refine Υ λ_=>?_;have b1:t∈(L.take (j+1)).map (·.t)↔t∈(L.take j).map (·.t)\/t=y.t:=by
   rw[r8,ay,Z4,Z3,n9];simp
  refine di (λaW=>ag (λr=>r=g) X aW/\bI aW g B H N (if t∈(L.take (j+1)).map (·.t) then ν else aP)) ?_ ?_
  .rintro aW ew;rw[aN];exact eu _ ew
  intro fi cQ;rw[cG rfl dK.u b4.i bA cO,bn b4.p b4.i rfl (bA.range ay)];refine bp b4.i λaU cq fj ey ez=>?_;refine bH (vs:=mL y) b4.i rfl rfl (uT cP) ez λal eA fk eB=>?_;have bl:Ext ai al:=ey.then eA λr W he=>by have he:r=aU:=he;omega
  have cR:=bj.ext bl;have cS:ag (λr=>r=g) X al:=ap.trans (bl.aa _);refine aQ (λv a8=>∃b:Bool,v= .bool b/\Ext al a8/\(b=true->t=y.t)/\(b=false->t≠y.t\/(if t∈(L.take j).map (·.t) then ν else aP)=ν)) ?_ ?_
  .rintro _ a8 ⟨b,rfl,b2,eC,eD⟩;have aV:=cR.ext b2;cases b with
   |true=>
    rw[bQ];refine (mM aV Ω).mono ?_;rintro _ cr _ ⟨eE,eF⟩;refine cQ _ ⟨(cS.trans (b2.aa _)).trans eE,?_⟩;rw[if_pos (b1.2 (.inr (eC rfl)))];exact eF
   |false=>
    rw[aS];refine cQ _ ⟨cS.trans (b2.aa _),?_⟩;by_cases hm:t∈(L.take j).map (·.t)
    .rw[if_pos (b1.2 (.inl hm))];rw[if_pos hm] at aV;exact aV
    .rw[if_neg hm] at aV;rcases eD rfl with bk|cU
     .rw[if_neg (λh=>(b1.1 h).elim hm bk)];exact aV
     .rw[if_neg hm] at cU;rw[cU] at aV ⊢;split<;>exact aV
  .intro fm cV;rw[j3 cR];cases bm:(if t∈(L.take j).map (·.t) then ν else aP) with
   |none=>
    rw[Option.isSome_none,aS];exact cV _ _ ⟨false,rfl,Ext.refl _,(λh=>by cases h),λ_=>.inr bm⟩
   |some fo=>
    rw[Option.isSome_some,bQ];have eH:=bC.ext bl;rw[ac b4.p rfl,ad Ψ (eH.Q0 rfl),ac b4.p rfl,ad Ψ (eB.Q0 rfl)];refine (uS (b0.ls.ext bl) (cP.ls.ext bl)).mono ?_;rintro _ cu _ ⟨rfl,eI⟩;exact cV _ _ ⟨_,rfl,eI,λh=>of_decide_eq_true h,λh=>.inl (of_decide_eq_false h)⟩
 .rintro ai et ⟨ap,bj⟩;rw[o9] at bj;have eJ:L.map (·.t)=A.map (·.1):=by rw[<-bW,List.map_map];rfl
  rw[eJ] at bj;have bZ:∃c,af X g br c:=by obtain⟨cF,bg,bi,bad,cH,big,cI,told,sv,Y,_⟩:=gW bw;exact⟨_,Y⟩
  have aR:∀r,r=g->gn X r\/X.heap.size<=r:=λr W=>by
   subst W;obtain⟨c,Y⟩:=bZ;exact .inl ⟨_,c,Y,Φ,Φ⟩
  have cW:∀r,(r=g\/U.heap.size<=r)->gn U r\/U.heap.size<=r:=cE λr W=>W;have bD:ag (λr=>r=g\/U.heap.size<=r) U ai:=bx.trans (ap.mono λr _ h=>.inl h);have eL:=cJ.aa ap λhe=>cC he;have eM:=eh bu bD cW;have eN:=eh bd bD cW;have bA:=uR bz ap λr W=>(aR r W).imp (λ⟨e,c,Y,_,bk⟩=>⟨e,c,Y,bk⟩) id;have eO:∀y∈L,∃aU,au .i64 ao ai aU y.v y.t:=λy ay=>by
   obtain⟨aU,hm⟩:=cK y ay;exact⟨aU,eh hm ap aR⟩
  have b0:=eh cM ap aR;have bC:=cL.aa ap λhe=>bV he;rw[aq,ae];refine⟨λh=>Ω,λ_=>?_⟩;rw[ac b4.p rfl];refine bh (g:=an) (o:=1) ao.i rfl rfl bC Ξ λaI a2 fp b3=>?_;have b3:af aI an b4 [aE,Δ c]:=b3;have eP:ah≠an:=Ω
  have cX:=eL.aa a2 λhe=>eP he;have fq:U.heap.size<=an:=Ω
  have eQ:∀r,leadsTo bY r->r≠an:=λr W=>by obtain⟨bg,bi⟩:=be.choose_spec.1.leads W;omega
  have eR:=bA.aa a2 λr W he=>eQ r W he;rw[ac aX.p rfl,ad Ψ (cX.Q3 rfl),bn b4.p b4.i rfl b3.range];let a:uQ:=⟨aE,t,c⟩;have bE:∀ {v:x1} {bo:Nat} {l:Λ},au .i64 ao ai bo v l->au .i64 ao aI bo v l:=λhm=>bc hm a2 λr W he=>by
   have he:r=an:=he;exact bX hm bC Φ W he
  have cY:=bE b0;refine fQ (f:=mL) (a:=a) dK.u b4.i Ω rfl rfl λv45 fs bt ft aD eS=>?_;have b5:=eR.ext aD;refine gh (f:=mL) (a:=a) dK.u b4.i rfl b5 (by simpa using eS.sl) (uT (cY.ext aD)) Ω Ω λb6 cZ bO bF eU c0=>?_;have b7:=cX.ext aD;have c1:=b7.aa c0 λhe=>cc b5 b7 Φ he;rw[ac aX.p rfl];refine bh (g:=ah) (o:=3) dK.i (cT bF.sl).1 (cT bF.sl).2 c1 Ξ λaJ c2 fu b9=>?_;have b9:af aJ ah aX [az,av,Δ o,b6]:=b9;rw[aN];have ca:ag (λr=>leadsTo bY r\/r=ah) bt aJ:=(c0.mono λr _ h=>.inl h).trans (c2.mono λr _ h=>.inr h);have bG:∀ {v:x1} {bo:Nat} {l:Λ},au .i64 ao bt bo v l->au .i64 ao aJ bo v l:=λhm=>bc hm ca λr W I=>by
   rcases I with I|rfl
   .obtain⟨rfl,fv,Y⟩:=dm b5 I;exact bX hm Y Φ W rfl
   .exact bX hm b7 Φ W rfl
  have c3:∀r,(leadsTo bY r\/r=ah)->B<=r:=λr W=>W.elim (λW=>bR aB r W) λW=>W▸f7;have eV:bI aI g B H N (if t∈A.map (·.1) then ν else aP):=bj.new a2 λr W=>by
   have W:r=an:=W;omega
  have eW:=(eV.ext aD).new ca c3;have eX:ag (fX g B) U aJ:=((bD.mono λr _ h=>h.elim .inl λh=>.inr Ω).trans (a2.mono λr _ h=>.inr (by have h:r=an:=h;omega))).trans ((aD.aa _).trans (ca.mono λr _ h=>.inr (c3 r h)));have eY:jo aJ cZ b6 (A++[(t,c)]):=⟨L++[a],bF.aa c2 λr W he=>by
   have he:r=ah:=he;subst he;exact cc bF c1 Φ W,λy ay=>by
   rcases n9.1 ay with ay|ay
   .obtain⟨aU,hm⟩:=eO y ay;exact⟨aU,bG ((bE hm).ext aD)⟩
   .rw[j4.1 ay];exact⟨cB,bG (cY.ext aD)⟩,by rw[Z3,bW];rfl⟩
  refine ef _ ⟨A++[(t,c)],_,b6,cZ,ba.trans eX,b9,bG ((bE eM).ext aD),bG ((bE eN).ext aD),eY,λ_ r W=>?_,eW,λh=>Ω,λ_=>?_⟩
  .rcases eU r W with h|h
   .exact bR aB r h
   .have:=ba.size;have:=bD.size;have:=a2.size;have:=aD.size;have:=ed.2;omega
  .have eZ:n.toNat-i=(n.toNat-(i+1))+1:=Ω
   rw[eZ] at he;obtain⟨e0,e1⟩:=zM (sizes:=sizes) (acc:=A) (st:=b8) (t:=t) (c:=c) eo ep;cases am:a1 0 ax ((eK sizes [] (σ b8)).map (·.2)) with
   |none=>
    have bm:aP=ν:=by rw[<-cN];show (a1 0 ax _).map _=ν;rw[am];rfl
    rw[nQ (e0 am)] at he;refine .inr ⟨?_,he⟩;rw[bm];split<;>rfl
   |some q=>
    have bm:aP=σ q.2:=by rw[<-cN];show (a1 0 ax _).map _=_;rw[am];rfl
    have bJ:=e1 q am;by_cases hm:t∈A.map (·.1)
    .rw[if_pos hm] at bJ;rw[nQ bJ] at he;exact .inr ⟨by rw[if_pos hm],he⟩
    .rw[if_neg hm] at bJ;rw[rg bJ] at he;refine .inl ⟨q.2,by rw[if_neg hm,bm],he,?_⟩;cases cb:eK sizes [] (σ b8) with
     |none=>rw[cb] at am;cases am
     |some p=>
      rw[cb] at am;obtain⟨e2,s1⟩:=p;have bg:hG sizes [] b8=σ (e2,s1):=cb;obtain⟨u,_,_,e3⟩:=tN bg;have bi:bb 0 ax s1=σ q:=am;obtain⟨fw,fx⟩:=q;have e4:=dl bi;have:=e3.1;have:=e4.1;rw[u9];simp only[U2];omega
def iM (s:aH):Prop:=s.big=false->0<=s.told/\s.told<=16384
def iN (neg:Bool) (ar:Nat) (scope sizes:Λ) (J:Option aH):Option (cg×aH):=match a1 0 ax (J.map (a8 (decide (6<ar)||da sizes))) with
 |none=>ν
 |some (other,U)=>match dA sizes U with
  |none=>ν
  |some (lines,I)=>σ (⟨scope,sizes,other,lines⟩,if neg=true then {I with shared:=I.shared++[(sizes,lines)]} else I)
theorem Be {s s':aH} {l:List (Λ×Int)} (h:dA sizes s=σ (l,s')):s'.toks.length+1<=s.toks.length/\s'.shared=s.shared:=by
 unfold dA at h;cases I:bb (-ax) ax s with
 |none=>rw[I] at h;cases h
 |some q=>
  obtain⟨n,s1⟩:=q;have U:=dl I;have aa:=U.1;have V:=U.eqs.2.2;rw[I] at h;simp only at h;split at h
  .split at h
   .cases h
   .split at h
    .cases h;exact⟨Ω,V⟩
    .cases h
  .have h':cD (dz sizes) n.toNat [] (a8 (decide (16384<min (s1.told+n) ax)) {s1 with told:=min (s1.told+n) ax})=σ (l,s'):=h;have:=jf (f:=dz sizes) (λ_ t=>t.toks.length<=s1.toks.length/\t.shared=s1.shared) (λacc t a ab W Y=>by
    obtain⟨_,_,_,X⟩:=nN Y;have h1:=X.1;have J:=X.eqs.2.2;exact⟨by have:=W.1;omega,J.trans W.2⟩) n.toNat [] (a8 (decide (16384<min (s1.told+n) ax)) {s1 with told:=min (s1.told+n) ax}) l s' ⟨o8 _,rfl⟩ h'
   obtain⟨⟨h1,J⟩,_⟩:=this;exact⟨Ω,J.trans V⟩
theorem rY {g:Nat} {H:aj} {s:aH} (h:bI w g B H N (σ s)):s.toks.length<=100000/\s.shared.length+s.toks.length<=100000:=by
 obtain⟨V,w0,W,X,gs,sv,L,Y,aa,ab,bad,ac,big,ad,told,h1,ae,af,ag,J,ah,ai,ak,al,am,an,I,ao,U,ap⟩:=h;have aq:=J.2.2.1;refine⟨by rw[<-I,u4];omega,by rw[<-I,<-U,u4,u4];omega⟩
def Bf (w:x2) (g V B:Nat) (H:aj) (J:Option (cg×aH)) (v:x1) (w':x2):Prop:=∃U x I,ag (λr=>r=g\/H r\/r=V\/B<=r) w w'/\v= .agg (eD U).toArray/\fW w' U x/\bI w' g w'.heap.size I 100001 (J.map (·.2))/\(∀q,J=σ q->x=q.1)/\(∀r,H r->I r)/\(∀r,I r->H r\/B<=r)/\ ∀r,I r->r<w'.heap.size
theorem Bg {g X ar:Nat} {H:aj} {ap:Option aH} {neg:Bool} {dT:Int} {scope:Λ} {Q:x1->x2->Prop}
  (h:bI w g B H 100000 ap) (dU:gp w B X ⟨scope,sizes,0,[]⟩) (fx:∀c,af w X aX c->c[3]? =σ (.slice ν 0 0)) (dV:∀z∈sizes,1<=z/\z<=ax) (fy:sizes.length<=100001) (dW:af w al aX [.slice ν 0 0,.slice ν 0 0,Δ 0,.slice ν 0 0]) (jE:al<B) (cR:¬H al) (cS:∀r,H r->r<B) (fz:∀aU,ap=σ aU->iM aU)
  (fA:∀v w',Bf w g al B H (iN neg ar scope sizes ap) v w'->Q v w'):
  J x3 (x7 aX (Γ X) 1) w λfB=>
  J x3 (x6 aw fB) w λdX=>
  J x3 (Y3 #[aw] ab #[dX]) w λfC=>
  bE (Δ 1) (Δ 0) w λcount dc a7 fD=>
   J x3 (aC .lss ab false false dc fC) a7 λfE=>
   Split fE (bB (α:=x1->x2->Prop) (λ(fG:x1) (dY:x2)=>
    J x3 (aC .add ab false true dc (Δ 1)) dY λfH=>
    fD fG fH dY) λdZ=>
   J x3 (n0 aw dX dc) a7 λfI=>
   J x3 (x6 ao fI) a7 λea=>
   bB (α:=x1->x2->Prop) (λ(fJ:x1) (cU:x2)=>
    J x3 (aC .mul ao false false count fJ) cU λeb=>
    J x3 (aC .gtr ao false true eb (Δ 4096)) cU λfK=>
    Split fK (dZ (Δ 4097) cU)
     (dZ eb cU)) λec=>
   J x3 (aC .gtr ao false true ea (Δ 4096)) a7 λfL=>
   Split fL (ec (Δ 4097) a7)
    (ec ea a7))
    (bB (α:=x2->Prop) (λ(cb:x2)=>
   ak x3 kr [(Γ g),(Δ 0),(Δ 4611686018427387904)] cb λed bV=>
   J x3 (Z9 ed 0) bV λfM=>
   J x3 (Z9 ed 1) bV λjF=>
   J x3 (x7 aX (Γ X) 2) bV λfN=>
   aA x3 (o5 ao fN fM) bV λ(_:Unit) bz=>
   ak x3 kr [(Γ g),(Δ (-4611686018427387904)),(Δ 4611686018427387904)] bz λee am=>
   J x3 (Z9 ee 0) am λbW=>
   J x3 (Z9 ee 1) am λef=>
   J x3 (aY (Γ g)) am λfO=>
   J x3 (x7 br fO 3) am λfP=>
   J x3 (x6 ab fP) am λfR=>
   J x3 (aC .neq ab false true fR (Δ 0)) am λfS=>
   Split fS (J x3 (x6 aX (Γ X)) am λcd=>
    aA x3 (o5 aX (Γ al) cd) am λ(_:Unit) bA=>
    J x3 (do loadVar aX (<-asAddr (Γ al))) bA λce=>
 Q ce bA)
    (bB (α:=x2->Prop) (λ(bj:x2)=>
    bP (Δ 0) bj λeg bK fU=>
     bB (α:=x1->x2->Prop) (λ(fV:x1) (ch:x2)=>
      Split fV (aA x3 (S7 b4 true (.tuple #[])) ch λx cV=>
     J x3 (x7 aX (Γ X) 1) cV λfY=>
     J x3 (x6 aw fY) cV λei=>
     J x3 (Y3 #[aw] ab #[ei]) cV λfZ=>
     bP (Δ 0) cV λdd bX ga=>
      J x3 (aC .lss ab false false dd fZ) bX λgb=>
      Split gb (J x3 (n0 aw ei dd) bX λgc=>
      J x3 (x6 ao gc) bX λgd=>
      J x3 (aC .sub ao false true gd (Δ 1)) bX λgf=>
      ak x3 kr [(Γ g),(Δ 0),gf] bX λej ci=>
      J x3 (Z9 ej 0) ci λgg=>
      J x3 (Z9 ej 1) ci λjG=>
      J x3 (x7 b4 x 0) ci λgi=>
      J x3 (x6 aw gi) ci λgj=>
      aA x3 (Z7 aw 1 #[(0,gg)]) ci λgk gl=>
      aA x3 (l9 #[aw,aw] aw #[gj,gk]) gl λgm ek=>
      J x3 (x7 b4 x 0) ek λgq=>
      aA x3 (o5 aw gq gm) ek λ(_:Unit) em=>
      J x3 (aC .add ab false true dd (Δ 1)) em λgr=>
      ga gr em)
       (ak x3 kr [(Γ g),(Δ 0),(Δ 4611686018427387904)] bX λen bZ=>
     J x3 (Z9 en 0) bZ λgt=>
     J x3 (Z9 en 1) bZ λgu=>
     J x3 (x7 aX (Γ X) 3) bZ λgv=>
     J x3 (x6 dK gv) bZ λeo=>
     J x3 (Y3 #[dK] ab #[eo]) bZ λgw=>
     bP (Δ 0) bZ λdf b0 gx=>
      J x3 (aC .lss ab false false df gw) b0 λgy=>
      Split gy (bB (α:=x2->Prop) (λ(ep:x2)=>
       J x3 (aC .add ab false true df (Δ 1)) ep λgz=>
       gx gz ep) λer=>
      J x3 (n0 dK eo df) b0 λgA=>
      J x3 (x6 b4 gA) b0 λgB=>
      aA x3 (S7 b4 true (.tuple #[])) b0 λy gC=>
      aA x3 (o5 b4 y gB) gC λ(_:Unit) ba=>
      bB (α:=x1->x2->Prop) (λ(gD:x1) (es:x2)=>
       Split gD (ak x3 l1 [(Γ g),(Δ 4),gu] es λjH gE=>
        er gE)
        (er es)) λet=>
      J x3 (aY (Γ g)) ba λgF=>
      J x3 (x7 br gF 3) ba λgH=>
      J x3 (x6 ab gH) ba λgI=>
      J x3 (aC .eql ab false true gI (Δ 0)) ba λgJ=>
      Split gJ (J x3 (x7 b4 x 0) ba λgK=>
       J x3 (x6 aw gK) ba λgL=>
      J x3 (x7 b4 y 0) ba λgM=>
      J x3 (x6 aw gM) ba λgN=>
      ak x3 qF [gL,gN] ba λgO gP=>
      et gO gP)
       (et (.bool false) ba))
       (J x3 (x7 b4 x 1) b0 λgR=>
     aA x3 (o5 ao gR gt) b0 λ(_:Unit) cW=>
     J x3 (x7 aX (Γ X) 3) cW λgS=>
     J x3 (x6 dK gS) cW λgT=>
     J x3 (x6 b4 x) cW λgU=>
     aA x3 (Z7 dK 1 #[(0,gU)]) cW λgV gX=>
     aA x3 (l9 #[dK,dK] dK #[gT,gV]) gX λgY eu=>
     J x3 (x7 aX (Γ X) 3) eu λgZ=>
     aA x3 (o5 dK gZ gY) eu λ(_:Unit) ev=>
     J x3 (aC .add ao false true eg (Δ 1)) ev λg0=>
     fU g0 ev)))
       (bB (α:=x2->Prop) (λ(aM:x2)=>
     J x3 (x6 aX (Γ X)) aM λg2=>
     aA x3 (o5 aX (Γ al) g2) aM λ(_:Unit) ew=>
     J x3 (do loadVar aX (<-asAddr (Γ al))) ew λg3=>
 Q g3 ew) λey=>
    Split (.bool neg) (cm ch λaV=>
     J x3 (aY (Γ g)) aV λdg=>
     J x3 (x7 br dg 8) aV λdh=>
     J x3 (x6 de dh) aV λez=>
     J x3 (x6 aX (Γ X)) aV λg4=>
     aA x3 (Z7 de 1 #[(0,g4)]) aV λg5 bk=>
     (Ext aV bk\/bl x3 (x6 de dh) ez bk/\bl x3 (x7 br dg 8) dh bk/\bl x3 (aY (Γ g)) dg bk/\True)/\
     aA x3 (l9 #[de,de] de #[ez,g5]) bk λg6 cX=>
      J x3 (aY (Γ g)) cX λg7=>
      J x3 (x7 br g7 8) cX λg8=>
      aA x3 (o5 de g8 g6) cX λ(_:Unit) bL=>
      ey bL)
     (ey ch))) λeA=>
     J x3 (aC .lss ao false false eg bW) bK λg9=>
     Split g9 (J x3 (aY (Γ g)) bK λha=>
     J x3 (x7 br ha 3) bK λhb=>
     J x3 (x6 ab hb) bK λhc=>
     J x3 (aC .eql ab false true hc (Δ 0)) bK λhd=>
     eA hd bK)
      (eA (.bool false) bK)) λeB=>
   J x3 (aC .lss ao false true bW (Δ 0)) am λhf=>
   Split hf (bB (α:=x1->x2->Prop) (λ(hg:x1) (aF:x2)=>
     Split hg (ak x3 l1 [(Γ g),(Δ 4),ef] aF λjI dj=>
     J x3 (x6 aX (Γ X)) dj λhh=>
     aA x3 (o5 aX (Γ al) hh) dj λ(_:Unit) eC=>
     J x3 (do loadVar aX (<-asAddr (Γ al))) eC λhj=>
 Q hj eC)
     (J x3 (aY (Γ g)) aF λhk=>
    J x3 (x7 br hk 8) aF λhl=>
    J x3 (x6 de hl) aF λhn=>
    J x3 (Op.unary .neg bW) aF λho=>
    J x3 (aC .sub ao false true ho (Δ 1)) aF λhp=>
    J x3 (n0 de hn hp) aF λhq=>
    J x3 (x7 aX hq 3) aF λhr=>
    J x3 (x6 dK hr) aF λhs=>
    J x3 (x7 aX (Γ X) 3) aF λht=>
    aA x3 (o5 dK ht hs) aF λ(_:Unit) eE=>
    eB eE)) λeF=>
    cm am λan=>
    J x3 (Op.unary .neg bW) an λhv=>
    J x3 (aY (Γ g)) an λhx=>
    J x3 (x7 br hx 8) an λhy=>
    J x3 (x6 de hy) an λhz=>
    J x3 (Y3 #[de] ab #[hz]) an λhA=>
    J x3 (aC .gtr ao false false hv hA) an λhB=>
    Split hB (eF (.bool true) an)
    (J x3 (aY (Γ g)) an λhC=>
    J x3 (x7 br hC 8) an λhD=>
    J x3 (x6 de hD) an λhE=>
    J x3 (Op.unary .neg bW) an λhF=>
    J x3 (aC .sub ao false true hF (Δ 1)) an λhG=>
    J x3 (n0 de hE hG) an λhH=>
    J x3 (x7 aX hH 1) an λhI=>
    J x3 (x6 aw hI) an λhJ=>
    J x3 (x7 aX (Γ X) 1) an λhK=>
    J x3 (x6 aw hK) an λhL=>
    ak x3 qF [hJ,hL] an λhM dk=>
    J x3 (Op.unary .not hM) dk λhN=>
    eF hN dk))
    (J x3 (aY (Γ g)) am λhO=>
    J x3 (x7 br hO 7) am λhP=>
    J x3 (x6 ao hP) am λhQ=>
    J x3 (aC .add ao false false hQ bW) am λhR=>
    J x3 (aY (Γ g)) am λhS=>
    J x3 (x7 br hS 7) am λhT=>
    aA x3 (o5 ao hT hR) am λ(_:Unit) bc=>
    bB (α:=x2->Prop) (λ(bd:x2)=>
     J x3 (aY (Γ g)) bd λhU=>
     J x3 (x7 br hU 7) bd λhW=>
     J x3 (x6 ao hW) bd λhX=>
     J x3 (aC .gtr ao false true hX (Δ 16384)) bd λhY=>
     ak x3 qD [(Γ g),hY,ef] bd λjJ dn=>
     eB dn) λeH=>
    J x3 (aY (Γ g)) bc λhZ=>
    J x3 (x7 br hZ 7) bc λh0=>
    J x3 (x6 ao h0) bc λh2=>
    J x3 (aC .gtr ao false true h2 (Δ 4611686018427387904)) bc λh3=>
    Split h3 (J x3 (aY (Γ g)) bc λh4=>
    J x3 (x7 br h4 7) bc λh5=>
    aA x3 (o5 ao h5 (Δ 4611686018427387904)) bc λ(_:Unit) eI=>
    eH eI)
    (eH bc)))) λeK=>
  J x3 (aC .gtr ao false true (Δ (ar:Int)) (Δ 6)) a7 λh6=>
  Split h6 (ak x3 qD [(Γ g),(.bool true),(Δ dT)] a7 λjK h7=>
  eK h7)
   (J x3 (aC .gtr ao false true count (Δ 4096)) a7 λh8=>
  ak x3 qD [(Γ g),h8,(Δ dT)] a7 λjL h9=>
  eK h9)):=by
 have ia:=h.lt;have eL:al≠g:=λhe=>by
  obtain⟨aW,aI,aJ,bad,aZ,big,a2,told,sv,W,_⟩:=gW h;subst he;exact absurd (dP W dW) Φ
 obtain⟨az,av,bY,g1,cY,cZ,f1,f2,f3,f4,f5,f6,f7⟩:=id dU;have cj:X≠g:=Ω
 have ret:∀ {Y:x2} {x:cg} {aB:aj},gp Y B X x->af Y al aX [.slice ν 0 0,.slice ν 0 0,Δ 0,.slice ν 0 0]->ag (λr=>r=g\/H r\/B<=r) w Y->bI Y g Y.heap.size aB 100001 ((iN neg ar scope sizes ap).map (·.2))->(∀q,iN neg ar scope sizes ap=σ q->x=q.1)->¬aB al->(∀r,H r->aB r)->(∀r,aB r->H r\/B<=r)->(∀r,aB r->r<Y.heap.size)->
   (J x3 (x6 aX (Γ X)) Y λcd=>
    aA x3 (o5 aX (Γ al) cd) Y λ(_:Unit) bA=>
    J x3 (do loadVar aX (<-asAddr (Γ al))) bA λce=>Q ce bA):=by
  intro Y x aB dp dq ib ic ie ig dr ih ii;obtain⟨az,av,bY,g1,cY,cZ,ds,du,dv,dw,dx,eM,eN⟩:=dp;let aL:hV:=⟨az,av,x.other,bY⟩;have ck:fW Y aL x:=⟨⟨g1,du⟩,⟨cY,dv⟩,rfl,cZ,dw⟩;rw[bn aX.p aX.i rfl (show Y.rangeAt X 0 (eD aL) from ds.range)];refine bH (vs:=eD aL) aX.i rfl rfl ck.one dq λjM dy ij ik=>?_;rw[eO aX.p aX.i rfl ik.range];have il:∀r,r=al->gn Y r\/Y.heap.size<=r:=λr V=>by subst V;exact .inl ⟨_,_,dq,Φ,Φ⟩
  refine fA _ _ ⟨aL,x,aB,(ib.mono λr _ h=>?_).trans (dy.mono λr _ h=>.inr (.inr (.inl h))),rfl,ck.dt dy il,ic.dt dy λr V=>.inl ?_,ie,dr,ih,λr V=>by rw[ij];exact ii r V⟩
  .exact h.elim .inl λh=>h.elim (λh=>.inr (.inl h)) λh=>.inr (.inr (.inr h))
  .have V:r=al:=V;subst V;exact⟨_,_,dq,Φ,Φ,Φ,Φ,ig⟩
 have dC:∀ {Y:x2},ag (fX g B) w Y->af Y al aX [.slice ν 0 0,.slice ν 0 0,Δ 0,.slice ν 0 0]:=λbm=>dW.aa bm λI=>I.elim eL λh=>Ω
 have dD:∀ {Y:x2},ag (fX g B) w Y->ag (λr=>r=g\/H r\/B<=r) w Y:=λbm=>bm.mono λr _ h=>h.elim .inl λh=>.inr (.inr h);have eP:∀ {Y:x2} {eQ:Nat} {aB:aj} {so:Option aH},bI Y g eQ aB 100000 so->bI Y g eQ aB 100001 so:=λV=>by
  obtain⟨cl,w0,aW,bC,gs,sv,L,a6,aI,aJ,bad,aZ,big,a2,told,h1,im,io,ip,iq,dE,dF⟩:=V;refine⟨Ω,w0,aW,bC,gs,sv,L,a6,aI,aJ,bad,aZ,big,a2,told,h1,im,io,ip,iq,dE,?_⟩;rename_i so;cases so with
  |none=>exact⟨dF.1,by have:=dF.2;omega⟩
  |some s=>exact dF
 have eR:∀ {Y:x2} {x:cg},gp Y B X x->ag (fX g B) w Y->bI Y g B H 100000 ν->iN neg ar scope sizes ap=ν->(J x3 (x6 aX (Γ X)) Y λcd=>
    aA x3 (o5 aX (Γ al) cd) Y λ(_:Unit) bA=>
    J x3 (do loadVar aX (<-asAddr (Γ al))) bA λce=>Q ce bA):=λdp bm V eS=>
  ret dp (dC bm) (dD bm) (by rw[eS];exact eP V.base) (λq aD=>by rw[eS] at aD;cases aD) cR (λ_ h=>h) (λ_ h=>.inl h) λr V=>by have:=cS r V;have:=bm.size;omega
 rw[ac aX.p rfl,ad Ψ (f1.Q1 rfl),aT aw.u f3.ls];refine Kx f3.ls (λz ir=>(dV z ir).1) λc bm=>?_;refine di (λcb=>ag (λr=>r=g) w cb/\bI cb g B H 100000 (ap.map (a8 (decide (6<ar)||da sizes)))) ?_ ?_
 rotate_left
 .intro dG bo;rw[bR,ae];refine⟨λdE=>?_,λdE=>?_⟩
  .refine (lF h).mono ?_;rintro _ U _ bp;refine bo _ ⟨bp.1,?_⟩;rw[decide_eq_true (show 6<ar by omega),Bool.true_or];exact bp.2
  .rw[bR];refine (lF h).mono ?_;rintro _ U _ bp;refine bo _ ⟨bp.1,?_⟩;have e:da sizes=decide (4096<c):=by rw[V8,decide_eq_true_eq];exact bm.symm
   rw[decide_eq_false (show ¬6<ar by omega),Bool.false_or,e];exact bp.2
 rintro cb ⟨it,iu⟩;refine (jp iu).mono ?_;rintro _ bV _ ⟨⟨iv,iw⟩,o,ix,rfl,iy,jN⟩;rw[aK (v:=Δ o) rfl,aK (v:=Δ ix) rfl];have b1:ag (λr=>r=g) w bV:=it.trans iv;have jO:=dU.dt b1 (jq h);have f123:=f1.aa b1 λhe=>cj he;rw[ac aX.p rfl];refine bh (g:=X) (o:=2) ao.i rfl rfl f123 Ξ λbz cn jP b2=>?_;have b2:af bz X aX [az,av,Δ o,bY]:=b2;have dH:∀r,r=g->gn w r\/w.heap.size<=r:=λr V=>(jq h r V).imp (λ⟨e,c,W,bq,bt,_⟩=>⟨e,c,W,bq,bt⟩) id;have b3:∀ {Y:x2} {c:List x1},af Y X aX c-> ∀r,r=X->gn Y r\/Y.heap.size<=r:=λW r V=>by subst V;exact .inl ⟨_,_,W,Φ,Φ⟩
 have f224:=eh (eh f2 b1 dH) cn (b3 f123);have f324:=eh (eh f3 b1 dH) cn (b3 f123);have eU:=(f4.dt b1 dH).dt cn (b3 f123);have b5:=iw.new cn λr V=>by have V:r=X:=V;omega
 have eV:ag (fX g B) w bz:=(b1.mono λr _ h=>.inl h).trans (cn.mono λr _ h=>.inr (by have h:r=X:=h;omega));refine (jp b5).mono ?_;rintro _ am _ ⟨⟨bD,bu⟩,n,iz,rfl,iA,eW⟩;rw[aK (v:=Δ n) rfl,aK (v:=Δ iz) rfl,pJ bu];have eX:ag (fX g B) w am:=eV.trans (bD.mono λr _ h=>.inl h);have iB:gp bz B X ⟨scope,sizes,o,[]⟩:=⟨az,av,bY,g1,cY,cZ,b2,f224,f324,eU,f5,f6,f7⟩;have eY:=iB.dt bD (jq b5);cases bw:a1 (-4611686018427387904) 4611686018427387904 (U1 (λx=>x.snd) (a1 0 4611686018427387904 (ap.map (a8 (decide (6<ar)||da sizes))))) with
 |none=>
  rw[bw] at bu;rw[Option.map_none,Option.isSome_none,X5,bQ];refine eR eY eX bu ?_;unfold iN;cases aE:a1 0 ax (ap.map (a8 (decide (6<ar)||da sizes))) with
  |none=>rfl
  |some p=>
   obtain⟨o',ai⟩:=p;have iC:a1 0 4611686018427387904 (ap.map (a8 (decide (6<ar)||da sizes)))=σ (o',ai):=aE;rw[iC] at bw;have e:bb (-ax) ax ai=ν:=bw;simp only;unfold dA;rw[e]
 |some q=>
 obtain⟨jQ,ah⟩:=q;have iD:=iA _ bw;subst iD;rw[bw] at bu;have bu:bI am g B H 100000 (σ ah):=bu;rw[Y0,Option.isSome_some,Y1,aS];obtain⟨ai,aE,dI⟩:∃ai,a1 0 ax (ap.map (a8 (decide (6<ar)||da sizes)))=σ (o,ai)/\bb (-ax) ax ai=σ (n,ah):=by
  cases aE:a1 0 4611686018427387904 (ap.map (a8 (decide (6<ar)||da sizes))) with
  |none=>rw[aE] at bw;cases bw
  |some p=>
   obtain⟨o',ai⟩:=p;have:=iy _ aE;subst this;rw[aE] at bw;exact⟨ai,aE,bw⟩
 have cp:iN neg ar scope sizes ap=match dA sizes ai with
   |none=>ν
   |some (lines,ah)=>σ (⟨scope,sizes,o,lines⟩,if neg=true then {ah with shared:=ah.shared++[(sizes,lines)]} else ah):=by
  unfold iN;rw[aE]
 have iE:=(gQ dI).1;have iF: -4611686018427387904<=n/\n<=4611686018427387904:=iE;have eZ:dA sizes ai=(if n<0 then match ah.shared[(-n-1).toNat]? with
   |none=>ν
   |some (z,l)=>if z=sizes then σ (l,ah) else ν
  else cD (dz sizes) n.toNat [] (a8 (decide (16384<min (ah.told+n) ax)) {ah with told:=min (ah.told+n) ax})):=by
  unfold dA;rw[dI];rfl
 have iG:iM ah:=by
  cases b6:ap with
  |none=>rw[b6] at aE;cases aE
  |some aU=>
   rw[b6] at aE;have dJ:bb 0 ax (a8 (decide (6<ar)||da sizes) aU)=σ (o,ai):=aE;have c0:=(dl dJ).eqs;have cq:=(dl dI).eqs;intro W;rw[cq.2.1,c0.2.1] at W;rw[cq.1,c0.1];exact fz aU b6 (S2.1 W).1
 refine di (λbj=>ag (fX g B) w bj/\ ∃bM cr c1 bF,af bj X aX [az,av,Δ o,bM]/\au .i64 ao bj g1 az scope/\au .i64 ao bj cY av sizes/\jo bj cr bM c1/\bI bj g B H 100000 (σ bF)/\(0<n->c1=[]/\ ∀r,¬leadsTo bM r)/\dA sizes ai=(if n<=0 then σ (c1,bF) else cD (dz sizes) n.toNat [] bF)) ?_ ?_
 .rintro bj ⟨iH,bM,cr,c1,bF,ds,du,dv,dw,dx,eM,eN⟩;refine KA dx ds du dv dw f5 f6 f7 dV fy iF.2 eM (rY dx).1 λch A dL iI e0 e1 iJ ct=>?_;have b7:=iH.trans iI;have bN:dL=(dA sizes ai).map (·.2)/\ ∀q,dA sizes ai=σ q->A=q.1:=by
   rw[eN];by_cases dM:n<=0
   .obtain⟨aI,aJ⟩:=iJ dM;rw[if_pos dM];exact⟨aJ,λq aD=>by cases aD;exact aI⟩
   .rw[if_neg dM];exact ct Ω
  obtain⟨bN,bp⟩:=bN;cases neg with
  |false=>
   refine di (λaM=>ch=aM) ?_ ?_
   .rintro _ rfl;refine ret e0 (dC b7) (dD b7) ?_ ?_ cR (λ_ h=>h) (λ_ h=>.inl h) λr V=>by have:=cS r V;have:=b7.size;omega
    .have:(iN false ar scope sizes ap).map (·.2)=dL:=by
      rw[cp,bN];cases dA sizes ai with
      |none=>rfl
      |some p=>rfl
     rw[this];exact eP e1.base
    .intro q aD;rw[cp] at aD;cases aO:dA sizes ai with
     |none=>rw[aO] at aD;cases aD
     |some p=>
      rw[aO] at aD;have:=bp p aO;cases aD;rw[this]
   .intro dG bo;rw[aS];exact bo _ rfl
  |true=>
   refine di (λaM=>∃aB,ag (λr=>r=g\/H r\/B<=r) w aM/\gp aM B X ⟨scope,sizes,o,A⟩/\af aM al aX [.slice ν 0 0,.slice ν 0 0,Δ 0,.slice ν 0 0]/\bI aM g aM.heap.size aB 100001 ((iN true ar scope sizes ap).map (·.2))/\¬aB al/\(∀r,H r->aB r)/\(∀r,aB r->H r\/B<=r)/\ ∀r,aB r->r<aM.heap.size) ?_ ?_
   .rintro aM ⟨aB,iK,iL,a3,a4,a5,iO,iP,iQ⟩;refine ret iL a3 iK a4 ?_ a5 iO iP iQ;intro q aD;rw[cp] at aD;cases aO:dA sizes ai with
    |none=>rw[aO] at aD;cases aD
    |some p=>
     rw[aO] at aD;have:=bp p aO;cases aD;rw[this]
   .intro dG bo;rw[bQ];intro aV cu _ _;have iR:=e1.ext cu;have iS:=e0.ext cu;have iT:=(dC b7).ext cu;obtain⟨cl,w0,aW,bC,gs,sv,L,a6,aI,aJ,bad,aZ,big,a2,told,c2,bO,bS,aP,bT,bG,bU⟩:=id iR;have iU:=bT.g bO bS;obtain⟨⟨iV,e2⟩,be,cw,cz⟩:=id iU;have iW:∀r,leadsTo sv r->r<B:=λr V=>cS r (bG r V);rw[ay,ac br.p rfl,ad Ψ (aP.cell (o:=0+8) rfl)];obtain⟨e3,e4,bM,e5,e6,cr,e7,e8,e9,fa,iX,iY,iZ⟩:=id iS;let aL:hV:=⟨e3,e4,o,bM⟩;let x:cg:=⟨scope,sizes,o,A⟩;have ck:fW aV aL x:=⟨⟨e5,e8⟩,⟨e6,e9⟩,rfl,cr,fa⟩;rw[bn aX.p aX.i rfl (show aV.rangeAt X 0 (eD aL) from e7.range)];refine fQ (f:=eD) (a:=aL) de.u aX.i Ω rfl rfl λjR jS bk jT aG i0=>?_;refine⟨.inl aG,?_⟩;have jU:L.length<=100000:=by
     cases dL with
     |none=>exact bU.2
     |some s=>have:=bU.2.2.2.2.2.2.2.2;omega
    have dN:=be.ext aG;refine gh (f:=eD) (a:=aL) de.u aX.i rfl dN (by simpa using i0.sl) (ck.ext aG).one Ω Ω λfb i1 cX cA i2 fc=>?_;have dO:=aP.ext aG;have fd:=dO.aa fc λhe=>cc dN dO Φ he;rw[ay,ac br.p rfl];refine bh (g:=g) (o:=8) de.i (cT cA.sl).1 (cT cA.sl).2 fd (by simp[fF]) λbL dQ jV c4=>?_;have c4:af bL g br (fF aW aI aJ bad aZ big a2 told fb):=c4;have bg:ag (λr=>leadsTo sv r\/r=g) bk bL:=(fc.mono λr _ h=>.inl h).trans (dQ.mono λr _ h=>.inr h);have c5:∀r,(leadsTo sv r\/r=g)->gn bk r\/bk.heap.size<=r:=λr V=>by
     rcases V with V|rfl
     .obtain⟨rfl,c,W⟩:=dm dN V;exact .inl ⟨_,c,W,Φ,Φ⟩
     .exact .inl ⟨_,_,dO,Φ,Φ⟩
    have fe:∀ {aL x},fW aV aL x->fW bL aL x:=λhe=>(he.ext aG).dt bg c5;have z50:=cu.size;have jW:=aG.size;have z53:=bg.size;have jX:=b7.size;have jY:=ia.2;refine bo _ ⟨λr=>H r\/(aV.heap.size<=r/\r<bL.heap.size),?_,?_,?_,?_,?_,λr V=>.inl V,λr V=>V.imp id λV=>Ω,λr V=>?_⟩
    .refine (((dD b7).trans (cu.aa _)).trans (aG.aa _)).trans (bg.mono λr _ V=>?_);exact V.elim (λV=>.inr (.inl (bG r V))) .inl
    .have i3:=e7.ext aG;refine⟨e3,e4,bM,e5,e6,cr,i3.aa bg λV=>?_,eh (e8.ext aG) bg c5,eh (e9.ext aG) bg c5,(fa.dt (aG.aa λ_=>False) λ_ h=>h.elim).dt bg c5,iX,iY,iZ⟩;rcases V with V|V
     .have:=iW _ V;omega
     .exact cj V
    .exact (iT.ext aG).aa bg λV=>V.elim (λV=>cR (bG _ V)) eL
    .refine⟨Ω,bL,aW,bC,i1,fb,L++[aL],a6++[x],aI,aJ,bad,aZ,big,a2,told,rfl,ag.refl _ _,⟨_,c4⟩,c4,⟨⟨?_,λr V=>?_⟩,cA.aa dQ λr V he=>?_,by rw[u9,u9,cw];rfl,λi i4 i5 hi cB=>?_⟩,λr V=>?_,?_⟩
     .refine (iV.aa (aG.aa λ_=>False) λ_ _ h=>h).aa bg λr V I=>?_;obtain⟨c,W⟩:=e2 r V;rcases I with I|rfl
      .obtain⟨rfl,i6,dR⟩:=dm be I;exact absurd (dP W dR) Φ
      .exact absurd (dP W aP) Φ
     .obtain⟨c,W⟩:=e2 r V;refine⟨c,(W.ext aG).aa bg λI=>?_⟩;rcases I with I|rfl
      .obtain⟨rfl,i6,dR⟩:=dm be I;exact absurd (dP W dR) Φ
      .exact absurd (dP W aP) Φ
     .have he:r=g:=he;subst he;exact cc cA fd Φ V
     .by_cases i7:i<L.length
      .rw[j9 i7] at hi;rw[j9 Ω] at cB;exact fe (cz i i4 i5 hi cB)
      .rw[Z2 Ω] at hi;rw[Z2 Ω] at cB;have i8:i-L.length=0:=by have:=(x4.1 hi).1;simp at this;omega
       have dr:i-a6.length=0:=Ω
       rw[i8] at hi;rw[dr] at cB;cases hi;cases cB;exact fe ck
     .rcases i2 r V with h|h
      .exact .inl (bG r h)
      .have:=(cA.leads V);have:=dQ.size;exact .inr ⟨Ω,Ω⟩
     .rw[cp];cases aO:dA sizes ai with
      |none=>
       rw[aO] at bN;rw[bN] at bU;exact⟨bU.1,by rw[u9];simp;have:=bU.2;omega⟩
      |some p=>
       obtain⟨lines,bF⟩:=p;rw[aO] at bN;rw[bN] at bU;have i9:=bp _ aO;obtain⟨cC,cE,cF,cH,cI,b8,cJ,bi,c6⟩:=id bU;have ff:=Be aO;refine⟨cC,cE,cF,cH,cI,b8,cJ,?_,?_⟩
       .show (a6++[x]).map _=bF.shared++[(sizes,lines)];rw[Z3,bi];simp only[x,S3,List.map_nil];rw[i9]
       .have jZ:ai.shared.length+ai.toks.length<=100000:=by
         cases b6:ap with
         |none=>rw[b6] at aE;cases aE
         |some aU=>
          rw[b6] at aE h;have dJ:bb 0 ax (a8 (decide (6<ar)||da sizes) aU)=σ (o,ai):=aE;have t9:=dl dJ;have c0:=t9.1;have cq:=t9.eqs.2.2;have t3:=(rY h).2;have fg:(a8 (decide (6<ar)||da sizes) aU).toks=aU.toks:=rfl;have fh:(a8 (decide (6<ar)||da sizes) aU).shared=aU.shared:=rfl;rw[fg] at c0;rw[fh] at cq;rw[cq];omega
        have fi:L.length=bF.shared.length:=by rw[<-bi,u4,cw]
        have ja:bC.length=bF.toks.length:=by rw[<-b8,u4]
        rw[ff.2] at fi;rw[u9,fi,ja];simp only[U2];have:=ff.1;omega
    .rintro (V|V)
     .exact cR V
     .omega
    .rcases V with V|V
     .have:=cS r V;omega
     .exact V.2
 .intro dG bo;rw[aq,ae];refine⟨λjb=>?_,λjc=>?_⟩
  .
   refine aQ (λv aF=>Ext am aF/\ ∃b:Bool,v= .bool b/\(b=true->dA sizes ai=ν)/\(b=false-> ∃lines,dA sizes ai=σ (lines,ah)/\ah.shared[(-n-1).toNat]? =σ (sizes,lines))) ?_ ?_
   .rintro _ aF ⟨b9,b,rfl,jd,je⟩;have c7:=bu.ext b9;have jf:=eY.ext b9;have fj:=eX.trans (b9.aa _);cases b with
    |true=>
     rw[bQ];refine (mM c7 Ω).mono ?_;rintro _ dj _ ⟨fk,jg⟩;exact eR (jf.dt fk (jq c7)) (fj.trans (fk.mono λr _ h=>.inl h)) jg (by rw[cp,jd rfl])
    |false=>
     rw[aS];obtain⟨lines,jh,ca⟩:=je rfl;obtain⟨cl,w0,aW,bC,gs,sv,L,a6,aI,aJ,bad,aZ,big,a2,told,c2,bO,bS,aP,bT,bG,cC,cE,cF,cH,cI,b8,cJ,bi,c6⟩:=id c7;obtain⟨_,be,cw,cz⟩:=bT.g bO bS;have cK:(-n-1).toNat<L.length:=by
      have h1:=(x4.1 ca).1;rw[<-bi,u4] at h1;omega
     obtain⟨c8,cL⟩:∃h,L[(-n-1).toNat]? =σ h:=⟨_,y0 cK⟩;obtain⟨bx,cM⟩:∃x,a6[(-n-1).toNat]? =σ x:=⟨_,y0 Ω⟩;obtain⟨_,_,_,ji,aR⟩:=cz _ c8 bx cL cM;have jj:bx.lines=lines:=by
      rw[<-bi,x8,cM] at ca;have:=Z8 ca;exact (Prod.mk.inj this).2
     rw[ay,ac br.p rfl,ad Ψ (aP.cell (o:=0+8) rfl),kw,wrap_i64 Ω Ω,c3,wrap_i64 Ω Ω,cG (i:=(-n-1).toNat) Ω de.u aX.i be cK,ac aX.p rfl,ad Ψ (be.range cL 3 _ rfl)];obtain⟨j0,fm,j1,j2⟩:=id aR;have db:af aF X aX [az,av,Δ o,bY]:=(b2.aa bD λhe=>cj he).ext b9;have jk:=(eh f224 bD λr V=>(jq b5 r V).imp (λ⟨e,c,W,bq,bt,_⟩=>⟨e,c,W,bq,bt⟩) id).ext b9;have jl:=(eh f324 bD λr V=>(jq b5 r V).imp (λ⟨e,c,W,bq,bt,_⟩=>⟨e,c,W,bq,bt⟩) id).ext b9;rw[ac aX.p rfl];refine bh (g:=X) (o:=3) dK.i (cT fm.sl).1 (cT fm.sl).2 db Ξ λeE cN j3 jm=>?_;refine bo _ ⟨fj.trans (cN.mono λr _ h=>.inr (by have h:r=X:=h;omega)),c8.bY,ji,lines,ah,jm,eh jk cN (b3 db),eh jl cN (b3 db),?_,c7.new cN λr V=>by have V:r=X:=V;omega,λh=>Ω,by rw[jh,if_pos Ω]⟩;rw[<-jj];exact aR.dt cN (b3 db)
   .intro j4 fo;intro an cO _ _;have jn:=bu.ext cO;obtain⟨cl,w0,aW,bC,gs,sv,L,a6,aI,aJ,bad,aZ,big,a2,told,c2,bO,bS,aP,bT,bG,cC,cE,cF,cH,cI,b8,cJ,bi,c6⟩:=id jn;obtain⟨_,be,cw,cz⟩:=bT.g bO bS;have j5:ah.shared.length=L.length:=by rw[<-bi,u4,cw]
    have aR:=eZ;rw[if_pos jb] at aR;rw[kw,wrap_i64 Ω Ω,ay,ac br.p rfl,ad Ψ (aP.cell (o:=0+8) rfl),c9 de.u be,bR,ae];refine⟨λct=>fo _ _ ⟨cO,true,rfl,λ_=>?_,λh=>by cases h⟩,λct=>?_⟩
    .rw[aR,Y4 Ω]
    have cK:(-n-1).toNat<L.length:=Ω
    obtain⟨c8,cL⟩:∃h,L[(-n-1).toNat]? =σ h:=⟨_,y0 cK⟩;obtain⟨bx,cM⟩:∃x,a6[(-n-1).toNat]? =σ x:=⟨_,y0 Ω⟩;obtain⟨_,⟨j6,jr⟩,_,_⟩:=cz _ c8 bx cL cM;have ca:ah.shared[(-n-1).toNat]? =σ (bx.sizes,bx.lines):=by rw[<-bi,x8,cM];rfl
    rw[ca] at aR;simp only at aR;rw[ay,ac br.p rfl,ad Ψ (aP.cell (o:=0+8) rfl),kw,wrap_i64 Ω Ω,c3,wrap_i64 Ω Ω,cG (i:=(-n-1).toNat) Ω de.u aX.i be cK,ac aX.p rfl,ad Ψ (be.range cL 1 _ rfl)];have js:af an X aX [az,av,Δ o,bY]:=(b2.aa bD λhe=>cj he).ext cO;have jt:=(eh f324 bD λr V=>(jq b5 r V).imp (λ⟨e,c,W,bq,bt,_⟩=>⟨e,c,W,bq,bt⟩) id).ext cO;rw[ac aX.p rfl,ad Ψ (js.Q1 rfl)];refine (uS jr.ls jt.ls).mono ?_;rintro _ dk _ ⟨rfl,ju⟩;rw[bf];refine fo _ _ ⟨cO.trans ju,_,rfl,λW=>?_,λW=>?_⟩
    .have jv:bx.sizes≠sizes:=by simpa using W
     rw[aR,if_neg jv]
    .have fp:bx.sizes=sizes:=by simpa using W
     exact⟨bx.lines,by rw[aR,if_pos fp],by rw[ca,fp]⟩
  .
   have aR:=eZ;rw[if_neg jc] at aR;obtain⟨cl,w0,aW,bC,gs,sv,L,a6,aI,aJ,bad,aZ,big,a2,told,c2,bO,bS,aP,bT,bG,cC,cE,cF,cH,cI,b8,cJ,bi,c6⟩:=id bu;rw[ay,ac br.p rfl,ad Ψ (aP.cell (o:=0+7) rfl),aN];generalize jw:Y6.wrap (told+n)=bJ;have fq:ah.big=false->bJ=ah.told+n/\0<=bJ:=λW=>by
    obtain⟨fg,fh⟩:=iG W;have jx:=cH W;rw[<-jw,jx,wrap_i64 Ω Ω];exact⟨rfl,Ω⟩
   rw[ay,ac br.p rfl];refine bh (g:=g) (o:=7) ao.i rfl rfl aP (by simp[fF]) λbc fs j7 cP=>?_;have cP:af bc g br (fF aW aI aJ bad aZ big a2 bJ sv):=cP;refine di (λbd=>ag (λr=>r=g) am bd/\af bd g br (fF aW aI aJ bad aZ big a2 (min bJ ax) sv)) ?_ ?_
   rotate_left
   .intro j8 ft;rw[ay,ac br.p rfl,ad Ψ (cP.cell (o:=0+7) rfl),bR,ae];refine⟨λct=>?_,λct=>ft _ ⟨fs,?_⟩⟩
    .rw[ay,ac br.p rfl];refine bh (g:=g) (o:=7) ao.i rfl rfl cP (by simp[fF]) λeI jy ka jz=>?_;refine ft _ ⟨fs.trans jy,?_⟩;have e:min bJ ax=4611686018427387904:=by unfold ax;omega
     rw[e];exact jz
    .have e:min bJ ax=bJ:=by unfold ax;omega
     rw[e];exact cP
   rintro bd ⟨fu,fv⟩;have jA:bI bd g B H 100000 (σ {ah with told:=min (ah.told+n) ax}):=⟨cl,w0,aW,bC,gs,sv,L,a6,aI,aJ,bad,aZ,big,a2,_,c2,bO.trans fu,bS,fv,bT,bG,cC,cE,cF,λW=>by
    have W:ah.big=false:=W;rw[(fq W).1],cI,b8,cJ,bi,c6⟩
   rw[ay,ac br.p rfl,ad Ψ (fv.cell (o:=0+7) rfl),bR];refine (lF jA).mono ?_;rintro _ dn _ ⟨jB,fw⟩;have jC:(σ {ah with told:=min (ah.told+n) ax}).map (a8 (decide (16384<min bJ ax)))=σ (a8 (decide (16384<min (ah.told+n) ax)) {ah with told:=min (ah.told+n) ax}):=by
    show σ (a8 _ _)=_;congr 1;unfold a8;cases W:ah.big with
    |true=>simp
    |false=>rw[(fq W).1]
   rw[jC] at fw;have cQ:ag (λr=>r=g) bz dn:=(bD.trans fu).trans jB;have dS:∀r,r=g->gn bz r\/bz.heap.size<=r:=λr V=>(jq b5 r V).imp (λ⟨e,c,W,bq,bt,_⟩=>⟨e,c,W,bq,bt⟩) id;have jD:bY= .slice ν 0 0:=by
    have:=fx _ f1;simpa using this
   refine bo _ ⟨eV.trans (cQ.mono λr _ h=>.inl h),bY,cZ,[],_,b2.aa cQ λhe=>cj he,eh f224 cQ dS,eh f324 cQ dS,eU.dt cQ dS,fw,λ_=>⟨rfl,λr V=>by rw[jD] at V;exact eJ V⟩,?_⟩;rw[aR];by_cases eW:n<=0
   .have:n=0:=Ω
    subst this;rw[if_pos (Int.le_refl _)];rfl
   .rw[if_neg eW]
theorem Bh {s:aH}:cX all s=match bb (-ax) ax s with
  |none=>ν
  |some (a,s1)=>match eI all.length a.natAbs s1 with
   |none=>ν
   |some (scope,I)=>iN (decide (a<0)) a.natAbs scope (scope.map λv=>all.getD v.toNat 0) (σ I):=by
 unfold cX;cases bb (-ax) ax s with
 |none=>rfl
 |some q=>
  obtain⟨a,s1⟩:=q;simp only;cases eI all.length a.natAbs s1 with
  |none=>rfl
  |some p=>
   obtain⟨scope,I⟩:=p;simp only;unfold iN;show _=match bb 0 ax (a8 (decide (6<a.natAbs)||da (scope.map λv=>all.getD v.toNat 0)) I) with
    |none=>ν
    |some (other,J)=>_
   cases bb 0 ax (a8 (decide (6<a.natAbs)||da (scope.map λv=>all.getD v.toNat 0)) I) with
   |none=>rfl
   |some V=>
    obtain⟨o,J⟩:=V;simp only;cases dA (scope.map λv=>all.getD v.toNat 0) J with
    |none=>rfl
    |some W=>
     obtain⟨ls,X⟩:=W;by_cases U:a<0
     .simp[U]
     .simp[U]
def uU (w:x2) (g:Nat) (H:aj) (J:Option (cg×aH)) (v:x1) (w':x2):Prop:=∃U x I,ag (λr=>r=g\/H r) w w'/\v= .agg (eD U).toArray/\fW w' U x/\bI w' g w'.heap.size I 100001 (J.map (·.2))/\(∀q,J=σ q->x=q.1)/\(∀r,H r->I r)/\(∀r,I r->H r\/w.heap.size<=r)/\ ∀r,I r->r<w'.heap.size
theorem Bi {n:Int} {k:Nat} {s s':aH} (h:eI n k s=σ (l,s')):s'.toks.length+l.length<=s.toks.length/\s'.told=s.told/\s'.big=s.big/\s'.shared=s.shared/\ ∀v∈l,0<=v/\v<n:=by
 have:=jf (f:=jg n) (λ(acc:Λ) t=>t.toks.length+acc.length<=s.toks.length/\t.told=s.told/\t.big=s.big/\t.shared=s.shared/\ ∀v∈acc,0<=v/\v<n) (λacc t a ac J I=>by
  unfold jg at I;cases V:bb 0 (n-1) t with
  |none=>rw[V] at I;cases I
  |some q=>
   obtain⟨v,ad⟩:=q;rw[V] at I;simp only at I;split at I
   .cases I
   .cases I;have W:=dl V;have ae:=(gQ V).1;obtain⟨X,Y,aa⟩:=W.eqs;have t0:=W.1;refine⟨by have:=J.1;rw[u9];simp only[U2];omega,X.trans J.2.1,Y.trans J.2.2.1,aa.trans J.2.2.2.1,λy U=>?_⟩;rcases n9.1 U with U|U
    .exact J.2.2.2.2 y U
    .rw[j4.1 U];omega) k [] s l s' ⟨Ξ,rfl,rfl,rfl,λv ab=>by cases ab⟩ h
 exact this.1
theorem KB {g B0 bk:Nat} {H:aj} {s:aH} {aw:x1} (h:bI w g B0 H 100000 (σ s)) (aM:au .i64 ao w bk aw all) (aN:∀z∈all,1<=z/\z<=ax) (bl:all.length<=100001) (ay:∀r,H r->r<w.heap.size) (bL:iM s):
  ak x3 xd [Γ g,aw] w (uU w g H (cX all s)):=by
 have cj:=h.lt;refine aB func160 ?_;refine bp aX.i λai U ck aC aD=>?_;have aD:af U ai aX [.slice ν 0 0,.slice ν 0 0,Δ 0,.slice ν 0 0]:=aD;refine bp aX.i λam V cl aE aF=>?_;have aF:af V am aX [.slice ν 0 0,.slice ν 0 0,Δ 0,.slice ν 0 0]:=aF;have h1:=(h.ext aC).base;have aO:=h1.ext aE;have cm:=aC.size;have bm:=aD.lt;have cn:=aF.lt;refine (jp aO).mono ?_;rintro _ ah _ ⟨⟨aG,Y⟩,a,bM,rfl,aP,aR⟩;rw[aK (v:=Δ a) rfl,aK (v:=Δ bM) rfl,aq];have bN:am≠g:=Ω
 have aS:ai≠g:=Ω
 have aT:=aF.aa aG λhe=>bN he;have aU:=(aD.ext aE).aa aG λhe=>aS he;have bo:au .i64 ao ah bk aw all:=bc ((aM.ext aC).ext aE) aG λr W he=>by
  have he:r=g:=he;obtain⟨bq,ac,al,bad,br,big,bt,told,sv,aJ,_⟩:=gW h;subst he;exact bX aM aJ Φ W rfl
 have bu:∀r,leads aw r->r<U.heap.size:=λr W=>by obtain⟨ac,al⟩:=bA aM W;omega
 have aV:gp ah U.heap.size am ⟨[],[],0,[]⟩:=⟨_,_,_,0,0,0,aT,au.nil _ _ _ _,au.nil _ _ _ _,⟨[],a6.nil _ _ _ _ _,λy bO=>(by cases bO),rfl⟩,(λr W=>by rcases W with⟨a,n,c,ac,al⟩|⟨a,n,c,ac,al⟩<;>cases ac),(λr W=>by obtain⟨a,n,c,ac,al⟩:=W;cases ac),Ω⟩;have aW:∀c,af ah am aX c->c[3]? =σ (.slice ν 0 0):=λc aY=>by
  unfold af at aY aT;rw[aT] at aY;have:=Array.toList_inj.2 (Obj.cells.inj (Z8 aY)).1;simp at this;rw[<-this];rfl
 have bw:ag (λr=>r=g) U ah:=(aE.aa _).trans aG;have cp:U.heap.size<=ah.heap.size:=bw.size;have aZ:∀ {X:x2} {a2:Option (cg×aH)} {v:x1} {w':x2},ag (fX g U.heap.size) ah X->a2=cX all s->Bf X g ai U.heap.size H a2 v w'->uU w g H (cX all s) v w':=by
  rintro X a2 v w' ad rfl ⟨ap,x,bP,a7,a8,ba,bd,bx,bz,bB,bQ⟩;refine⟨ap,x,bP,?_,a8,ba,bd,bx,bz,λr W=>(bB r W).imp id λh=>Ω,bQ⟩;refine gf (gf ((aC.aa _).trans (bw.mono λr _ h=>.inl h)) ad λr W he=>?_) a7 λr W he=>?_
  .exact he.elim .inl λhe=>Ω
  .rcases he with he|he|he|he
   .exact .inl he
   .exact .inr he
   .omega
   .omega
 have bR:∀ {X:x2} {x:cg},ag (fX g U.heap.size) ah X->cX all s=ν->bI X g U.heap.size H 100000 ν->gp X U.heap.size am x->
   (J x3 (x6 aX (Γ am)) X λbS=>
    aA x3 (o5 aX (Γ ai) bS) X λ(_:Unit) bC=>
    J x3 (do loadVar aX (<-asAddr (Γ ai))) bC λbT=>uU w g H (cX all s) bT bC):=by
  intro X x ad bD be bU;obtain⟨az,av,bY,g1,bV,bW,a7,a8,ba,bd,bx,bz,bB⟩:=bU;let ap:hV:=⟨az,av,x.other,bY⟩;have bE:fW X ap x:=⟨⟨g1,a8⟩,⟨bV,ba⟩,rfl,bW,bd⟩;have bf:=aU.aa ad λI=>I.elim aS λh=>Ω
  rw[bn aX.p aX.i rfl (show X.rangeAt am 0 (eD ap) from a7.range)];refine bH (vs:=eD ap) aX.i rfl rfl bE.one bf λcq bg cr bZ=>?_;rw[eO aX.p aX.i rfl bZ.range];have b0:∀r,r=ai->gn X r\/X.heap.size<=r:=λr W=>by subst W;exact .inl ⟨_,_,bf,Φ,Φ⟩
  have ct:=ad.size;refine aZ ad rfl ⟨ap,x,H,bg.mono λr _ h=>.inr (.inr (.inl h)),rfl,bE.dt bg b0,?_,(λq ab=>by rw[bD] at ab;cases ab),λ_ h=>h,λ_ h=>.inl h,λr W=>by have:=ay r W;omega⟩;rw[bD];have b1:bI X g U.heap.size H 100001 ν:=by
   obtain⟨cu,w0,bq,b2,gs,sv,L,b3,ac,al,bad,br,big,bt,told,h1,aO,Y,b4,b5,bh,bF⟩:=be;exact⟨Ω,w0,bq,b2,gs,sv,L,b3,ac,al,bad,br,big,bt,told,h1,aO,Y,b4,b5,bh,bF.1,by have:=bF.2;omega⟩
  refine b1.dt bg λr W=>.inl ?_;have W:r=ai:=W;subst W;exact⟨_,_,bf,Φ,Φ,Φ,Φ,λaI=>by have:=ay _ aI;omega⟩
 have an:=Bh (all:=all) (s:=s);have b6:a1 (-4611686018427387904) 4611686018427387904 (σ s)=bb (-ax) ax s:=rfl;rw[b6] at Y aP aR;have cw: -4611686018427387904<=a/\a<=4611686018427387904:=by
  cases ab:bb (-ax) ax s with
  |none=>have:=aR ab;omega
  |some q=>have:=aP q ab;rw[this];exact (gQ (n:=q.1) (s':=q.2) ab).1
 refine aQ (λv b7=>ah=b7/\v=Δ (a.natAbs:Int)) ?_ ?_
 rotate_left
 .intro cz bG;rw[ae];refine⟨λcA=>?_,λcB=>bG _ _ ⟨rfl,by congr 1;omega⟩⟩;rw[kw,wrap_i64 Ω Ω];exact bG _ _ ⟨rfl,by congr 1;omega⟩
 rintro _ _ ⟨rfl,rfl⟩;have bJ:∀r,H r->r<U.heap.size:=λr W=>by have:=ay r W;omega
 have bK:¬H ai:=λaI=>by have:=ay _ aI;omega
 have b8:∀ {scope:Λ},(∀v∈scope,0<=v/\v<(all.length:Int))-> ∀z∈scope.map (λv=>all.getD v.toNat 0),1<=z/\z<=ax:=λb9 z ca=>by
  obtain⟨v,cb,rfl⟩:=Z1.1 ca;have:=b9 v cb;refine aN _ ?_;rw[u5,y0 Ω];exact T6 _
 cases ab:bb (-ax) ax s with
 |none=>
  rw[ab] at Y an;have cc:=aR ab;subst cc;refine Bd (s:=s) (ar:=(0:Int).natAbs) Y (.inr ⟨rfl,rfl⟩) aV aW bo bu bl Φ (λh=>by cases h) ?_ ?_ ?_
  .intro h;cases h
  .intro _;exact Bg (neg:=decide ((0:Int)<0)) Y aV aW (λz aN=>by cases aN) Ξ aU bm bK bJ (λcd I=>by cases I) λv w' bi=>aZ (ag.refl _ _) (by rw[an];rfl) bi
  .intro h;cases h
 |some q=>
  obtain⟨a',s1⟩:=q;rw[ab] at Y an;have:=aP _ ab;subst this;simp only at an;have Y:bI ah g U.heap.size H 100000 (σ s1):=Y;have ce:=dl ab;refine Bd (s:=s1) (ar:=a.natAbs) Y (.inl rfl) aV aW bo bu bl Ω (λ_=>(rY Y).1) ?_ ?_ ?_
  .intro _ X x ad aL be bj;exact bR ad (by rw[an,aL]) be bj
  .intro h;cases h
  .intro _ X scope s' ad aL bh bj ch;obtain⟨cC,ci,t3,t4,t5⟩:=Bi aL;rw[aL] at an;obtain⟨ac,al,cD⟩:=ce.eqs;refine Bg (neg:=decide (a<0)) bh bj ch (b8 t5) ?_ (aU.aa ad λI=>I.elim aS λh=>Ω) bm bK bJ (λcd I=>?_) λv w' bi=>aZ ad an.symm bi
   .rw[u4];have:=(rY Y).1;omega
   .cases I;intro aJ;rw[t3,al] at aJ;rw[ci,ac];exact bL aJ
theorem KC {s s':aH} {l:List (Λ×Int)} (h:dA sizes s=σ (l,s')) (V:iM s):iM s':=by
 unfold dA at h;cases J:bb (-ax) ax s with
 |none=>rw[J] at h;cases h
 |some q=>
  obtain⟨n,s1⟩:=q;obtain⟨W,X,t3⟩:=(dl J).eqs;have U:iM s1:=λI=>by rw[W];exact V (by rw[<-X];exact I)
  rw[J] at h;simp only at h;split at h
  .split at h
   .cases h
   .split at h
    .cases h;exact U
    .cases h
  .rename_i ag;have h':cD (dz sizes) n.toNat [] (a8 (decide (16384<min (s1.told+n) ax)) {s1 with told:=min (s1.told+n) ax})=σ (l,s'):=h;have:=jf (f:=dz sizes) (λ_ t=>iM t) (λacc t a ah Y aa=>by
    obtain⟨_,_,_,ab⟩:=nN aa;obtain⟨ac,ad,ai⟩:=ab.eqs;intro I;rw[ac];exact Y (by rw[<-ad];exact I)) n.toNat [] (a8 (decide (16384<min (s1.told+n) ax)) {s1 with told:=min (s1.told+n) ax}) l s' (λI=>by
     obtain⟨ae,af⟩:=S2.1 I;have aj:=U ae;have ak:=of_decide_eq_false af;show 0<=min (s1.told+n) ax/\min (s1.told+n) ax<=16384;unfold ax at*;omega) h'
   exact this.1
theorem KD {s s':aH} {x:cg} (h:cX all s=σ (x,s')):s'.toks.length+1<=s.toks.length/\(iM s->iM s'):=by
 rw[Bh] at h;cases V:bb (-ax) ax s with
 |none=>rw[V] at h;cases h
 |some q=>
  obtain⟨a,s1⟩:=q;rw[V] at h;simp only at h;have aa:=dl V;cases I:eI all.length a.natAbs s1 with
  |none=>rw[I] at h;cases h
  |some p=>
   obtain⟨scope,J⟩:=p;rw[I] at h;simp only at h;obtain⟨au,ae,t3,_⟩:=Bi I;unfold iN at h;have e:a1 0 ax ((σ J).map (a8 (decide (6<a.natAbs)||da (scope.map λv=>all.getD v.toNat 0))))=bb 0 ax (a8 (decide (6<a.natAbs)||da (scope.map λv=>all.getD v.toNat 0)) J):=rfl;rw[e] at h;cases W:bb 0 ax (a8 (decide (6<a.natAbs)||da (scope.map λv=>all.getD v.toNat 0)) J) with
   |none=>rw[W] at h;cases h
   |some af=>
    obtain⟨o,ab⟩:=af;rw[W] at h;simp only at h;have ac:=dl W;cases U:dA (scope.map λv=>all.getD v.toNat 0) ab with
    |none=>rw[U] at h;cases h
    |some ag=>
     obtain⟨ls,X⟩:=ag;rw[U] at h;simp only[Y8,T8] at h;obtain⟨_,ah⟩:=h;have av:=Be U;have ai:(a8 (decide (6<a.natAbs)||da (scope.map λv=>all.getD v.toNat 0)) J).toks=J.toks:=rfl;have aj:=ac.1;rw[ai] at aj;have aw:=aa.1;obtain⟨ak,al,_⟩:=aa.eqs;obtain⟨f1,f2,_⟩:=ac.eqs;have Y:s'.toks=X.toks/\s'.told=X.told/\s'.big=X.big:=by
      rw[<-ah];split<;>exact⟨rfl,rfl,rfl⟩
     refine⟨by rw[Y.1];omega,λam=>?_⟩;have an:iM ab:=λad=>by
      rw[f2] at ad;rw[f1];have ao:J.big=false:=(S2.1 ad).1;show 0<=J.told/\J.told<=16384;rw[ae,ak];exact am (by rw[<-al,<-t3];exact ao)
     have ap:=KC U an;intro aq;rw[Y.2.1];exact ap (by rw[<-Y.2.2];exact aq)
theorem bI.shrink {g:Nat} {H:aj} {so:Option aH} (h:bI w g B H N so):∃I,bI w g B I N so/\(∀r,I r->H r)/\ ∀r,I r-> ∃c,af w r aX c:=by
 obtain⟨Y,w0,ab,ac,gs,sv,L,ad,ae,ag,bad,ah,big,ai,told,h1,U,V,ak,W,al,am⟩:=h;refine⟨λr=>leadsTo sv r,⟨Y,w0,ab,ac,gs,sv,L,ad,ae,ag,bad,ah,big,ai,told,h1,U,V,ak,W,λr J=>J,am⟩,al,λr J=>?_⟩;obtain⟨rfl,c,X⟩:=dm W.2.1 J;refine⟨c,X.aa U λhe=>?_⟩;obtain⟨ao,an⟩:=V;subst he;exact absurd (dP X an) Φ
theorem bI.low {g:Nat} {H:aj} {s:aH} (h:bI w g B H N (σ s)):bI w g B H 100000 (σ s):=by
 obtain⟨ag,w0,I,J,gs,sv,L,U,V,W,bad,X,big,Y,told,h1,aa,ab,ac,ad,ae,af⟩:=h;exact⟨o8 _,w0,I,J,gs,sv,L,U,V,W,bad,X,big,Y,told,h1,aa,ab,ac,ad,ae,af⟩
theorem bI.up {g M:Nat} {H:aj} {so:Option aH} (h:bI w g B H N so) (ag:N<=M):bI w g B H M so:=by
 obtain⟨ah,w0,J,U,gs,sv,L,V,W,X,bad,Y,big,aa,told,h1,ab,ac,ad,ae,af,I⟩:=h;refine⟨Ω,w0,J,U,gs,sv,L,V,W,X,bad,Y,big,aa,told,h1,ab,ac,ad,ae,af,?_⟩;cases so with
 |none=>exact⟨I.1,by have:=I.2;omega⟩
 |some s=>exact I
def j7 {α:Type} (f:List α->aH->Option (α×aH)) (cnt i:Nat) (I:Option aH) (A:List α) (so:Option aH):Prop:=I.bind (cD f cnt [])=(match so with
 |none=>ν
 |some s=>cD f (cnt-i) A s)
theorem j7.step {α:Type} {f:List α->aH->Option (α×aH)} {cnt i:Nat} {J:Option aH} {A:List α} {s:aH} {a:α} {U:Option aH} (h:j7 f cnt i J A (σ s)) (hi:i<cnt) (h1:U=(f A s).map (·.2)) (V:∀q,f A s=σ q->a=q.1):j7 f cnt (i+1) J (A++[a]) U:=by
 unfold j7 at*;rw[h,show cnt-i=(cnt-(i+1))+1 by omega];simp only;cases I:f A s with
 |none=>rw[nQ I,h1,I];rfl
 |some q=>
  obtain⟨a',s'⟩:=q;have:=V _ I;subst this;rw[rg I,h1,I];rfl
theorem KE {s0:aH} {acc:Λ} {n most count:Int} {ah:List cg} {aa ab ac ad ai so6 J:Option aH} (h1:aa=((dy s0).map (·.2)).map (a8 (decide (64<t.length)))) (av:∀q,dy s0=σ q->t=q.1)
  (X:ab=((a1 1 ax aa).map (·.2)).map (a8 (decide (64<n)))) (ao:∀q,a1 1 ax aa=σ q->n=q.1) (V:ac=(a1 1 ax ab).map (·.2)) (hm:∀q,a1 1 ax ab=σ q->most=q.1)
  (U:ad=((a1 0 ax ac).map (·.2)).map (a8 (decide (256<count)))) (ap:∀q,a1 0 ax ac=σ q->count=q.1) (I:ai=((a1 1 ax ad).map (·.2)).map (a8 (decide (2147483648<k)))) (aq:∀q,a1 1 ax ad=σ q->k=q.1)
  (Y:ai.bind (cD (fj most) n.toNat [])=so6.map λs=>(acc,s)) (W:so6.bind (cD (λ_ s=>cX acc s) count.toNat [])=J.map λs=>(ah,s)):gO s0=J.map λs=>(⟨t,k,acc,ah⟩,s):=by
 unfold gO;cases aj:dy s0 with
 |none=>
  rw[aj] at h1;subst h1;subst X;subst V;subst U;subst I;have:so6=ν:=by cases so6 with|none=>rfl|some s=>cases Y
  subst this;cases J with|none=>rfl|some s=>cases W
 |some aw=>
 obtain⟨aI,s1⟩:=aw;have:=av _ aj;subst this;rw[aj] at h1;have h1:aa=σ (a8 (decide (64<t.length)) s1):=h1;subst h1;simp only;have ay:a1 1 ax (σ (a8 (decide (64<t.length)) s1))=bb 1 ax (a8 (decide (64<t.length)) s1):=rfl;rw[ay] at X ao;cases ak:bb 1 ax (a8 (decide (64<t.length)) s1) with
 |none=>
  rw[ak] at X;subst X;subst V;subst U;subst I;have:so6=ν:=by cases so6 with|none=>rfl|some s=>cases Y
  subst this;cases J with|none=>rfl|some s=>cases W
 |some az=>
 obtain⟨aJ,ae⟩:=az;have:=ao _ ak;subst this;rw[ak] at X;have X:ab=σ (a8 (decide (64<n)) ae):=X;subst X;simp only;have aA:a1 1 ax (σ (a8 (decide (64<n)) ae))=bb 1 ax (a8 (decide (64<n)) ae):=rfl;rw[aA] at V hm;cases al:bb 1 ax (a8 (decide (64<n)) ae) with
 |none=>
  rw[al] at V;subst V;subst U;subst I;have:so6=ν:=by cases so6 with|none=>rfl|some s=>cases Y
  subst this;cases J with|none=>rfl|some s=>cases W
 |some aB=>
 obtain⟨aK,af⟩:=aB;have:=hm _ al;subst this;rw[al] at V;have V:ac=σ af:=V;subst V;simp only;have aC:a1 0 ax (σ af)=bb 0 ax af:=rfl;rw[aC] at U ap;cases am:bb 0 ax af with
 |none=>
  rw[am] at U;subst U;subst I;have:so6=ν:=by cases so6 with|none=>rfl|some s=>cases Y
  subst this;cases J with|none=>rfl|some s=>cases W
 |some aD=>
 obtain⟨aL,ag⟩:=aD;have:=ap _ am;subst this;rw[am] at U;have U:ad=σ (a8 (decide (256<count)) ag):=U;subst U;simp only;have aE:a1 1 ax (σ (a8 (decide (256<count)) ag))=bb 1 ax (a8 (decide (256<count)) ag):=rfl;rw[aE] at I aq;cases an:bb 1 ax (a8 (decide (256<count)) ag) with
 |none=>
  rw[an] at I;subst I;have:so6=ν:=by cases so6 with|none=>rfl|some s=>cases Y
  subst this;cases J with|none=>rfl|some s=>cases W
 |some aF=>
 obtain⟨aM,au⟩:=aF;have:=aq _ an;subst this;rw[an] at I;have I:ai=σ (a8 (decide (2147483648<k)) au):=I;subst I;simp only;have Y:cD (fj most) n.toNat [] (a8 (decide (2147483648<k)) au)=so6.map λs=>(acc,s):=Y;rw[Y];cases so6 with
 |none=>cases J with|none=>rfl|some s=>cases W
 |some aG=>
  simp only[Y0];have W:cD (λ_ s=>cX acc s) count.toNat [] aG=J.map λs=>(ah,s):=W;rw[W];cases J<;>rfl
def ob (w:x2) (J:Nat) (U:x1) (I:List cg):Prop:=∃L,a6 eD 4 aX w J U L/\I.length=L.length/\ ∀ (i:Nat) h x,L[i]? =σ h->I[i]? =σ x->fW w h x
def mN (w:x2) (J:Nat) (f:b2):Prop:=∃av U I V,af w J dk [bz f.name,Δ f.k,av,I]/\au .i64 ao w U av f.sizes/\ob w V I f.funs
theorem ob.ext {J:x1} {U:List cg} (h:ob w I J U) (V:Ext w w'):ob w' I J U:=by
 obtain⟨L,h1,W,X⟩:=h;exact⟨L,h1.ext V,W,λi aI x hi Y=>(X i aI x hi Y).ext V⟩
theorem mN.ext {J:Nat} {f:b2} (h:mN w J f) (I:Ext w w'):mN w' J f:=by
 obtain⟨av,U,V,W,h1,X,Y⟩:=h;exact⟨av,U,V,W,h1.ext I,X.ext I,Y.ext I⟩
def KF (w:x2) (pl:Λ) (v:x1) (w':x2):Prop:=Ext w w'/\ ∃n e:Int,(fO pl=ν->v= .tuple #[.pointer ν,Δ n,Δ e])/\ ∀f,fO pl=σ f-> ∃I,v= .tuple #[Γ I,Δ n,Δ e]/\mN w' I f
theorem KG {w0:x2} {g V bm:Nat} {so6:Option aH} {acc:Λ} {count bad:Int} {av p:x1} {Q:x1->x2->Prop} (dv:ag (λr=>w0.heap.size<=r) w0 w) (cl:af w V dk [bz t,Δ k,av,.slice ν 0 0]) (dw:au .i64 ao w bm av acc)
  (h:bI w g B bu 100000 so6) (dx:∀s,so6=σ s->iM s/\s.toks.length<=100000/\(∀z∈acc,1<=z/\z<=ax)/\acc.length<=100001) (fs:w0.heap.size<=g) (ft:w0.heap.size<=V) (dy:aJ .u8 w0 p pl) (fu:0<=count/\count<=4611686018427387904)
  (bK:∀v w' al bL,Ext w0 w'->so6.bind (cD (λ_ s=>cX acc s) count.toNat [])=bL.map (λs=>(al,s))->
   (∀s,bL=σ s->s.toks=[]/\¬0<=bad/\s.big=false->v= .tuple #[Γ V,Δ (pl.length:Int),Δ 0]/\mN w' V ⟨t,k,acc,al⟩)->
   ((∀s,bL=σ s->¬(s.toks=[]/\¬0<=bad/\s.big=false))-> ∃n e:Int,v= .tuple #[.pointer ν,Δ n,Δ e])->Q v w'):
  bP (Δ 0) w λcn X dz=>
   bB (α:=x1->x2->Prop) (λ(dA:x1) (am:x2)=>
    Split dA (cm am λah=>
   J x3 (aY (Γ V)) ah λa8=>
   J x3 (x7 dk a8 3) ah λba=>
   J x3 (x6 de ba) ah λbM=>
   J x3 (aY (Γ V)) ah λdC=>
   J x3 (x7 dk dC 2) ah λdD=>
   J x3 (x6 aw dD) ah λdE=>
   ak x3 xd [(Γ g),dE] ah λdF aO=>
    (Ext ah aO\/bl x3 (x6 de ba) bM aO/\bl x3 (x7 dk a8 3) ba aO/\bl x3 (aY (Γ V)) a8 aO/\True)/\
   aA x3 (Z7 de 1 #[(0,dF)]) aO λdG az=>
    (Ext ah az\/bl x3 (x6 de ba) bM az/\bl x3 (x7 dk a8 3) ba az/\bl x3 (aY (Γ V)) a8 az/\True)/\
    aA x3 (l9 #[de,de] de #[bM,dG]) az λdH bn=>
     J x3 (aY (Γ V)) bn λdI=>
     J x3 (x7 dk dI 3) bn λdJ=>
     aA x3 (o5 de dJ dH) bn λ(_:Unit) bb=>
     J x3 (aC .add ao false true cn (Δ 1)) bb λdK=>
   dz dK bb)
     (bB (α:=x2->Prop) (λ(ap:x2)=>
   bB (α:=x2->Prop) (λ(Y:x2)=>
    J x3 (aY (Γ g)) Y λdL=>
    J x3 (x7 br dL 3) Y λdM=>
    J x3 (x6 ab dM) Y λdN=>
    J x3 (aC .neq ab false true dN (Δ 0)) Y λdO=>
    Split dO (cm Y λaG=>
     J x3 (aY (Γ g)) aG λdQ=>
     J x3 (x7 br dQ 4) aG λdR=>
     J x3 (x6 ab dR) aG λdS=>
     J x3 (aY (Γ g)) aG λdT=>
     J x3 (x7 br dT 3) aG λdU=>
     J x3 (x6 ab dU) aG λdV=>
     Q (.tuple #[(.pointer ν),dS,dV]) aG)
     (J x3 (aY (Γ g)) Y λdW=>
    J x3 (x7 br dW 5) Y λdX=>
    J x3 (x6 ab dX) Y λdY=>
    J x3 (aC .neq ab false true dY (Δ 0)) Y λdZ=>
    Split dZ (cm Y λaK=>
     J x3 (aY (Γ g)) aK λea=>
     J x3 (x7 br ea 6) aK λeb=>
     J x3 (x6 ab eb) aK λec=>
     J x3 (aY (Γ g)) aK λed=>
     J x3 (x7 br ed 5) aK λee=>
     J x3 (x6 ab ee) aK λef=>
     Q (.tuple #[(.pointer ν),ec,ef]) aK)
     (J x3 (Y3 #[cB] ab #[p]) Y λeg=>
    Q (.tuple #[(Γ V),eg,(Δ 0)]) Y))) λcp=>
   bB (α:=x1->x2->Prop) (λ(ei:x1) (bo:x2)=>
    Split ei (ak x3 l1 [(Γ g),(Δ 11),(Δ bad)] bo λfv cq=>
     cp cq)
     (cp bo)) λcr=>
   J x3 (aY (Γ g)) ap λej=>
   J x3 (x7 br ej 3) ap λek=>
   J x3 (x6 ab ek) ap λem=>
   J x3 (aC .eql ab false true em (Δ 0)) ap λen=>
   Split en (J x3 (aC .geq ab false true (Δ bad) (Δ 0)) ap λeo=>
   cr eo ap)
    (cr (.bool false) ap)) λct=>
  bB (α:=x1->x2->Prop) (λ(ep:x1) (aB:x2)=>
   Split ep (J x3 (aY (Γ g)) aB λer=>
    J x3 (x7 br er 0) aB λes=>
    J x3 (x6 eT es) aB λet=>
    J x3 (n0 eT et (Δ 0)) aB λeu=>
    J x3 (x7 cd eu 1) aB λev=>
    J x3 (x6 ab ev) aB λew=>
    ak x3 l1 [(Γ g),(Δ 4),ew] aB λfw bN=>
    ct bN)
    (ct aB)) λcu=>
  J x3 (aY (Γ g)) am λey=>
  J x3 (x7 br ey 3) am λez=>
  J x3 (x6 ab ez) am λeA=>
  J x3 (aC .eql ab false true eA (Δ 0)) am λeB=>
  Split eB (J x3 (aY (Γ g)) am λeC=>
  J x3 (x7 br eC 0) am λeE=>
  J x3 (x6 eT eE) am λeF=>
  J x3 (Y3 #[eT] ab #[eF]) am λeH=>
  J x3 (aC .gtr ab false true eH (Δ 0)) am λeI=>
  cu eI am)
   (cu (.bool false) am))) λcw=>
   J x3 (aC .lss ao false false cn (Δ count)) X λeK=>
   Split eK (J x3 (aY (Γ g)) X λeL=>
   J x3 (x7 br eL 3) X λeM=>
   J x3 (x6 ab eM) X λeN=>
   J x3 (aC .eql ab false true eN (Δ 0)) X λeO=>
   cw eO X)
    (cw (.bool false) X):=by
 have cz:V≠g:=λhe=>by
  obtain⟨aP,aL,aM,bad,aR,big,aU,told,sv,W,_⟩:=gW h;subst he;exact absurd (dP W cl) Φ
 refine⟨λbS X=>∃i:Nat,bS=Δ (i:Int)/\i<=count.toNat/\ag (λr=>w0.heap.size<=r) w0 X/\ ∃an bc al so,∃H:aj,af X V dk [bz t,Δ k,av,an]/\au .i64 ao X bm av acc/\ob X bc an al/\(∀r,leadsTo an r->w0.heap.size<=r/\¬H r)/\¬H V/\(∀r,leads av r->¬H r)/\(∀r,H r->w0.heap.size<=r)/\bI X g X.heap.size H 100001 so/\j7 (λ_ s=>cX acc s) count.toNat i so6 al so/\
   ∀s,so=σ s->iM s/\al.length+s.toks.length<=100000/\(∀z∈acc,1<=z/\z<=ax)/\acc.length<=100001,λbS _=>count.toNat-(bO bS).toNat,
  ⟨0,rfl,X3 _,dv,_,0,[],so6,bu,cl,dw,⟨[],a6.nil _ _ _ _ _,rfl,λi h x hi=>by simp at hi⟩,λr U=>(eJ U).elim,id,λr _ h=>h,λr h=>h.elim,h.base.up Ω,?_,λs I=>?_⟩,?_⟩
 .unfold j7;cases so6<;>rfl
 .obtain⟨eP,eQ,a3,a4⟩:=dx s I;exact⟨eP,by simpa using eQ,a3,a4⟩
 rintro _ X ⟨i,rfl,hi,bp,an,bc,al,so,H,cA,cC,cE,bd,bT,eR,cF,aF,bU,eS⟩;refine aQ (λv am=>X=am/\((v= .bool true/\i<count.toNat/\ ∃s,so=σ s)\/(v= .bool false/\(so=ν\/i=count.toNat)))) ?_ ?_
 rotate_left
 .intro fx bV;rw[aq,ae];refine⟨λcG=>?_,λfy=>bV _ _ ⟨rfl,.inr ⟨rfl,.inr Ω⟩⟩⟩;rw[j3 aF];cases so with
  |none=>exact bV _ _ ⟨rfl,.inr ⟨rfl,.inl rfl⟩⟩
  |some s=>exact bV _ _ ⟨rfl,.inl ⟨rfl,Ω,s,rfl⟩⟩
 rintro _ _ ⟨rfl,⟨rfl,cG,s,rfl⟩|⟨rfl,eU⟩⟩
 .
  rw[bQ];intro ah aV _ _;obtain⟨cH,fz,cI,cJ⟩:=eS s rfl;have be:=cA.ext aV;obtain⟨eV,cK,bf,cL⟩:=(aF.ext aV).low.shrink;have bW:=cC.ext aV;have eW:=cE.ext aV;rw[ay,ac dk.p rfl,ad Ψ (be.Q3 rfl),ay,ac dk.p rfl,ad Ψ (be.Q2 rfl)];refine (KB cK bW cI cJ (λr U=>by obtain⟨c,W⟩:=cL r U;exact W.lt) cH).mono ?_;rintro _ aO _ ⟨bX,x,cM,aW,rfl,cN,eX,eY,fA,cO,eZ⟩;have cP:∃c,af ah g br c:=by obtain⟨aP,aL,aM,bad,aR,big,aU,told,sv,W,_⟩:=gW cK;exact⟨_,W⟩
  have cQ:∀r,(r=g\/eV r)->gn ah r\/ah.heap.size<=r:=λr U=>by
   rcases U with rfl|U
   .obtain⟨c,W⟩:=cP;exact .inl ⟨_,c,W,Φ,Φ⟩
   .obtain⟨c,W⟩:=cL r U;exact .inl ⟨_,c,W,Φ,Φ⟩
  have bY:=be.aa aW λU=>U.elim (λhe=>cz he) λU=>bT (bf _ U);have st:∀ {w':x2},af w' V dk [bz t,Δ k,av,an]->bl x3 (x6 de (.pointer (σ ⟨V,0+3,ν⟩))) an w'/\bl x3 (x7 dk (Γ V) 3) (.pointer (σ ⟨V,0+3,ν⟩)) w'/\bl x3 (aY (Γ V)) (Γ V) w'/\True:=λW=>
   ⟨hI Ψ (W.Q3 rfl),fD (by rw[ac dk.p rfl]),fD (by rw[ay]),trivial⟩
  refine⟨.inr (st bY),?_⟩;refine fQ (f:=eD) (a:=bX) de.u aX.i Ω rfl rfl λfB fC az fE aD e0=>?_;refine⟨.inr (st (bY.ext aD)),?_⟩;obtain⟨L,aZ,bZ,b0⟩:=id eW;have e1:a6 eD 4 aX aO bc an L:=aZ.aa aW λr U I=>I.elim (λhe=>by
   obtain⟨c,W⟩:=cP;subst he;exact cc aZ W Φ U) λI=>(bd r U).2 (bf r I)
  have b1:=e1.ext aD;refine gh (f:=eD) (a:=bX) de.u aX.i rfl b1 (by simpa using e0.sl) (cN.ext aD).one Ω Ω λcR e2 bn bq e3 cS=>?_;have b2:=bY.ext aD;have cU:=b2.aa cS λhe=>cc b1 b2 Φ he;rw[ay,ac dk.p rfl];refine bh (g:=V) (o:=3) de.i (cT bq.sl).1 (cT bq.sl).2 cU Ξ λbb cV fF b3=>?_;have b3:af bb V dk [bz t,Δ k,av,cR]:=b3;have fG:i<=4611686018427387904:=Ω
  rw[aN,wrap_i64 Ω Ω];have a1:ag (λr=>leadsTo an r\/r=V) az bb:=(cS.mono λr _ h=>.inl h).trans (cV.mono λr _ h=>.inr h);have cW:∀r,(leadsTo an r\/r=V)-> ∃e c,af az r e c/\e≠ao/\e≠b4/\e≠cd/\e≠br:=λr U=>by
   rcases U with U|rfl
   .obtain⟨rfl,c,W⟩:=dm b1 U;exact⟨_,c,W,Φ,Φ,Φ,Φ⟩
   .exact⟨_,_,b2,Φ,Φ,Φ,Φ⟩
  have b5:∀r,(leadsTo an r\/r=V)->gn az r\/az.heap.size<=r:=λr U=>by
   obtain⟨e,c,W,b6,b7,_⟩:=cW r U;exact .inl ⟨e,c,W,b6,b7⟩
  have fH:=aV.size;have fI:=aW.size;have fJ:=aD.size;have fK:=a1.size;have cY:∀r,leadsTo an r->r<ah.heap.size:=λr U=>by obtain⟨aL,aM⟩:=aZ.leads U;omega
  have bg:∀r,r<ah.heap.size->¬H r->¬cM r:=λr U e4 b8=>(cO r b8).elim (λh=>e4 (bf r h)) λh=>Ω
  have e5:∀r,leads av r->r<ah.heap.size:=λr U=>by obtain⟨aL,aM⟩:=bA bW U;omega
  refine⟨⟨i+1,rfl,Ω,?_,cR,e2,al++[x],_,cM,b3,eh ((eh bW aW cQ).ext aD) a1 b5,⟨L++[bX],bq.aa cV λr U he=>?_,by rw[u9,u9,bZ];rfl,λj cZ e6 a2 bi=>?_⟩,λr U=>?_,bg V be.lt bT,λr U=>bg r (e5 r U) (eR r U),λr U=>?_,?_,bU.step cG rfl λq ai=>eY q ai,λs' aE=>?_⟩,by simp only[bO];omega⟩
  .refine (((bp.trans (aV.aa _)).trans (aW.mono λr _ h=>?_)).trans (aD.aa _)).trans (a1.mono λr _ h=>?_)
   .exact h.elim (λh=>Ω) λh=>cF r (bf r h)
   .exact h.elim (λh=>(bd r h).1) λh=>Ω
  .have he:r=V:=he;subst he;exact cc bq cU Φ U
  .by_cases e7:j<L.length
   .rw[j9 e7] at a2;rw[j9 Ω] at bi;exact (((b0 j cZ e6 a2 bi).dt aW cQ).ext aD).dt a1 b5
   .rw[Z2 Ω] at a2;rw[Z2 Ω] at bi;have e8:j-L.length=0:=by have:=(x4.1 a2).1;simp at this;omega
    have e9:j-al.length=0:=Ω
    rw[e8] at a2;rw[e9] at bi;cases a2;cases bi;exact (cN.ext aD).dt a1 b5
  .rcases e3 r U with h|h
   .exact⟨(bd r h).1,bg r (cY r h) (bd r h).2⟩
   .exact⟨by have:=bp.size;omega,λb8=>by have:=eZ r b8;omega⟩
  .rcases cO r U with h|h
   .exact cF r (bf r h)
   .have:=bp.size;omega
  .refine (eX.ext aD).dt a1 λr U=>.inl ?_;obtain⟨e,c,W,b6,b7,fa,fb⟩:=cW r U;refine⟨e,c,W,b6,b7,fa,fb,?_⟩;rcases U with U|rfl
   .exact bg r (cY r U) (bd r U).2
   .exact bg _ be.lt bT
  .cases b9:cX acc s with
   |none=>rw[b9] at aE;cases aE
   |some q=>
    obtain⟨fL,c0⟩:=q;rw[b9] at aE;cases aE;obtain⟨fM,fc⟩:=KD b9;refine⟨fc cH,?_,cI,cJ⟩;rw[u9];simp only[U2];omega
 .
  rw[aS];have ca:so6.bind (cD (λ_ s=>cX acc s) count.toNat [])=so.map λs=>(al,s):=by
   unfold j7 at bU;rw[bU];cases so with
   |none=>rfl
   |some s=>
    rcases eU with h|rfl
    .cases h
    .simp only[W9];rfl
  have row:∀ {w':x2},ag (λr=>r=g) X w'->ob w' bc an al/\af w' V dk [bz t,Δ k,av,an]/\au .i64 ao w' bm av acc:=λbt=>by
   obtain⟨aP,aL,aM,bad,aR,big,aU,told,sv,W,_⟩:=gW aF;have c1:∀r,r=g->gn X r\/X.heap.size<=r:=λr U=>by subst U;exact .inl ⟨_,_,W,Φ,Φ⟩
   obtain⟨L,aZ,bZ,b0⟩:=id cE;refine⟨⟨L,aZ.aa bt λr U he=>?_,bZ,λi h x hi fd=>(b0 i h x hi fd).dt bt c1⟩,cA.aa bt λhe=>cz he,eh cC bt c1⟩;have he:r=g:=he;subst he;exact cc aZ W Φ U
  refine di (λap=>ag (λr=>r=g) X ap/\bI ap g X.heap.size H 100001 (so.bind λs=>if s.toks=[] then σ s else ν)) ?_ ?_
  rotate_left
  .intro fN c2;refine aQ (λv aB=>X=aB/\ ∃b:Bool,v= .bool b/\(b=true-> ∃s,so=σ s/\s.toks≠[])/\(b=false-> ∀s,so=σ s->s.toks=[])) ?_ ?_
   .rintro _ _ ⟨rfl,b,rfl,cb,cg⟩;cases b with
    |true=>
     obtain⟨s,rfl,bw⟩:=cb rfl;rw[bQ];obtain⟨c3,c4,aP,bj,gs,sv,L,c5,aL,aM,ch,aR,big,aU,told,c6,bx,bC,a7,bD,c7,c8,c9,bE,da,db,bF,dc,dd,df⟩:=id aF;obtain⟨⟨ci,fe⟩,_⟩:=bD.g bx bC;obtain⟨x,fO,rfl⟩:∃x l,bj=x::l:=by
      cases bj with
      |nil=>exact absurd bF.symm (by simpa using bw)
      |cons x l=>exact⟨x,l,rfl⟩
     rw[ay,ac br.p rfl,ad Ψ (a7.Q0 rfl)];refine A8 ci λb o ff=>?_;rw[ac cd.p rfl,ad Ψ (ff 1 _ rfl)];refine (mM aF Ω).mono ?_;rintro _ bN _ ⟨fg,fh⟩;refine c2 _ ⟨fg,?_⟩;show bI bN g _ H 100001 (if s.toks=[] then σ s else ν);rw[if_neg bw];exact fh
    |false=>
     rw[aS];refine c2 _ ⟨ag.refl _ _,?_⟩;cases so with
     |none=>exact aF
     |some s=>
      show bI _ g _ H 100001 (if s.toks=[] then σ s else ν);rw[if_pos (cg rfl s rfl)];exact aF
   .intro fP dg;rw[j3 aF];cases so with
    |none=>
     rw[Option.isSome_none,aS];exact dg _ _ ⟨rfl,false,rfl,(λh=>by cases h),λ_ s I=>by cases I⟩
    |some s=>
     rw[Option.isSome_some,bQ];obtain⟨c3,c4,aP,bj,gs,sv,L,c5,aL,aM,ch,aR,big,aU,told,c6,bx,bC,a7,bD,c7,c8,c9,bE,da,db,bF,dc,dd,df⟩:=id aF;obtain⟨⟨ci,fe⟩,_⟩:=bD.g bx bC;rw[ay,ac br.p rfl,ad Ψ (a7.Q0 rfl),A7 ci,bR];have fR:bj.length=s.toks.length:=by rw[<-bF,u4]
     refine dg _ _ ⟨rfl,_,rfl,λh=>⟨s,rfl,λbk=>?_⟩,λh s' aE=>?_⟩
     .have:=of_decide_eq_true h;have cZ:s.toks.length=0:=by rw[bk];rfl
      omega
     .cases aE;have:=of_decide_eq_false h;exact Z5 Ω
  rintro ap ⟨dh,cj⟩;refine di (λY=>ag (λr=>r=g) X Y/\bI Y g X.heap.size H 100001 (so.bind λs=>if s.toks=[]/\¬0<=bad then σ s else ν)) ?_ ?_
  rotate_left
  .intro fS dj;refine aQ (λv bo=>ap=bo/\ ∃b:Bool,v= .bool b/\(b=true->(so.bind λs=>if s.toks=[]/\¬0<=bad then σ s else ν)=ν)/\(b=false->(so.bind λs=>if s.toks=[]/\¬0<=bad then σ s else ν)=so.bind λs=>if s.toks=[] then σ s else ν)) ?_ ?_
   .rintro _ _ ⟨rfl,b,rfl,cb,cg⟩;cases b with
    |true=>
     rw[bQ];refine (mM cj Ω).mono ?_;rintro _ cq _ ⟨fi,fj⟩;exact dj _ ⟨dh.trans fi,by rw[cb rfl];exact fj⟩
    |false=>
     rw[aS];exact dj _ ⟨dh,by rw[cg rfl];exact cj⟩
   .intro fU dl;rw[j3 cj];cases ai:(so.bind λs=>if s.toks=[] then σ s else ν) with
    |none=>
     rw[Option.isSome_none,aS];refine dl _ _ ⟨rfl,false,rfl,(λh=>by cases h),λ_=>?_⟩;cases so with
     |none=>rfl
     |some s=>
      have ai:(if s.toks=[] then σ s else ν)=ν:=ai;show (if s.toks=[]/\¬0<=bad then σ s else ν)=(if s.toks=[] then σ s else ν);rw[ai];split at ai
      .cases ai
      .rename_i bw;rw[if_neg (λh=>bw h.1)]
    |some s=>
     rw[Option.isSome_some,bQ,ce];refine dl _ _ ⟨rfl,_,rfl,λh=>?_,λh=>?_⟩
     .have bk:=of_decide_eq_true h;cases so with
      |none=>rfl
      |some s=>exact if_neg λh=>h.2 bk
     .have bk:=of_decide_eq_false h;cases so with
      |none=>rfl
      |some s=>
       show (if s.toks=[]/\¬0<=bad then σ s else ν)=(if s.toks=[] then σ s else ν);by_cases I:s.toks=[]
       .rw[if_pos I,if_pos ⟨I,bk⟩]
       .rw[if_neg I,if_neg λh=>I h.1]
  rintro Y ⟨dn,bH⟩;obtain⟨fk,fm,fo⟩:=row dn;have fp:ag (λr=>w0.heap.size<=r) w0 Y:=bp.trans (dn.mono λr _ h=>by have h:r=g:=h;omega);have bJ:Ext w0 Y:=fp.ext λr U he=>Ω
  rw[pJ bH];cases ai:(so.bind λs=>if s.toks=[]/\¬0<=bad then σ s else ν) with
  |none=>
   rw[Option.isSome_none,X5,bQ];intro aG dp _ _;obtain⟨aP,aL,aM,ch,aR,big,aU,told,sv,W,_⟩:=gW (bH.ext dp);rw[ay,ac br.p rfl,ad Ψ (W.Q4 rfl),ay,ac br.p rfl,ad Ψ (W.Q3 rfl)];refine bK _ _ al so (bJ.trans dp) ca (λs I aI=>?_) λ_=>⟨_,_,rfl⟩;subst I;have ai:(if s.toks=[]/\¬0<=bad then σ s else ν)=ν:=ai;rw[if_pos ⟨aI.1,aI.2.1⟩] at ai;cases ai
  |some s=>
   rw[ai] at bH;rw[Option.isSome_some,Y1,aS];obtain⟨s',rfl,aE⟩:∃s',so=σ s'/\(if s'.toks=[]/\¬0<=bad then σ s' else ν)=σ s:=by
    cases so with
    |none=>cases ai
    |some s'=>exact⟨s',rfl,ai⟩
   split at aE
   .rename_i dq;cases aE;obtain⟨c3,c4,aP,bj,gs,sv,L,c5,aL,aM,ch,aR,big,aU,told,c6,bx,bC,a7,bD,c7,c8,c9,bE,da,db,bF,dc,dd,df⟩:=id bH;rw[ay,ac br.p rfl,ad Ψ (a7.Q5 rfl),bG,ae];refine⟨λck=>?_,λck=>?_⟩
    .intro aK dr _ _;have ds:=a7.ext dr;rw[ay,ac br.p rfl,ad Ψ (ds.Q6 rfl),ay,ac br.p rfl,ad Ψ (ds.Q5 rfl)];refine bK _ _ al _ (bJ.trans dr) ca (λc0 du aI=>?_) λ_=>⟨_,_,rfl⟩;cases du;rw[bE.1 ck] at aI;cases aI.2.2
    .rw[aT cB.u (dy.ext bJ)];refine bK _ _ al _ bJ ca (λc0 du aI=>⟨rfl,av,bm,an,bc,fm,fo,fk⟩) λfq=>?_;refine absurd ⟨dq.1,dq.2,?_⟩ (fq s rfl);cases W:s.big with
     |false=>rfl
     |true=>exact absurd (bE.2 W) ck
   .cases aE
def Zero (so:Option aH):Prop:=∀s,so=σ s->s.told=0/\s.toks.length<=100000
theorem Zero.big {so:Option aH} (h:Zero so) (b:Bool):Zero (so.map (a8 b)):=λs I=>by
 cases so with
 |none=>cases I
 |some s0=>cases I;exact h s0 rfl
theorem zero_num {lo hi:Int} {so:Option aH} (h:Zero so):Zero ((a1 lo hi so).map (·.2)):=λs I=>by
 cases so with
 |none=>cases I
 |some s0=>
  have I:U1 (λx=>x.2) (bb lo hi s0)=σ s:=I;cases J:bb lo hi s0 with
  |none=>rw[J] at I;cases I
  |some q=>
   obtain⟨n,s1⟩:=q;rw[J] at I;cases I;have U:=dl J;have:=U.1;obtain⟨h1,V⟩:=h s0 rfl;exact⟨U.eqs.1.trans h1,by show s1.toks.length<=100000;omega⟩
theorem KH {so:Option aH} (h:Zero so):Zero ((ih so).map (·.2)):=λs I=>by
 cases so with
 |none=>cases I
 |some s0=>
  have I:U1 (λx=>x.2) (dy s0)=σ s:=I;cases J:dy s0 with
  |none=>rw[J] at I;cases I
  |some q=>
   obtain⟨n,s1⟩:=q;rw[J] at I;cases I;obtain⟨U,V⟩:=q6 J;obtain⟨h1,W⟩:=h s0 rfl;have:s0.toks.length=s1.toks.length+1:=by rw[U];rfl
   exact⟨by show s1.told=0;rw[V];exact h1,by show s1.toks.length<=100000;omega⟩
theorem KI {so:Option aH} {f:b2} (h:gO ⟨(lex pl).1,0,false,[]⟩=so.map λs=>(f,s)) (I:¬65536<pl.length):fO pl=so.bind λs=>if s.toks=[]/\(lex pl).2=true/\s.big=false then σ f else ν:=by
 unfold fO;rw[if_neg I,h];cases so<;>rfl
theorem KJ (I:pl.length<=60000):(∀t∈(lex pl).1,Bytes t/\t.length<=65536)/\(lex pl).1.length<=60000:=by
 refine⟨λt J=>?_,Y9 (oR pl.length pl (o8 _)) I⟩;obtain⟨_,U,W⟩:=qU pl.length pl (o8 _) t J;refine⟨λb V=>?_,Ω⟩;have:=of_decide_eq_true (U b V);omega
theorem Bj {p:x1} (aX:aJ .u8 w p pl) (cQ:Bytes pl) (cR:pl.length<=60000):ak x3 Dr [p] w (KF w pl):=by
 obtain⟨cS,em⟩:=KJ cR;refine aB func68 ?_;rw[aT cB.u aX,bR,ae];refine⟨λh=>Ω,λ_=>?_⟩;refine (Kt aX cQ Ω).mono ?_;rintro _ U _ ⟨bf,aF,bG,bad,rfl,bJ,bK,cT,en,bL⟩;rw[aK (v:=aF) rfl,aK (v:=Δ bad) rfl,aT cB.u (aX.ext bf),cW (cs:=#[aF,Δ (pl.length:Int),Δ 4,Δ 0,Δ 0,Δ 0,Δ 0,Δ 0,.slice ν 0 0]) (by obtain⟨_,_,_,_,_,rfl,_⟩:=bJ;kernel_rfl)];refine bN λg V eo aY aG=>?_;have aG:af V g br (fF aF (pl.length:Int) 4 0 0 0 0 0 (.slice ν 0 0)):=aG;have ep:=bf.size;have er:=aY.size;have es:=aG.lt;refine di (λY=>Ext w Y/\ag (λr=>r=g) V Y/\ ∃aL aM:Int,aM≠0/\af Y g br (fF aF aL aM 0 0 0 0 0 (.slice ν 0 0))) ?_ ?_
 rotate_left
 .intro cU aD;have bM:=bf.trans aY;rw[ce,ae];refine⟨λ_=>?_,λ_=>aD _ ⟨bM,ag.refl _ _,_,_,Ω,aG⟩⟩;rw[ay,ac br.p rfl];refine bh (g:=g) (o:=1) ab.i rfl rfl aG (by simp[fF]) λet cV eu cX=>?_;rw[ay,ac br.p rfl];refine bh (g:=g) (o:=2) ab.i rfl rfl cX (by simp[fF]) λev cY ew cZ=>?_;have ah:=cV.trans cY;exact aD _ ⟨bM.then ah λr J he=>by have he:r=g:=he;omega,ah,bad,11,Ω,cZ⟩
 rintro Y ⟨bP,bg,aL,aM,c0,bS⟩;have z3:=bg.size;have c1:bI Y g Y.heap.size bu 100000 (σ ⟨(lex pl).1,0,false,[]⟩):=by
  refine⟨o8 _,Y,aF,bG,0,_,[],[],aL,aM,0,0,0,0,0,rfl,ag.refl _ _,⟨_,bS⟩,bS,⟨⟨?_,λr J=>?_⟩,a6.nil _ _ _ _ _,rfl,λi h x hi=>by simp at hi⟩,λr J=>eJ J,rfl,c0,Ξ,λ_=>rfl,trivial,bK,cS,rfl,?_⟩
  .refine (bJ.aa (aY.aa λ_=>False) λ_ _ h=>h).aa bg λr J he=>?_;have he:r=g:=he;obtain⟨c,ap⟩:=bL r J;have:=ap.lt;omega
  .obtain⟨c,ap⟩:=bL r J;exact⟨c,(ap.ext aY).aa bg λhe=>by have he:r=g:=he;have:=ap.lt;omega⟩
  .have:bG.length=(lex pl).1.length:=by rw[<-bK,u4]
   simp only[List.length_nil];omega
 have ey:∀ {aC:x2} {c2 N:Nat} {H:aj} {so:Option aH},bI aC g c2 H N so->True:=λ_=>trivial;rw[cW (cs:=#[bz [],Δ 0,.slice ν 0 0,.slice ν 0 0]) Ψ];refine bN λW c3 ez bi aZ=>?_;have aZ:af c3 W dk [bz [],Δ 0,.slice ν 0 0,.slice ν 0 0]:=aZ;have eA:Y.heap.size<=W:=Ω
 have eB:=aZ.lt;have c4:W≠g:=Ω
 have al:∀ {aC aO:x2} {c:List x1},af aC W dk c->ag (λr=>r=g) aC aO->af aO W dk c:=λap ah=>ap.aa ah λhe=>c4 he;refine (Ba (c1.ext bi)).mono ?_;rintro _ c5 _ ⟨⟨bj,c6⟩,t,bT,rfl,eC,eD,c7⟩;refine bp cd.i λbk eE eF c8 c9=>?_;refine bH (vs:=[bz t,Δ bT]) cd.i rfl rfl (by intro v bU;simp at bU;rcases bU with rfl|rfl<;>rfl) c9 λda db eH bV=>?_;have a2:Ext c5 da:=c8.then db λr J he=>by have he:r=bk:=he;omega
 have dc:=(al aZ bj).ext a2;rw[ac cd.p rfl,ad Ψ (bV.Q0 rfl),ay,ac dk.p rfl];refine bh (g:=W) (o:=0) cP.i rfl rfl dc Ξ λbl bm eI bn=>?_;have bn:af bl W dk [bz t,Δ 0,.slice ν 0 0,.slice ν 0 0]:=bn;have dd:=(c6.ext a2).new bm λr J=>by have J:r=W:=J;omega
 have z4:=bi.size;have z5:=bj.size;have eK:=a2.size;have bW:af bl bk cd [bz t,Δ bT]:=bV.aa bm λhe=>by have he:bk=W:=he;omega
 rw[ac cd.p rfl,ad Ψ (bW.Q0 rfl),mp cP.u,bR,ac cd.p rfl,ad Ψ (bW.Q1 rfl)];have de:ag (λr=>w.heap.size<=r) w bl:=((((bP.aa _).trans (bi.aa _)).trans (bj.mono λr _ h=>by have h:r=g:=h;omega)).trans (a2.aa _)).trans (bm.mono λr _ h=>by have h:r=W:=h;omega);have up:∀ {aC aO:x2},ag (λr=>w.heap.size<=r) w aC->ag (λr=>r=g) aC aO->ag (λr=>w.heap.size<=r) w aO:=λh k=>h.trans (k.mono λr _ h=>by have h:r=g:=h;omega);refine (lF dd).mono ?_;rintro _ eL _ ⟨bY,aP⟩;have df:=up de bY;have dg:=al bn bY;generalize bo:(((ih (σ ⟨(lex pl).1,0,false,[]⟩)).map (·.2)).map (a8 (decide ((64:Int)<(t.length:Int)))))=bq at aP;refine (jp aP).mono ?_;rintro _ eM _ ⟨⟨bZ,dh⟩,n,dj,rfl,b0,dm⟩;rw[aK (v:=Δ n) rfl,aK (v:=Δ dj) rfl,bR];refine (lF dh).mono ?_;rintro _ eN _ ⟨b1,b2⟩;have dn:=up (up df bZ) b1;have dp:=al (al dg bZ) b1;generalize b3:((a1 1 4611686018427387904 bq).map (·.2)).map (a8 (decide (64<n)))=bt at b2;refine (jp b2).mono ?_;rintro _ eO _ ⟨⟨b4,b5⟩,most,dq,rfl,hm,dr⟩;rw[aK (v:=Δ most) rfl,aK (v:=Δ dq) rfl];generalize b6:(a1 1 4611686018427387904 bt).map (·.2)=bw at b5;refine (jp b5).mono ?_;rintro _ eP _ ⟨⟨b7,ds⟩,count,dt,rfl,b8,du⟩;rw[aK (v:=Δ count) rfl,aK (v:=Δ dt) rfl,bR];refine (lF ds).mono ?_;rintro _ eQ _ ⟨b9,ca⟩;generalize cb:((a1 0 4611686018427387904 bw).map (·.2)).map (a8 (decide (256<count)))=cc at ca;refine (jp ca).mono ?_;rintro _ eR _ ⟨⟨cg,dv⟩,k,dw,rfl,dy,eS⟩;rw[aK (v:=Δ k) rfl,aK (v:=Δ dw) rfl,bR];refine (lF dv).mono ?_;rintro _ eU _ ⟨ch,ci⟩;generalize cj:((a1 1 4611686018427387904 cc).map (·.2)).map (a8 (decide (2147483648<k)))=aR at ci;have dz:=up (up (up (up (up dn b4) b7) b9) cg) ch;have dA:=al (al (al (al (al dp b4) b7) b9) cg) ch;rw[ay,ac dk.p rfl];refine bh (g:=W) (o:=1) ao.i rfl rfl dA Ξ λck cl eV bx=>?_;have bx:af ck W dk [bz t,Δ k,.slice ν 0 0,.slice ν 0 0]:=bx;have dC:=ci.new cl λr J=>by have J:r=W:=J;omega
 have cm:ag (λr=>w.heap.size<=r) w ck:=dz.trans (cl.mono λr _ h=>by have h:r=W:=h;omega);have eW:0<=n/\n<=4611686018427387904:=by
  cases X:a1 1 4611686018427387904 bq with
  |none=>have:=dm X;omega
  |some q=>have aP:=b0 q X;have:=lz (n:=q.1) (s':=q.2) X;omega
 have eX:0<=most/\most<=4611686018427387904:=by
  cases X:a1 1 4611686018427387904 bt with
  |none=>have:=dr X;omega
  |some q=>have aP:=hm q X;have:=lz (n:=q.1) (s':=q.2) X;omega
 have dD:0<=count/\count<=4611686018427387904:=by
  cases X:a1 0 4611686018427387904 bw with
  |none=>have:=du X;omega
  |some q=>have aP:=b8 q X;have:=lz (n:=q.1) (s':=q.2) X;omega
 have dE:Zero (σ (⟨(lex pl).1,0,false,[]⟩:aH)):=λs I=>by cases I;exact⟨rfl,by simp only;omega⟩
 have dF:Zero bq:=by rw[<-bo];exact (KH dE).big _
 have dG:Zero bt:=by rw[<-b3];exact (zero_num dF).big _
 have dH:Zero bw:=by rw[<-b6];exact zero_num dG
 have dI:Zero cc:=by rw[<-cb];exact (zero_num dH).big _
 have cn:Zero aR:=by rw[<-cj];exact (zero_num dI).big _
 have eZ:=cm.size;refine⟨λbA az=>∃i:Nat,bA=Δ (i:Int)/\i<=n.toNat/\ag (λr=>w.heap.size<=r) w az/\ ∃av cp acc so,af az W dk [bz t,Δ k,av,.slice ν 0 0]/\au .i64 ao az cp av acc/\(∀r,leads av r->Y.heap.size<=r)/\bI az g Y.heap.size bu 100000 so/\j7 (fj most) n.toNat i aR acc so/\ ∀s,so=σ s->s.told=0/\acc.length+s.toks.length<=100000/\ ∀z∈acc,1<=z/\z<=ax,λbA _=>n.toNat-(bO bA).toNat,
  ⟨0,rfl,X3 _,cm,_,0,[],aR,bx,au.nil _ _ _ _,(λr J=>by obtain⟨a,a7,c,aL,aM⟩:=J;cases aL),dC,?_,λs I=>⟨(cn s I).1,by simpa using (cn s I).2,λz dJ=>by cases dJ⟩⟩,?_⟩
 .unfold j7;cases aR<;>rfl
 rintro _ az ⟨i,rfl,hi,bB,av,cp,acc,so,cq,cr,ct,aU,bC,cu⟩;refine aQ (λv dK=>az=dK/\((v= .bool true/\i<n.toNat/\ ∃s,so=σ s)\/(v= .bool false/\(so=ν\/i=n.toNat)))) ?_ ?_
 rotate_left
 .intro cU aD;rw[aq,ae];refine⟨λcw=>?_,λe0=>aD _ _ ⟨rfl,.inr ⟨rfl,.inr Ω⟩⟩⟩;rw[j3 aU];cases so with
  |none=>exact aD _ _ ⟨rfl,.inr ⟨rfl,.inl rfl⟩⟩
  |some s=>exact aD _ _ ⟨rfl,.inl ⟨rfl,Ω,s,rfl⟩⟩
 rintro _ _ ⟨rfl,⟨rfl,cw,s,rfl⟩|⟨rfl,dL⟩⟩
 .rw[bQ];obtain⟨dM,e1,dN⟩:=cu s rfl;refine (jp aU).mono ?_;rintro _ e2 _ ⟨⟨dO,dP⟩,z,dQ,rfl,bD,e3⟩;rw[aK (v:=Δ z) rfl,aK (v:=Δ dQ) rfl,bR];refine (lF dP).mono ?_;rintro _ e4 _ ⟨dR,dS⟩;have ba:=dO.trans dR;have cz:=al cq ba;have dT:∀r,r=g->gn az r\/az.heap.size<=r:=λr J=>(jq aU r J).imp (λ⟨e,c,ap,dU,dV,_⟩=>⟨e,c,ap,dU,dV⟩) id;have cA:=eh cr ba dT;rw[ay,ac dk.p rfl,ad Ψ (cz.Q2 rfl)];refine dx aw.u ao.i rfl λa22 e5 dW e6 aE dX=>?_;refine eY aw.u ao.i rfl (cA.ext aE) dX.ls Θ Θ λcC dY e7 bd dZ cE=>?_;have cF:=cz.ext aE;have cG:=cF.aa cE λhe=>bX (cA.ext aE) cF Φ he rfl;rw[ay,ac dk.p rfl];refine bh (g:=W) (o:=2) aw.i bd.ls.cells.1 bd.ls.cells.2 cG Ξ λcH cI e8 bE=>?_;have bE:af cH W dk [bz t,Δ k,cC,.slice ν 0 0]:=bE;rw[aN,wrap_i64 Ω Ω];have cJ:ag (λr=>leads av r\/r=W) dW cH:=(cE.mono λr _ h=>.inl h).trans (cI.mono λr _ h=>.inr h);have cK:∀r,(leads av r\/r=W)->Y.heap.size<=r:=λr J=>J.elim (ct r) λJ=>Ω
  have e9:w.heap.size<=Y.heap.size:=bP.size;have fa:=ba.size;have z22:=aE.size;have fb:=bB.size;have fc:=aU.lt;refine⟨⟨i+1,rfl,Ω,((up bB ba).trans (aE.aa _)).trans (cJ.mono λr _ h=>by have:=cK r h;omega),cC,dY,acc++[z],((a1 1 most (σ s)).map (·.2)).map (a8 (decide (32<z))),bE,bc bd cI λr J he=>?_,λr J=>?_,(dS.ext aE).new cJ cK,?_,λs' am=>?_⟩,by simp only[bO];omega⟩
  .have he:r=W:=he;subst he;exact bX bd cG Φ J rfl
  .rcases dZ r J with h|h
   .exact ct r h
   .omega
  .refine bC.step cw ?_ λq X=>?_
   .show (U1 _ (bb 1 most s)).map _=_;unfold fj;cases X:bb 1 most s with
    |none=>rfl
    |some q=>
     have:=bD q X;obtain⟨cL,be⟩:=q;subst this;rfl
   .unfold fj at X;cases an:bb 1 most s with
    |none=>rw[an] at X;cases X
    |some aV=>
     rw[an] at X;have:=bD aV an;obtain⟨cL,be⟩:=aV;cases X;exact this
  .cases an:bb 1 most s with
   |none=>
    have am:(U1 (λx=>x.2) (bb 1 most s)).map (a8 (decide (32<z)))=σ s':=am;rw[an] at am;cases am
   |some aV=>
    have am:(U1 (λx=>x.2) (bb 1 most s)).map (a8 (decide (32<z)))=σ s':=am;rw[an] at am;have ea:=bD aV an;obtain⟨cL,be⟩:=aV;cases am;have cM:=dl an;have gG:=(gQ an).1;have fd:=cM.1;refine⟨by show be.told=0;rw[cM.eqs.1];exact dM,?_,λy aW=>?_⟩
    .rw[u9];show acc.length+1+be.toks.length<=100000;omega
    .rcases n9.1 aW with aW|aW
     .exact dN y aW
     .rw[j4.1 aW,ea];exact⟨gG.1,by unfold ax;have:=gG.2;simp only at*;omega⟩
 .rw[aS];have eb:aR.bind (cD (fj most) n.toNat [])=so.map λs=>(acc,s):=by
   unfold j7 at bC;rw[bC];cases so with
   |none=>rfl
   |some s=>
    rcases dL with h|rfl
    .cases h
    .simp only[W9];rfl
  refine KG bB cq cr aU (λs I=>?_) Ω Ω aX dD λv w' ec ed bF ee ef cN=>?_
  .obtain⟨eg,fe,a3⟩:=cu s I;exact⟨λ_=>by rw[eg];omega,Ω,a3,Ω⟩
  .have ei:(decide ((64:Int)<(t.length:Int)))=decide (64<t.length):=by rw[V8,decide_eq_true_eq,decide_eq_true_eq];omega
   rw[ei] at bo;have ej:=KE (s0:=⟨(lex pl).1,0,false,[]⟩) bo.symm (λq X=>c7 q X) b3.symm b0 b6.symm hm cb.symm b8 cj.symm dy eb ee;have aA:=KI ej Ω;have cO:¬0<=bad↔(lex pl).2=true:=by
    rw[cT];cases (lex pl).2<;>simp
   cases ed with
   |none=>
    obtain⟨a7,e,rfl⟩:=cN λs I=>by cases I
    exact⟨bF,a7,e,λ_=>rfl,λf ai=>by rw[aA] at ai;cases ai⟩
   |some s=>
    have aA:fO pl=if s.toks=[]/\(lex pl).2=true/\s.big=false then σ ⟨t,k,acc,ec⟩ else ν:=aA;by_cases ah:s.toks=[]/\(lex pl).2=true/\s.big=false
    .rw[if_pos ah] at aA;obtain⟨rfl,ek⟩:=ef s rfl ⟨ah.1,cO.2 ah.2.1,ah.2.2⟩;exact⟨bF,_,_,(λai=>by rw[aA] at ai;cases ai),λf ai=>⟨W,rfl,by rw[aA] at ai;cases ai;exact ek⟩⟩
    .rw[if_neg ah] at aA;obtain⟨a7,e,rfl⟩:=cN λs' am aI=>by
      cases am;exact ah ⟨aI.1,cO.1 aI.2.1,aI.2.2⟩
     exact⟨bF,a7,e,λ_=>rfl,λf ai=>by rw[aA] at ai;cases ai⟩
theorem KK {a b:Int}:ak x3 Fj [Δ a,Δ b] w λv w'=>v=Δ (min a b)/\Ext w w':=by
 refine aB func300 ?_;rw[aq,ae];exact⟨λh=>⟨by congr 1;omega,Ext.refl _⟩,λh=>⟨by congr 1;omega,Ext.refl _⟩⟩
theorem KL {I:hV} {x:cg} {aE:x1} (h:fW w I x) (ax:(x.lines.map (·.1)).Nodup) (ay:aJ .i64 w aE t):ak x3 E6 [.agg (eD I).toArray,aE,Δ k] w λv w'=>v=Δ (iC x k t)/\Ext w w':=by
 obtain⟨⟨g1,az⟩,⟨aZ,aA⟩,aC,a1,L,X,aD,al⟩:=id h;refine aB func269 ?_;refine bN λaF U a2 ag J=>?_;have J:af U aF aX (eD I):=by
  obtain⟨_,_,_,aG⟩:=bZ az.ls;obtain⟨_,_,_,aH⟩:=bZ aA.ls;obtain⟨_,_,_,_,_,aI,_⟩:=X.sl;simp only[eD,aG,aH,aI] at J ⊢;exact J
 have aK:=X.ext ag;have aL:L.length=x.lines.length:=by rw[<-al,u4]
 rw[ac aX.p rfl,ad (v:=Δ I.o) Ψ (J.Q2 rfl),ac aX.p rfl,ad (v:=I.bY) Ψ (J.Q3 rfl),c9 dK.u aK,aC];refine bE.range L.length (λi Y V=>Ext U V/\ ∃c:Int,Y=Δ c/\min c k=jW x k i t) X.le ⟨Ext.refl _,x.other,rfl,(Aa x k t).symm⟩ ?_ ?_
 .rintro i _ V aM hi ⟨W,c,rfl,aa⟩ aO;obtain⟨y,ah⟩:∃y,L[i]? =σ y:=⟨_,y0 hi⟩;obtain⟨a6,am⟩:=aD y (x5 ah);have ai:=ag.trans W;have aP:x.lines[i]? =σ (y.t,y.c):=by rw[<-al,x8,ah];rfl
  have ao:=Ac (k:=k) ax aP t;refine Υ λ_=>?_;refine aQ (λY ap=>Ext U ap/\ ∃c:Int,Y=Δ c/\min c k=jW x k (i+1) t) ?_ ?_
  .rintro Y ap aR;rw[aN];exact aO _ _ aR
  intro a7 au;have av:=X.ext ai;rw[cG rfl dK.u b4.i av hi,bn b4.p b4.i rfl (av.range ah)];refine bp b4.i λan a8 ba aS aT=>?_;refine bH (vs:=mL y) b4.i rfl rfl (uT am) aT λaU aV bb aw=>?_;have ab:Ext V aU:=aS.then aV λr bc he=>by have he:r=an:=he;omega
  rw[ac b4.p rfl,ad Ψ (aw.Q0 rfl)];refine (uS ((am.ls.ext ai).ext ab) ((ay.ext ai).ext ab)).mono ?_;rintro _ bd _ ⟨rfl,aj⟩;rw[ae];refine⟨λhe=>?_,λaW=>?_⟩
  .rw[ac b4.p rfl,ad Ψ ((aw.ext aj).Q1 rfl)];refine au _ _ ⟨(W.trans ab).trans aj,y.c,rfl,?_⟩;rw[ao,if_pos he.symm]
  .refine au _ _ ⟨(W.trans ab).trans aj,c,rfl,?_⟩;rw[ao,if_neg λhe=>aW he.symm,aa]
 .rintro _ V aM ⟨W,c,rfl,aa⟩;rw[aL,Ab] at aa;rw[aq,ae];refine⟨λh=>Ω,λ_=>?_⟩;refine KK.mono ?_;rintro _ be _ ⟨rfl,aY⟩;exact⟨by rw[aa],(ag.trans W).trans aY⟩
theorem KM {am:x1} (h:aJ .i64 w am l) (ap:l.Nodup) (aU:l.length<=64):ak x3 E5 [am] w λv w'=>Ext w w'/\ ∃g,au .i64 ab w' g v (bj l)/\ ∀r,leads v r->w.heap.size<=r:=by
 refine aB func268 ?_;have av:∀i,i<=64->(((W3 i).map λ(v:Nat)=>(v:Int)).filter λv=>decide (v∈l)).length<=i:=λi _=>by
  have:=S9 (λv=>decide (v∈l)) ((W3 i).map λ(v:Nat)=>(v:Int));simp at this;omega
 refine bE.range 64 (λi I U=>Ext w U/\ ∃g,au .i64 ab U g I (((W3 i).map λ(v:Nat)=>(v:Int)).filter λv=>decide (v∈l))/\ ∀r,leads I r->w.heap.size<=r) Ω ⟨Ext.refl _,0,au.nil _ _ _ _,λr Y=>by obtain⟨a,n,c,ax,aV⟩:=Y;cases ax⟩ ?_ ?_
 .rintro i I U k hi ⟨aa,g,hm,ad⟩ ay;refine Υ λ_=>?_;rw[aT aw.u (h.ext aa)];have az:=av i Ω;generalize aA:(((W3 i).map λ(v:Nat)=>(v:Int)).filter λv=>decide (v∈l))=A at hm az;refine bE.range l.length (λj I V=>Ext w V/\ ∃g,au .i64 ab V g I (A++(if (i:Int)∈l.take j then[(i:Int)] else[]))/\ ∀r,leads I r->w.heap.size<=r) h.le ⟨aa,g,by simpa using hm,ad⟩ ?_ ?_
  .rintro j aC V aD aE ⟨W,af,J,X⟩ aF;obtain⟨x,ag⟩:∃x,l[j]? =σ x:=⟨_,y0 aE⟩;refine Υ λ_=>?_;refine aQ (λI ac=>Ext w ac/\ ∃g,au .i64 ab ac g I (A++(if (i:Int)∈l.take (j+1) then[(i:Int)] else[]))/\ ∀r,leads I r->w.heap.size<=r) ?_ ?_
   .rintro aW ac aG;rw[aN];exact aF _ _ aG
   intro aX an;have ah:(i:Int)∈l.take (j+1)↔(i:Int)∈l.take j\/(i:Int)=x:=by
    rw[r8,ag,Z4,n9,j4]
   rw[bd aw.u ao.i Ψ (h.ext W) ag,bk,ae];refine⟨λhe=>?_,λaH=>?_⟩
   .have aK:(i:Int)∉l.take j:=λhm=>by
     obtain⟨p,aj⟩:=Y7.1 hm;have aL:p<j:=by have:=(x4.1 aj).1;rw[o4] at this;omega
     rw[Y2 aL,<-he] at aj;have:=ji ap aj ag;omega
    rw[if_neg aK,X6] at J;refine dx (k:=.i64) ai.u ab.i rfl λa3 aY ac aZ al aM=>?_;refine eY ai.u ab.i rfl (J.ext al) aM.ls Θ Θ λa1 aO a2 aP aR aS=>?_;have a6:=W.size;have z3:=al.size;refine an _ _ ⟨(W.trans al).then aS λr Y he=>by have:=X r he;omega,aO,?_,λr Y=>(aR r Y).elim (X r) λh=>Ω⟩;rw[if_pos (ah.2 (.inr he.symm))];exact aP
   .refine an _ _ ⟨W,af,?_,X⟩;have:((i:Int)∈l.take (j+1))=((i:Int)∈l.take j):=propext ⟨λaI=>(ah.1 aI).resolve_right λhe=>aH he.symm,λaI=>ah.2 (.inl aI)⟩;simp only[this];exact J
  .rintro aC V aD ⟨W,af,J,X⟩;rw[o9] at J;rw[aq,ae];refine⟨λh=>Ω,λ_=>?_⟩;rw[aN];refine ay _ _ ⟨W,af,?_,X⟩;rw[List.range_succ,Z3,List.filter_append,aA];by_cases hm:(i:Int)∈l
   .rw[if_pos hm] at J;simpa[hm] using J
   .rw[if_neg hm] at J;simpa[hm] using J
 .rintro I U k ⟨aa,g,hm,ad⟩;rw[aq,ae];exact⟨λh=>Ω,λ_=>⟨aa,g,hm,ad⟩⟩
structure fb where
 az:x1
 av:x1
 aL:x1
 sc:Λ
 cs:Λ
def c8 (h:fb):List x1:=[h.az,h.av,h.aL]
def fc (w:x2) (sizes:Λ) (h:fb):Prop:=(∃g,au .i64 ab w g h.az h.sc)/\(∃g,au .i64 ab w g h.av (bF sizes h.sc))/\ ∃g,au .i64 ao w g h.aL h.cs
theorem fc.ext {h:fb} (aI:fc w sizes h) (I:Ext w w'):fc w' sizes h:=by
 obtain⟨⟨g1,h1⟩,⟨J,U⟩,V,W⟩:=aI;exact⟨⟨g1,h1.ext I⟩,⟨J,U.ext I⟩,V,W.ext I⟩
theorem fc.one {h:fb} (aI:fc w sizes h):∀u∈c8 h,u.oneCell'=true:=by
 obtain⟨⟨g1,h1⟩,⟨U,I⟩,V,J⟩:=aI;intro u hu;simp[c8] at hu;rcases hu with rfl|rfl|rfl
 .exact h1.ls.cells.2
 .exact I.ls.cells.2
 .exact J.ls.cells.2
theorem Bk {cQ:Nat} {f:b2} {x:cg} {aF:hV} (h:fW w aF x) (bb:eQ N f) (ca:x∈f.funs) (cR:au .i64 ao w cQ sv f.sizes):
  ak x3 EI [.agg (eD aF).toArray,sv,Δ f.k] w λv w'=>Ext w w'/\ ∃c:fb,v= .agg (c8 c).toArray/\c.sc=bj x.scope/\c.cs=(gR f.sizes f.k x).2/\fc w' f.sizes c/\ ∀r,leads c.aL r->w.heap.size<=r:=by
 obtain⟨aR,cS,eh⟩:=bb.funs x ca;have cb:=rB aR bb.sizes.2.1;have cc:=rA cb aR.scope.1;have cT:(bj x.scope).length<=6:=by rw[cc.length_eq];exact cS
 have cU:=nW bb ca;have cd:=zV x.scope;obtain⟨⟨g1,be⟩,⟨ei,cV⟩,ej,ek,cX⟩:=id h;refine aB func223 ?_;refine bN λbG U em ce aS=>?_;have aS:af U bG aX (eD aF):=by
  obtain⟨L,cY,_⟩:=cX;obtain⟨_,_,_,ah⟩:=bZ be.ls;obtain⟨_,_,_,an⟩:=bZ cV.ls;obtain⟨_,_,_,_,_,cZ,_⟩:=cY.sl;simp only[eD,ah,an,cZ] at aS ⊢;exact aS
 refine bp aZ.i λch V en bI bJ=>?_;have bK:=ce.trans bI;rw[ac aX.p rfl,ad (v:=aF.az) Ψ ((aS.ext bI).Q0 rfl)];refine (KM (be.ls.ext bK) aR.scope.1 Ω).mono ?_;rintro az ci _ ⟨bf,bg,bL,eo⟩;rw[cW (cs:=#[az,.slice ν 0 0,.slice ν 0 0]) (by obtain⟨_,_,_,rfl⟩:=bZ bL.ls;kernel_rfl)];refine bp aZ.i λW ep c0 c1 c2=>?_;refine bH (vs:=[az,.slice ν 0 0,.slice ν 0 0]) aZ.i rfl rfl (by intro u hu;simp at hu;rcases hu with rfl|rfl;exact bL.ls.cells.2;rfl) c2 λap c3 er aJ=>?_;have bi:Ext ci ap:=c1.then c3 λr J he=>by have he:r=W:=he;omega
 have cj:=(bK.trans bf).trans bi;have aG:=bL.ext bi;have bM:=((aS.ext bI).ext bf).ext bi;have ck:=(bJ.ext bf).ext bi;have es:=bK.size;have z3:=bf.size;have et:=cj.size;have eu:=aJ.lt;have ev:W=ci.heap.size:=c0;rw[ac aZ.p rfl,ad Ψ (aJ.Q0 rfl),aT ai.u aG.ls];have cl:∀v∈bj x.scope,0<=v/\v<f.sizes.length:=λv hm=>aR.scope.2 v ((pp cb).1 hm);have bO:∀ {w':x2},ag (λr=>r=W\/ap.heap.size<=r) ap w'->Ext w w':=λbQ=>cj.then bQ λr J he=>Ω
 have bR:(bF f.sizes (bj x.scope)).length=(bj x.scope).length:=by simp[bF]
 refine bP.range (bj x.scope).length (λi ax=>ag (λr=>r=W\/ap.heap.size<=r) ap ax/\ ∃av gs,af ax W aZ [az,av,.slice ν 0 0]/\au .i64 ab ax gs av ((bF f.sizes (bj x.scope)).take i)/\ ∀r,leads av r->ap.heap.size<=r) Ω
  ⟨ag.refl _ _,_,0,aJ,au.nil _ _ _ _,λr J=>by obtain⟨a,n,c,ah,an⟩:=J;cases ah⟩ ?_ ?_
 .rintro i ax c4 hi ⟨ay,av,gs,c5,aU,bT⟩ c6;obtain⟨v,bU⟩:∃v,(bj x.scope)[i]? =σ v:=⟨_,y0 hi⟩;have ew:=cl v (x5 bU);have c7:au .i64 ab ax bg az (bj x.scope):=bc aG ay λr J I=>by
   rcases I with rfl|I
   .exact bX aG aJ Φ J rfl
   .obtain⟨ah,an⟩:=bA aG J;omega
  refine Υ λ_=>?_;rw[bd ai.u ab.i Ψ c7.ls bU];intro ey aV _ _;have cm:=c5.ext aV;have c9:f.sizes[v.toNat]? =σ (f.sizes.getD v.toNat 0):=by rw[u5,y0 Ω];rfl
  rw[ac aZ.p rfl,ad Ψ (cm.Q1 rfl),dY (y:=v) (i:=v.toNat) Ω aw.u ao.i Ψ (cR.ext ((bO ay).trans aV)).ls c9];refine dx (k:=.i64) ai.u ab.i rfl λez eB da eC aW db=>?_;refine⟨.inl aW,?_⟩;have cn:=(aU.ext aV).ext aW;refine eY ai.u ab.i rfl cn db.ls Θ Θ λdc dd eE bl de cp=>?_;have cq:=cm.ext aW;have cr:=cq.aa cp λhe=>bX cn cq Φ he rfl;rw[ac aZ.p rfl];refine bh (g:=W) (o:=1) ai.i bl.ls.cells.1 bl.ls.cells.2 cr Ξ λdf ct eF dg=>?_;rw[aN];have dh:ag (λr=>leads av r\/r=W) da df:=(cp.mono λr _ h=>.inl h).trans (ct.mono λr _ h=>.inr h);have di:=ay.size;have eH:=(aV.trans aW).size;refine c6 _ ⟨((ay.trans (aV.aa _)).trans (aW.aa _)).trans (dh.mono λr _ h=>h.elim (λh=>.inr (bT r h)) .inl),dc,dd,dg,?_,λr J=>(de r J).elim (bT r) λh=>Ω⟩;have e:(bF f.sizes (bj x.scope)).take (i+1)=(bF f.sizes (bj x.scope)).take i++[f.sizes.getD v.toNat 0]:=by
   unfold bF;rw[<-List.map_take,<-List.map_take,r8,bU,Z4,Z3];rfl
  rw[e];exact bc bl ct λr J he=>by
   have he:r=W:=he;subst he;exact bX bl cr Φ J rfl
 rintro ax c4 ⟨ay,av,gs,bV,aU,bT⟩;rw[<-bR,o9] at aU;rw[aq,ae];refine⟨λh=>Ω,λ_=>?_⟩;have eI:=bO ay;have bo:bS (bF f.sizes (bj x.scope)):=⟨by rw[bR];exact cT,lA bb.sizes.2.2 cl⟩;have dj:=cU.small;rw[ac aZ.p rfl,ad Ψ (bV.Q1 rfl)];refine (oW _ aU.ls bo).mono ?_;rintro dk Y _ ⟨bq,cu⟩;have eJ:=hd bo.2;have eK:=kH bo.2;have eL:aM (bF f.sizes (bj x.scope))<=4096:=dj;rw[eP cz.u cu];have br:ag (λr=>r=W\/ap.heap.size<=r) ap Y:=ay.trans (bq.aa _);have aY:=bV.ext bq;have cw:=aU.ext bq;have di:=ay.size;have eM:=bq.size;have bW:au .i64 ab Y bg az (bj x.scope):=bc aG br λr J I=>by
  rcases I with rfl|I
  .exact bX aG aJ Φ J rfl
  .obtain⟨ah,an⟩:=bA aG J;omega
 have bY:af Y bG aX (eD aF):=bM.aa br λI=>I.elim (λhe=>by subst he;exact absurd (dP bM aJ) Φ) λh=>by have:=bM.lt;omega
 have cA:=ck.aa br λI=>I.elim (λhe=>by have:=bJ.lt;omega) λh=>by have:=ck.lt;omega
 have cB:∀ {w':x2},ag (λr=>r=W\/Y.heap.size<=r) Y w'->Ext w w':=λbQ=>(bO br).then bQ λr J he=>by
  have he:r=W\/Y.heap.size<=r:=he;omega
 have eN:W<Y.heap.size:=aY.lt;refine bP.range (bm (bF f.sizes (bj x.scope))).length (λq X=>ag (λr=>r=W\/Y.heap.size<=r) Y X/\ ∃aL a1,af X W aZ [az,av,aL]/\au .i64 ao X a1 aL (((bm (bF f.sizes (bj x.scope))).take q).map λt=>iC x f.k (nO x.scope (bj x.scope) t))/\ ∀r,leads aL r->Y.heap.size<=r) Ω
  ⟨ag.refl _ _,_,0,aY,au.nil _ _ _ _,λr J=>by obtain⟨a,n,c,ah,an⟩:=J;cases ah⟩ ?_ ?_
 .rintro q X dl dm ⟨aj,aL,a1,a2,a6,bt⟩ dn;obtain⟨t,bw⟩:∃t,(bm (bF f.sizes (bj x.scope)))[q]? =σ t:=⟨_,y0 dm⟩;have eR:t.length=(bj x.scope).length:=by
   have dp:=nG bo.2 (i:=q) Ω;rw[dp] at bw;cases bw;rw[h8,bR]
  have b0:=cB aj;have dq:am.rep (α:=List (Λ)) true (eA ax.heap.size) bu X [dk] (bm (bF f.sizes (bj x.scope))):=am.aa cu aj λr J h I=>by
   rcases h with h|h
   .have h:ax.heap.size<=r:=h;have:=bV.lt;rcases I with I|I<;>omega
   .exact h
  have aK:∀ {aA:Nat} {aC:x1} {aD:Λ},au .i64 ab Y aA aC aD->au .i64 ab X aA aC aD:=λhm=>bc hm aj λr J I=>by
   rcases I with rfl|I
   .exact bX hm aY Φ J rfl
   .obtain⟨ah,an⟩:=bA hm J;omega
  have cC:=aK bW;have cD:af X bG aX (eD aF):=bY.aa aj λI=>I.elim (λhe=>by subst he;exact absurd (dP bY aY) Φ) λh=>by have:=bY.lt;omega
  refine Υ λ_=>?_;refine lm (α:=Λ) rfl rfl cz.u ai.i Ψ dq bw λaE dr=>?_;have ds:=dZ dr;rw[ac aX.p rfl,ad (v:=aF.az) Ψ (cD.Q0 rfl),aT aw.u (be.ls.ext b0)];have z12:=aj.size;refine bE.range x.scope.length (λp al bx=>Ext X bx/\ ∃go,au .i64 ao bx go al ((x.scope.take p).map λv=>t.getD ((bj x.scope).idxOf v) 0)/\ ∀r,leads al r->X.heap.size<=r) Ω ⟨Ext.refl _,0,au.nil _ _ _ _,λr J=>by obtain⟨a,n,c,ah,an⟩:=J;cases ah⟩ ?_ ?_
  .rintro p al bx dt du ⟨aO,go,a8,cE⟩ dv;obtain⟨v,b1⟩:∃v,x.scope[p]? =σ v:=⟨_,y0 du⟩;have dw:v∈bj x.scope:=cc.mem_iff.2 (x5 b1);refine Υ λ_=>?_;have dy:=b0.trans aO;have dz:=a2.ext aO;have dA:=cC.ext aO;rw[bd aw.u ao.i Ψ (be.ls.ext dy) b1,ac aZ.p rfl,ad Ψ (dz.Q0 rfl),aT ai.u dA.ls];generalize cF:((x.scope.take p).map λv=>t.getD ((bj x.scope).idxOf v) 0)=A at a8;have eS:A.length=p:=by rw[<-cF,u4,o4];omega
   refine bE.range (bj x.scope).length (λj al bz=>Ext X bz/\ ∃go,au .i64 ao bz go al (A++if v∈(bj x.scope).take j then[t.getD ((bj x.scope).idxOf v) 0] else[])/\ ∀r,leads al r->X.heap.size<=r) Ω ⟨aO,go,by simpa using a8,cE⟩ ?_ ?_
   .rintro j dC bz dD dE ⟨aH,b3,aP,ba⟩ dF;obtain⟨u,hu⟩:∃u,(bj x.scope)[j]? =σ u:=⟨_,y0 dE⟩;have dG:=cC.ext aH;refine Υ λ_=>?_;refine aQ (λal b4=>Ext X b4/\ ∃go,au .i64 ao b4 go al (A++if v∈(bj x.scope).take (j+1) then[t.getD ((bj x.scope).idxOf v) 0] else[])/\ ∀r,leads al r->X.heap.size<=r) ?_ ?_
    .rintro eU b4 dH;rw[aN];exact dF _ _ dH
    intro eV cG;have b5:v∈(bj x.scope).take (j+1)↔v∈(bj x.scope).take j\/v=u:=by
     rw[r8,hu,Z4,n9,j4]
    rw[bd ai.u ab.i Ψ dG.ls hu,bk,ae];refine⟨λhe=>?_,λb6=>?_⟩
    .have dI:v∉(bj x.scope).take j:=λhm=>by
      obtain⟨dJ,b7⟩:=Y7.1 hm;have dK:dJ<j:=by have:=(x4.1 b7).1;rw[o4] at this;omega
      rw[Y2 dK,<-he] at b7;have:=ji cd b7 hu;omega
     rw[if_neg dI,X6] at aP;have dL:t[j]? =σ (t.getD ((bj x.scope).idxOf v) 0):=by
      have:(bj x.scope).idxOf v=j:=pr cd (by rw[hu,he]);rw[this,u5,y0 (show j<t.length by omega)];rfl
     rw[bd ai.u ab.i Ψ (ds.ext aH) dL];refine dx aw.u ao.i rfl λeW eX eZ e0 b8 dM=>?_;refine eY aw.u ao.i rfl (aP.ext b8) dM.ls Θ Θ λe1 dN e2 dO dQ dR=>?_;have e3:=aH.size;have e4:=b8.size;refine cG _ _ ⟨(aH.trans b8).then dR λr J he=>by have:=ba r he;omega,dN,?_,λr J=>(dQ r J).elim (ba r) λh=>Ω⟩;rw[if_pos (b5.2 (.inr he.symm))];exact dO
    .refine cG _ _ ⟨aH,b3,?_,ba⟩;have:(v∈(bj x.scope).take (j+1))=(v∈(bj x.scope).take j):=propext ⟨λaI=>(b5.1 aI).resolve_right λhe=>b6 he.symm,λaI=>b5.2 (.inl aI)⟩;simp only[this];exact aP
   .rintro dC bz dD ⟨aH,b3,aP,ba⟩;rw[o9,if_pos dw] at aP;rw[aq,ae];refine⟨λh=>Ω,λ_=>?_⟩;rw[aN];refine dv _ _ ⟨aH,b3,?_,ba⟩;rw[r8,b1,Z4,Z3,cF];exact aP
  .rintro al bx dt ⟨aO,go,a8,cE⟩;rw[o9] at a8;rw[aq,ae];refine⟨λh=>Ω,λ_=>?_⟩;intro e5 cH _ _;have bB:=aO.trans cH;have dS:=a2.ext bB;have dT:=cD.ext bB;rw[ac aZ.p rfl,ad Ψ (dS.Q2 rfl),bn aX.p aX.i rfl dT.range];refine (KL (h.ext (b0.trans bB)) aR.lines.1 (a8.ls.ext cH)).mono ?_;rintro _ e6 _ ⟨rfl,b9⟩;refine⟨.inl b9,?_⟩;refine dx aw.u ao.i rfl λe7 e8 dU e9 cI dV=>?_;refine⟨.inl (b9.trans cI),?_⟩;have bC:=(bB.trans b9).trans cI;have cJ:=a6.ext bC;refine eY aw.u ao.i rfl cJ dV.ls Θ Θ λdW dX fa bD ea cK=>?_;have cL:=a2.ext bC;have cM:=cL.aa cK λhe=>bX cJ cL Φ he rfl;rw[ac aZ.p rfl];refine bh (g:=W) (o:=2) aw.i bD.ls.cells.1 bD.ls.cells.2 cM Ξ λeb cN fd ec=>?_;rw[aN];have ed:ag (λr=>leads aL r\/r=W) dU eb:=(cK.mono λr _ h=>.inl h).trans (cN.mono λr _ h=>.inr h);have fe:=bC.size;refine dn _ ⟨(aj.trans (bC.aa _)).trans (ed.mono λr _ h=>h.elim (λh=>.inr (bt r h)) .inl),dW,dX,ec,?_,λr J=>(ea r J).elim (bt r) λh=>Ω⟩;rw[r8,bw,Z4,Z3];exact bc bD cN λr J he=>by
    have he:r=W:=he;subst he;exact bX bD cM Φ J rfl
 .rintro X dl ⟨aj,aL,a1,a2,a6,bt⟩;rw[o9] at a6;rw[aq,ae];refine⟨λh=>Ω,λ_=>?_⟩;have aK:∀ {aA:Nat} {aC:x1} {aD:Λ},au .i64 ab Y aA aC aD->au .i64 ab X aA aC aD:=λhm=>bc hm aj λr J I=>by
   rcases I with rfl|I
   .exact bX hm aY Φ J rfl
   .obtain⟨ah,an⟩:=bA hm J;omega
  let c:fb:=⟨az,av,aL,bj x.scope,(gR f.sizes f.k x).2⟩;have ee:fc X f.sizes c:=⟨⟨bg,aK bW⟩,⟨gs,aK cw⟩,a1,a6⟩;rw[bn aZ.p aZ.i rfl (show X.rangeAt W 0 (c8 c) from a2.range)];have cO:=cA.aa aj λI=>I.elim (λhe=>by have:=bJ.lt;omega) λh=>by have:=cA.lt;omega
  refine bH (vs:=c8 c) aZ.i rfl rfl ee.one cO λef cP ff eg=>?_;rw[eO aZ.p aZ.i rfl eg.range];have a7:∀ {aA:Nat} {aC:x1} {aD:Λ} {e:r9},e≠aZ->au .i64 e X aA aC aD->au .i64 e ef aA aC aD:=λb6 hm=>bc hm cP λr J he=>by
   have he:r=ch:=he;exact bX hm cO b6 J he
  refine⟨(cB aj).then cP λr J he=>by have he:r=ch:=he;have:=ce.size;omega,c,rfl,rfl,rfl,⟨⟨bg,a7 Φ (aK bW)⟩,⟨gs,a7 Φ (aK cw)⟩,a1,a7 Φ a6⟩,λr J=>?_⟩;have:=bt r J;omega
end Go.Proofs.YtgbkinibgjmodaaGreatDoor
