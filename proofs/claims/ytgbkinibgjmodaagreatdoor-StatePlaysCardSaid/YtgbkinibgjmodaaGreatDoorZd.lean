/- own texts, made small by a tool (wip/ holds them as they were written): no statement of the seat. -/
import Derived.Test.YtgbkinibgjmodaaGreatDoorZc
set_option linter.unusedVariables false
set_option linter.unusedSimpArgs false
set_option linter.unnecessarySimpa false
open Array renaming getElem?_eq_some_iff→j4,getElem?_toList→S3
open BitVec renaming ofInt→U5
open Bool renaming not_true→Y1,not_false→X4,eq_iff_iff→V8,and_eq_true→U1,true_and→U7,or_eq_false_iff→S0
open Decidable renaming not_not→X2
open Go renaming Value→x1,World→x2,TypeId→u9,IntKind→o5,Builtin→l5,Program→W5,Oper→U8,Operand→T8
open Go.Addr renaming add_mid→U4
open Go.Builtin renaming append_→l7,len_→Y3
open Go.Instr renaming loadAt→x5,fieldAt→x7,storeAt→o4,indexAt→n0,buildSlice→Z7,extract→Z8,sliceAt→W3,alloc→S6
open Go.IntKind renaming i64→Y5,u64→U3
open Go.Proofs.Tryz renaming prog→x3
open Go.Result renaming andThen→W0
open Go.Sem renaming run_bind→X8,run_pure→W9
open Go.Sort renaming Holds→T9
open Go.Value renaming int→V2
open Int renaming toNat_natCast→j9
open List renaming getElem?_eq_getElem→y0,getElem?_eq_some_iff→x4,mem_of_getElem?→x6,getElem?_map→x8,getD_eq_getElem?_getD→u4,length_map→u5,length_append→r8,take_add_one→r9,replicate→o6,length_take→o7,take_length→o9,mem_append→n9,mem_singleton→l9,getElem?_append_left→j0,length_cons→j5,take_of_length_le→Z0,getElem?_append_right→Z1,eq_nil_of_length_eq_zero→Z2,map_append→Z4,mem_map→Z5,getElem?_take_of_lt→Y2,getElem?_eq_none→Y4,mem_iff_getElem?→Y7,length_set→X1,getElem?_set→X5,ext_getElem?→X6,length_eq_one_iff→X7,range→X9,getElem?_set_ne→W6,drop_eq_getElem_cons→W8,pairwise_iff_getElem→V0,mem_or_eq_of_mem_set→V3,append_nil→V4,getElem?_set_self→V5,flatMap_cons→V6,append_assoc→V9,set_append_right→U6,mem_cons→U9,map_set→T0,length_singleton→T1,mem_of_mem_take→T2,map_cons→S2,length→S9,length_drop→R0,getElem_mem→R2
open Nat renaming le_refl→o8,zero_le→Y9,le_trans→X0,mul_le_mul_right→X3,sub_self→W7,zero_add→V1,add_mul→U2,beq→T3,mul_one→T4,min_eq_left→T5,pow_le_pow_right→S4,le_succ→S5,add_assoc→S7,add_sub_cancel_left→S8
open Ne renaming symm→T7
open Option renaming isNone_some→j6,some→Z3,toList_some→Z9,map_some→Y0,map_eq_some_iff→Y8,map→V7,getD_some→S1
open Option.some renaming inj→Z6,injEq→Y6
open Prod.mk renaming injEq→T6
set_option maxHeartbeats 16000000
open Option renaming some→σ,none→ν
variable {sv v:x1}{B I N X ag al j n:Nat}{w w':x2}{all cs l pl sizes szs t:List Int}{e:u9}{k y:Int}{S:Nat->Prop}{K:x1->Prop}
namespace Go.Proofs.YtgbkinibgjmodaaGreatDoor
open Go Go.Vc Go.RowKit Go.Proofs Go.Proofs.Tryz
set_option maxRecDepth 100000
theorem ry {g:Nat} {sc:List Int} (hm:aq .i64 ab w g sv sc):∀u∈ej ⟨sv,I,sc,cs⟩,u.oneCell'=true:=λu hu=>by
 simp[ej] at hu;rcases hu with rfl|rfl
 .exact hm.ls.cells.2
 .rfl
theorem Jv {b8:Nat} {f:bY} (b9:jL w b8 f) (Y:eL N f) (ca:N<=60000) (da:f.name≠[]/\ ∀b∈f.name,bF b=true):
  aj x3 Dy [Γ b8] w (Ju w f):=by
 have bx:=Y.k;refine aA func162 ?_;refine (IS b9 Y ca da).mono ?_;rintro _ U _ ⟨bz,e,rfl,he⟩;rw[bB,ad];refine⟨λcb=>⟨bz,.inl ⟨λh=>cb (he h),e,cb,rfl⟩⟩,λeD=>?_⟩;have cc:=b9.ext bz;obtain⟨au,a2,eE,bI,cd,db,bA,a7⟩:=id cc;have eI:bI.length<=256:=by rw[a7.1];exact Y.jD
 rw[aw,aa cp.p rfl,ac Ψ (cd.cell (o:=0+3) rfl),eK dm.u bA];refine bC.range bI.length (λi l aC=>∃g L,Ext U aC/\eH aC g l L/\Sem aC f.k f.sizes L/\L.map dE=ek f i/\ ∀r,leadsTo l r->U.heap.size<=r) (m8 bA)
  ⟨0,[],Ext.refl _,⟨a6.nil _ _ _ _ _,λx aR=>(by cases aR)⟩,λx aR=>(by cases aR),rfl,λr I=>(eF I).elim⟩ ?_ ?_
 .rintro i l aC dd hi ⟨g,L,aD,aS,a8,ai,an⟩ de;obtain⟨d,ce⟩:∃d,bI[i]? =σ d:=⟨_,y0 hi⟩;obtain⟨x,ba⟩:∃x,f.funs[i]? =σ x:=⟨_,y0 (by have:=a7.1;omega)⟩;have cg:=x6 ba;have df:=a7.2 i x d ba ce;have aE:=nE Y cg;obtain⟨dg,dh,eJ⟩:=Aj Y i;have dj:L.length<=i:=by have dk:=congrArg S9 ai;rw[u5] at dk;omega
  rw[ao,ad];refine⟨λ_=>?_,λh=>Ω⟩;refine aP (λl' bc=>∃ap aT,Ext U bc/\eH bc ap l' aT/\Sem bc f.k f.sizes aT/\aT.map dE=ek f (i+1)/\ ∀r,leadsTo l' r->U.heap.size<=r) ?_ ?_
  .rintro l' bc ⟨ap,aT,h1,dl,dn,dp,dq⟩;rw[aN];exact de _ _ ⟨ap,aT,h1,dl,dn,dp,dq⟩
  intro eM ch;refine im (α:=gh) ck.p rfl dm.u ck.i (be bA aD) ce λcs bE=>?_;have ci:cs.length=2:=ak.len bE;refine bt ck.i λam eN eO dr ds=>?_;refine bJ (vs:=cs) ck.i ci rfl (ak.one bE) ds λdt du eP dv=>?_;have av:Ext aC dt:=dr.then du (λr I he=>by have he:r=am:=he;omega);rw[bn ck.p ck.i ci dv.range];refine (I2 Y ca cg df (be bE av)).mono ?_;rintro _ dw _ ⟨dx,sv,gs,bG,dy,dz,rfl,eQ,aU,cj⟩;rw[aK (v:=sv) rfl,aK (v:=Γ bG) rfl];refine bt ah.i λcl eR eS dA dD=>?_;refine bj ah.i aU.ls.cells.1 aU.ls.cells.2 dD (by simp[x1.cells]) λcm dF eU bd=>?_;have bH:Ext dw cm:=dA.then dF (λr I he=>by have he:r=cl:=he;omega);have bd:ae cm cl ah [sv]:=bd;rw[kj];have bK:=(av.trans dx).trans bH;have eV:=bK.size;have eW:=aD.size;refine (Jt (aS.ext bK) bd (aU.ls.ext bH)).mono ?_;rintro _ eX _ ⟨bf,I⟩;have bg:=bK.trans bf;have cn:=bH.trans bf;have bL:=aU.ext cn;have cq:=cj.ext cn;have cr:=bd.ext bf;have ct:=aS.ext bg;have bN:=a8.ext bg;rcases I with⟨rfl,dG⟩|⟨cu,rfl,y,X,bi⟩
  .rw[ao,ad];refine⟨λ_=>?_,λh=>Ω⟩;rw[ac Ψ (cr.cell (o:=0) rfl),cR (cs:=#[sv,Γ bG]) (by obtain⟨_,_,_,rfl⟩:=b0 aU.ls;kernel_rfl)];let a:cv:=⟨sv,bG,bh x.scope,(gO f.sizes f.k x).2⟩;have bO:∀u∈ej a,u.oneCell'=true:=ry bL;refine fM (f:=ej) (a:=a) fm.u cG.i Ω rfl rfl λeZ e0 dH e2 aF dI=>?_;have aG:=ct.ext aF;refine gd (f:=ej) (a:=a) fm.u cG.i rfl aG.1 (by simpa using dI.sl) bO Ω Ω λaV ap e4 aW bP aX=>?_;have cw:=bL.ext aF;have bk:∀ {r:Nat},leadsTo l r-> ∃c,ae dH r cG c:=λI=>by
    obtain⟨rfl,c,W⟩:=di aG.1 I;exact⟨c,W⟩
   refine ch _ _ ⟨ap,L++[a],((aD.trans bg).trans aF).then aX (λr I he=>by have:=an r he;omega),eH.mk aW λz J=>?_,λz J=>?_,?_,λr I=>?_⟩
   .rcases n9.1 J with J|J
    .have:=(aG.2 z J).V aX λr I he=>(aG.2 z J).2.1 r I (aG.1.leads he).1;exact⟨this.1,this.2.2⟩
    .rw[l9.1 J];exact⟨⟨gs,bb cw aX λr I he=>by obtain⟨c,W⟩:=bk he;exact bU cw W Φ I rfl⟩,aE.scope⟩
   .rcases n9.1 J with J|J
    .exact (bN.ext aF).row aG aX z J
    .rw[l9.1 J];exact⟨dy,dz,tT (cq.ext aF) aX λr I=>bk I⟩
   .rw[Z4,ai,tX ba,Ai]
    .rfl
    .intro c al dJ;rw[<-ai] at al;obtain⟨z,J,rfl⟩:=Z5.1 al;exact dG z J dJ
   .rcases bP r I with h|h
    .exact an r h
    .have:=aF.size;have:=bf.size;omega
  .rw[ao,ad];refine⟨λh=>Ω,λ_=>?_⟩;intro e5 ax _ _;have bQ:=ct.ext ax;have cz:=(x4.1 X).1;obtain⟨dK,dL,bl⟩:=(bN.ext ax) y (x6 X);have cA:=cr.ext ax;have cB:=bL.ext ax;have dM:=cq.ext ax;rw[cO rfl fm.u cG.i bQ.1 cz,aa cG.p rfl,ac Ψ (bQ.1.range X 1 _ rfl),ac Ψ (cA.cell (o:=0) rfl),ac Ψ (cA.cell (o:=0) rfl)];have aH:e3 f.sizes f.k (dE y):=dg _ (tY ai X);rw[bi] at bl;have cC:∀ {c:Int},0<=c/\c<=f.k->cL c f.k:=λh=>⟨bx,h.1,h.2⟩;refine (Jd bl dM cB.ls cB.ls bx (λc al=>cC (aH.h7 c al)) (λc al=>cC (aE.h7 c al))).mono ?_;intro e6 cD _ dN;have dO:y.cs.length=(aL (bD f.sizes (bh x.scope))).toNat:=by have:=aH.len;rw[show (dE y).1=y.sc from rfl,bi] at this;exact this
   have dP:bR (bD f.sizes (bh x.scope)):=cj.2.2.1;obtain⟨bS,bT,cE,cF,dQ,rfl,dR⟩:=Ji aE.up (λv dS=>(aE.scope.1 v dS).1) (by simp[bD];rfl) dP aE.small dO aE.len dN;rw[aK (v:=Γ bT) rfl,aK (v:=dQ) rfl,aK (v:=Δ 0) rfl];have ay:=bQ.ext bS;rw[cO rfl fm.u cG.i ay.1 cz,aa cG.p rfl];let a:cv:=⟨y.sv,bT,y.sc,dC f.k y.cs (gO f.sizes f.k x).2⟩;refine ny (f:=ej) (j:=1) (a:=y) (a':=a) eg.i rfl rfl ay.1 X rfl Ω λdT bm e7 dU=>?_;have bk:∀ {r:Nat},leadsTo l r-> ∃c,ae cD r cG c:=λI=>by
    obtain⟨rfl,c,W⟩:=di ay.1 I;exact⟨c,W⟩
   refine ch _ _ ⟨g,L.set cu a,((aD.trans bg).trans (ax.trans bS)).then bm (λr I he=>by have:=an r he;omega),eH.mk dU λz J=>?_,λz J=>?_,?_,an⟩
   .have cH:∀z∈L,(∃bV,aq .i64 ab dT bV z.sv z.sc)/\h6 z.sc:=λz J=>by
     have:=(ay.2 z J).V bm λr I he=>(ay.2 z J).2.1 r I (ay.1.leads he).1;exact⟨this.1,this.2.2⟩
    rcases V3 J with J|rfl
    .exact cH z J
    .exact cH y (x6 X)
   .rcases V3 J with J|rfl
    .exact ((bN.ext ax).ext bS).row ay bm z J
    .refine⟨cE,cF,tT ?_ bm λr I=>bk I⟩;show cM cD bT cE cF (bD f.sizes y.sc) f.k _;rw[bi];exact dR
   .rw[T0,ai,tX ba,Jq (g:=gO f.sizes f.k x) dh (i:=cu) (h:=dE y) (by rw[<-ai,x8,X];rfl) bi];rfl
 .rintro l aC dd ⟨g,L,aD,aS,a8,ai,an⟩;rw[ao,ad];refine⟨λh=>Ω,λ_=>?_⟩;rw[a7.1,Ak] at ai;have dj:L.length<=256:=by
   have:=(jJ Y).2.2;rw[<-ai,u5] at this;have:=Y.jD;omega
  refine (I7 aS a8 Ω).mono ?_;rintro e8 cI _ ⟨cJ,cK,dV⟩;have dW:Ext U cI:=aD.then cJ λr I he=>by have:=an r he;omega
  have dX:Sem cI f.k f.sizes (L.filter fh):=λz J=>(a8.row aS cJ) z (List.mem_filter.1 J).1;have e9:(L.filter fh).length<=L.length:=List.length_filter_le _ _;refine (IZ cK Ω).mono ?_;rintro _ cN _ ⟨cP,M,bW,dY,cQ⟩;have dZ:Ext U cN:=dW.then cP λr I he=>by have:=an r (dV r he);omega
  have cS:Sem cN f.k f.sizes M:=λz J=>(dX.row cK cP) z (bW.mem_iff.1 J);have fa:M.length<=256:=by rw[bW.length_eq];omega
  have cT:M.map dE=e1 f:=by
   refine HZ Y ?_ ?_
   .refine (bW.map dE).trans ?_;rw[<-ai,List.filter_map];exact .refl _
   .rw[List.pairwise_map];refine V0.2 λp q ea cU eb=>?_;exact dY p q _ _ (Y9 _) eb cU (y0 ea) (y0 cU)
  intro fb bo _ _;have aY:=dZ.trans bo;have fc:=cc.ext aY;have bX:=cd.ext aY;rw[aw,aa cp.p rfl,ac Ψ (bX.cell (o:=0+0) rfl),aw,aa cp.p rfl,ac Ψ (bX.cell (o:=0+1) rfl),aw,aa cp.p rfl,ac Ψ (bX.cell (o:=0+2) rfl)];refine (hA (db.ls.ext aY) (by have:=Y.sizes.2.1;omega)).mono ?_;rintro aZ cV _ ⟨aI,ec,fd,cW⟩;refine⟨.inl aI,?_⟩;rw[cR (cs:=#[bw f.name,Δ f.k,aZ,.slice ν 0 0]) (by obtain⟨_,_,_,rfl⟩:=b0 cW.ls;kernel_rfl)];refine bM λaz ed fe bp b1=>?_;have b1:ae ed az cp [bw f.name,Δ f.k,aZ,.slice ν 0 0]:=b1;have ff:=(aY.trans aI).trans bp;have ee:=((cQ.ext bo).ext aI).ext bp;have fg:=((cS.ext bo).ext aI).ext bp;rw[dc fm.u ee.1];refine bZ.range M.length (λi aJ=>∃a2 bq aB,Ext cV aJ/\ae aJ az cp [bw f.name,Δ f.k,aZ,a2]/\pi aJ bq a2 f.k f.sizes aB/\aB.map dE=(M.take i).map dE/\aB.length=i/\ ∀r,leadsTo a2 r->cV.heap.size<=r) Ω
   ⟨_,0,[],bp,b1,⟨a6.nil _ _ _ _ _,λx aR=>(by cases aR)⟩,rfl,rfl,λr I=>(eF I).elim⟩ ?_ ?_
  rotate_left
  .rintro aJ ef ⟨a1,bq,aB,aM,aO,b2,br,_,_⟩;rw[o9,cT] at br;rw[ao,ad];refine⟨λh=>Ω,λ_=>?_⟩;exact⟨(bz.trans (aY.trans aI)).trans aM,.inr ⟨az,rfl,aZ,a1,ec,bq,aB,aO,cW.ext aM,b2,br⟩⟩
  rintro i aJ ef hi ⟨a1,bq,aB,aM,aO,b2,br,eh,cX⟩ ei;obtain⟨y,X⟩:∃y,M[i]? =σ y:=⟨_,y0 hi⟩;have cY:=(bo.trans aI).trans aM;have cZ:=cQ.ext cY;have c0:=cZ.at X;obtain⟨dK,dL,bl⟩:=(cS.ext cY) y (x6 X);have aH:e3 f.sizes f.k (dE y):=rg Y _ (tY cT X);rw[ao,ad];refine⟨λ_=>?_,λh=>Ω⟩;rw[rr rfl cZ X];refine bt cG.i λem fi fj en eo=>?_;refine bJ (vs:=ej y) cG.i rfl rfl c0.one eo λep er fk es=>?_;have et:Ext aJ ep:=en.then er (λr I he=>by have he:r=em:=he;omega);intro fo c1 _ _;have b3:=et.trans c1;have c2:=es.ext c1;have eu:=aO.ext b3;rw[aw,aa cp.p rfl,ac Ψ (eu.cell (o:=0+3) rfl),aa cG.p rfl,ac Ψ (c2.cell (o:=0+0) rfl),aa cG.p rfl,ac Ψ (c2.cell (o:=0+1) rfl)];refine (Jp (bl.ext b3) λc al=>⟨bx,(aH.h7 c al).1,(aH.h7 c al).2⟩).mono ?_;rintro _ fp _ ⟨b4,ag,m,o,D,rfl,ev,ew,ey,_⟩;refine⟨.inl b4,?_⟩;have c3:=b3.trans b4;obtain⟨⟨bV,c4⟩,_,fq⟩:=c0;have c5:=c4.ext c3;rw[cR (cs:=#[y.sv,Γ ag]) (by obtain⟨_,_,_,e⟩:=b0 c4.ls;rw[e];kernel_rfl)];let a:cv:=⟨y.sv,ag,y.sc,y.cs⟩;have bO:∀u∈ej a,u.oneCell'=true:=ry c5;refine fM (f:=ej) (a:=a) dm.u ck.i Ω rfl rfl λv25 fs b5 ft av ez=>?_;refine⟨.inl (b4.trans av),?_⟩;have aQ:=c3.trans av;have bu:=b2.ext aQ;refine gd (f:=ej) (a:=a) dm.u ck.i rfl bu.1 (by simpa using ez.sl) bO Ω Ω λaV ap eA aW bP c6=>?_;have fu:=aM.size;have fv:=aQ.size;have b6:ae eA az cp [bw f.name,Δ f.k,aZ,a1]:=(aO.ext aQ).V c6 λhe=>by
   obtain⟨rfl,c,W⟩:=di bu.1 he;have h1:=aO.ext aQ;unfold ae at W h1;rw[h1] at W;exact absurd (Obj.cells.inj (Z6 W)).2.1 Φ
  rw[aw,aa cp.p rfl];have c7:aV.cells= #[aV]/\aV.oneCell'=true:=by
   obtain⟨_,_,_,_,_,rfl,_⟩:=aW.sl;exact⟨rfl,rfl⟩
  refine bj dm.i c7.1 c7.2 b6 Ξ λeB c8 fw eC=>?_;rw[aN];have b7:af (λr=>r=az\/leadsTo a1 r) b5 eB:=(c6.mono λr _ h=>.inr h).trans (c8.mono λr _ h=>.inl h);have c9:∀r,(r=az\/leadsTo a1 r)-> ∃e c,ae b5 r e c/\e≠eY/\e≠ab:=λr I=>by
   rcases I with rfl|I
   .exact⟨_,_,aO.ext aQ,Φ,Φ⟩
   .obtain⟨rfl,c,W⟩:=di bu.1 I;exact⟨_,c,W,Φ,Φ⟩
  refine ei _ ⟨aV,ap,aB++[a],?_,eC,⟨aW.V c8 λr I he=>?_,λz J=>?_⟩,?_,by rw[r8,eh];rfl,λr I=>?_⟩
  .exact (aM.trans aQ).then b7 λr I he=>by
    rcases he with rfl|he
    .omega
    .have:=cX r he;omega
  .have he:r=az:=he;subst he;obtain⟨rfl,c,W⟩:=di aW I;unfold ae at W b6;rw[b6] at W;exact absurd (Obj.cells.inj (Z6 W)).2.1 Φ
  .rcases n9.1 J with J|J
   .exact (bu.2 z J).V b7 c9
   .rw[l9.1 J];refine lj.V (w:=b5) ⟨⟨bV,c5.ext av⟩,m,o,D,ev.ext av,?_,ey⟩ b7 c9;have:=aH.small;exact X0 ew (by show (aL (bD f.sizes (dE y).1)).toNat<=4096;omega)
  .rw[Z4,br,r9,X,Z4];rfl
  .rcases bP r I with h|h
   .exact cX r h
   .omega
theorem eu {r:Nat} {I:u9} {c J:List x1} (h:ae w r e c) (h':ae w r I J):e=I:=by
 unfold ae at h h';rw[h] at h';exact (Obj.cells.inj (Z6 h')).2.1
theorem b7 {α:Type} {f:α->List x1} {k:Nat} {I:u9} {g J:Nat} {L:List α} {cs:List x1} (h:a6 f k e w g v L) (U:ae w J I cs) (V:e≠I):¬leadsTo v J:=λW=>by
 obtain⟨rfl,c,X⟩:=di h W;exact V (eu X U)
structure kC where
 v:x1
 l:List Int
def mn (h:kC):List x1:=[h.v]
def gQ (w:x2) (g:Nat) (v:x1) (aT:List kC):Prop:=a6 mn 1 ax w g v aT/\ ∀h∈aT,∃I,aq .i64 an w I h.v h.l
theorem gQ.ext {g:Nat} {aT:List kC} (h:gQ w g v aT) (I:Ext w w'):gQ w' g v aT:=⟨h.1.ext I,λx J=>by
 obtain⟨U,hm⟩:=h.2 x J;exact⟨U,hm.ext I⟩⟩
theorem gQ.pj {g:Nat} {aT:List kC} (h:gQ w g v aT) (U:af S w w') (V:∀r,S r-> ∃e c,ae w r e c/\e≠an):∀h∈aT,∃J,aq .i64 an w' J h.v h.l:=λx W=>by
 obtain⟨J,hm⟩:=h.2 x W;exact⟨J,bb hm U λr X I=>by
  obtain⟨e,c,Y,aa⟩:=V r I;exact bU hm Y (λhe=>aa he.symm) X rfl⟩
theorem gQ.V {g:Nat} {aT:List kC} (h:gQ w g v aT) (X:af S w w') (Y:∀r,S r-> ∃e c,ae w r e c/\e≠an/\e≠ax):gQ w' g v aT:=
 ⟨h.1.V X λr J I=>by
  obtain⟨e,c,U,_,W⟩:=Y r I;exact b7 h.1 U (λhe=>W he.symm) J,h.pj X λr J=>by
  obtain⟨e,c,U,W,_⟩:=Y r J;exact⟨e,c,U,W⟩⟩
def lk (w:x2) (k:Int) (sizes:List Int) (x:cv):Prop:=(∃I,aq .i64 ab w I x.sv x.sc)/\ ∃J U,cM w x.g J U (bD sizes x.sc) k x.cs
theorem lk.ext {x:cv} (h:lk w k sizes x) (I:Ext w w'):lk w' k sizes x:=by
 obtain⟨⟨J,h1⟩,U,V,W⟩:=h;exact⟨⟨J,h1.ext I⟩,U,V,W.ext I⟩
theorem Jw {g aa:Nat} {ac:x1} (h:cM w g aa ac szs k cs) (W:af S w w') (X:∀r,S r-> ∃e c,ae w r e c/\e≠cQ/\e≠ab/\e≠an):cM w' g aa ac szs k cs:=by
 obtain⟨⟨aJ,gs,h1,ad,ag⟩,ah⟩:=h;refine⟨⟨aJ,gs,h1.V W λI=>?_,bb ad W λr Y I=>?_,bb ag W λr Y I=>?_⟩,ah⟩
 .obtain⟨e,c,J,U,_⟩:=X g I;exact U (eu J h1)
 .obtain⟨e,c,J,_,U,_⟩:=X r I;exact bU ad J (λhe=>U he.symm) Y rfl
 .obtain⟨e,c,J,_,_,U⟩:=X r I;exact bU ag J (λhe=>U he.symm) Y rfl
theorem lk.V {x:cv} (h:lk w k sizes x) (J:af S w w') (U:∀r,S r-> ∃e c,ae w r e c/\e≠cQ/\e≠ab/\e≠an):lk w' k sizes x:=by
 obtain⟨⟨W,h1⟩,X,Y,aa⟩:=h;refine⟨⟨W,bb h1 J λr ac I=>?_⟩,X,Y,Jw aa J U⟩;obtain⟨e,c,ad,_,ag,_⟩:=U r I;exact bU h1 ad (λhe=>ag he.symm) ac rfl
def kD (w:x2) (g:Nat) (v:x1) (k:Int) (sizes:List Int) (L:List cv):Prop:=a6 ej 2 gX w g v L/\ ∀x∈L,lk w k sizes x
theorem kD.ext {g:Nat} {L:List cv} (h:kD w g v k sizes L) (I:Ext w w'):kD w' g v k sizes L:=⟨h.1.ext I,λx J=>(h.2 x J).ext I⟩
theorem kD.V {g:Nat} {L:List cv} (h:kD w g v k sizes L) (X:af S w w') (Y:∀r,S r-> ∃e c,ae w r e c/\e≠gX/\e≠cQ/\e≠ab/\e≠an):kD w' g v k sizes L:=
 ⟨h.1.V X λr J I=>by
  obtain⟨e,c,U,W,_⟩:=Y r I;exact b7 h.1 U (λhe=>W he.symm) J,λx aa=>(h.2 x aa).V X λr J=>by
  obtain⟨e,c,U,_,W⟩:=Y r J;exact⟨e,c,U,W⟩⟩
def fi (w:x2) (V:Nat) (n:aV):Prop:=∃I J U W X aT L Y au aa ac,ae w V e9 [Γ I,Δ n.zero,J,U]/\ae w I cp [Y,Δ n.k,au,ac]/\aq .i64 ab w aa au n.sizes/\
 gQ w W J aT/\aT.map (·.l)=n.unary/\kD w X U n.k n.sizes L/\L.map dE=n.funs
theorem fi.ext {J:Nat} {n:aV} (h:fi w J n) (I:Ext w w'):fi w' J n:=by
 obtain⟨U,V,W,X,Y,aT,L,aa,au,ab,ac,h1,ad,ae,af,ag,ah,ai⟩:=h;exact⟨U,V,W,X,Y,aT,L,aa,au,ab,ac,h1.ext I,ad.ext I,ae.ext I,af.ext I,ag,ah.ext I,ai⟩
def hK (n:aV) (g:ct):aV:=match g.1 with
 |[]=>{n with zero:=g.2.getD 0 0}
 |[v]=>{n with unary:=n.unary.set v.toNat g.2}
 |_=>{n with funs:=n.funs++[g]}
def Al (f:bY):aV:=⟨f.k,f.sizes,0,f.sizes.map λz=>o6 z.toNat 0,[]⟩
theorem Jx (f:bY):cC f=(e1 f).foldl hK (Al f):=rfl
def dj (f:bY) (i:Nat):aV:=((e1 f).take i).foldl hK (Al f)
theorem tZ {f:bY} {i:Nat} {g:ct} (h:(e1 f)[i]? =σ g):dj f (i+1)=hK (dj f i) g:=Jr h
theorem rz (f:bY):dj f (e1 f).length=cC f:=by unfold dj;rw[o9,Jx]
theorem Jy (n:aV) (g:ct):(hK n g).k=n.k/\(hK n g).sizes=n.sizes/\(hK n g).unary.length=n.unary.length/\(hK n g).funs.length<=n.funs.length+1:=by
 unfold hK;split
 .exact⟨rfl,rfl,rfl,S5 _⟩
 .exact⟨rfl,rfl,Ξ,S5 _⟩
 .exact⟨rfl,rfl,rfl,Ξ⟩
theorem nI (f:bY):∀i,(dj f i).k=f.k/\(dj f i).sizes=f.sizes/\(dj f i).unary.length=f.sizes.length/\(dj f i).funs.length<=i
 |0=>⟨rfl,rfl,by show (f.sizes.map _).length=_;simp,Y9 _⟩
 |i+1=>by
  have I:=nI f i;cases J:(e1 f)[i]? with
  |none=>
   have U:=List.getElem?_eq_none_iff.1 J;have e:dj f (i+1)=dj f i:=by unfold dj;rw[Z0 Ω,Z0 U]
   rw[e];exact⟨I.1,I.2.1,I.2.2.1,Ω⟩
  |some g=>
   rw[tZ J];obtain⟨h1,V,W,X⟩:=Jy (dj f i) g;exact⟨h1.trans I.1,V.trans I.2.1,W.trans I.2.2.1,Ω⟩
def Jz (w:x2) (f:bY) (v:x1) (w':x2):Prop:=Ext w w'/\((¬kB f.funs<=16384/\ ∃e:Int,e≠0/\v= .tuple #[.pointer ν,Δ e])\/ ∃I,v= .tuple #[Γ I,Δ 0]/\fi w' I (cC f))
theorem cP {k:Nat} {cs:List x1} (h:bT w k v n cs):v.cells= #[v]/\v.oneCell'=true:=by
 obtain⟨_,_,_,_,_,rfl,_⟩:=h;exact⟨rfl,rfl⟩
theorem JA {cc:Nat} {f:bY} (cF:jL w cc f) (aB:eL N f) (cG:N<=60000) (cH:f.name≠[]/\ ∀b∈f.name,bF b=true):
  aj x3 CZ [Γ cc] w (Jz w f):=by
 have dJ:=aB.k;refine aA func69 ?_;refine (Jv cF aB cG cH).mono ?_;rintro _ U _ ⟨bd,⟨cI,e,he,rfl⟩|⟨aG,rfl,cJ⟩⟩
 .rw[aK (v:=.pointer ν) rfl,aK (v:=Δ e) rfl,bB,ad];exact⟨λ_=>⟨bd,.inl ⟨cI,e,he,rfl⟩⟩,λh=>absurd he h⟩
 rw[aK (v:=Γ aG) rfl,aK (v:=Δ 0) rfl,bB,ad];refine⟨λh=>absurd rfl h,λ_=>?_⟩;obtain⟨au,cK,cL,dK,M,bA,bC,cd,be⟩:=id cJ;have dL:M.length<=256:=by
  have h1:=(o3 aB).2.length_eq;have aR:=(jJ aB).2.2;have aU:=List.length_filter_le e0 (eR f);have bf:=aB.jD;have dM:M.length=(e1 f).length:=by rw[<-be,u5]
  omega
 have dN:=aB.sizes.2.1;rw[cR (cs:=#[Γ aG,Δ 0,.slice ν 0 0,.slice ν 0 0]) Ψ];refine bM λag cM dO bE bG=>?_;have bG:ae cM ag e9 [Γ aG,Δ 0,.slice ν 0 0,.slice ν 0 0]:=bG;rw[aw,aa cp.p rfl,ac Ψ ((bA.ext bE).cell (o:=0+2) rfl),aS ah.u (bC.ls.ext bE)];refine bZ.range f.sizes.length (λi aX=>∃W ai aT,Ext U aX/\ae aX ag e9 [Γ aG,Δ 0,W,.slice ν 0 0]/\gQ aX ai W aT/\aT.map (·.l)=(f.sizes.take i).map (λz=>o6 z.toNat 0)/\ ∀r,leadsTo W r->U.heap.size<=r) Ω
  ⟨_,0,[],bE,bG,⟨a6.nil _ _ _ _ _,λx bH=>(by cases bH)⟩,rfl,λr J=>(eF J).elim⟩ ?_ ?_
 .rintro i aX cN hi ⟨W,ai,aT,aH,bg,bI,aY,bh⟩ cS;obtain⟨z,ak⟩:∃z,f.sizes[i]? =σ z:=⟨_,y0 hi⟩;have dP:=aB.sizes.2.2 z (x6 ak);have dQ:aT.length=i:=by have:=congrArg S9 aY;simp only[u5,o7] at this;omega
  rw[ao,ad];refine⟨λ_=>?_,λh=>Ω⟩;rw[bc ah.u ab.i Ψ (bC.ls.ext aH) ak];intro dR ce _ _;have cT:=bg.ext ce;rw[aw,aa e9.p rfl,ac Ψ (cT.cell (o:=0+2) rfl)];obtain⟨aI,rfl⟩:∃n:Nat,z=n:=⟨z.toNat,Ω⟩;refine iS (k:=.i64) ax.u an.i Ω Ω λbk cU dT bK cV=>?_;refine⟨.inl bK,?_⟩;have cW:aq .i64 an cU bk (.slice (σ ⟨bk,0,ν⟩) aI aI) (o6 aI 0):=aq.of (bQ.full (k:=1) (n:=aI) cV Ξ (by simp[maxLen];omega));let a:kC:=⟨.slice (σ ⟨bk,0,ν⟩) aI aI,o6 aI 0⟩;refine fM (f:=mn) (a:=a) dF.u ax.i Ω rfl rfl λdU dV bL dW bN cX=>?_;refine⟨.inl (bK.trans bN),?_⟩;have bl:=(ce.trans bK).trans bN;have bm:=bI.ext bl;refine gd (f:=mn) (a:=a) dF.u ax.i rfl bm.1 (by simpa using cX.sl) (λu hu=>by rw[l9.1 (show u∈[a.v] from hu)];rfl) Ω Ω λbO bP dX av bR cg=>?_;have aZ:∀ {r:Nat},leadsTo W r-> ∃c,ae bL r ax c:=λJ=>by
   obtain⟨rfl,c,X⟩:=di bm.1 J;exact⟨c,X⟩
  have bS:=bg.ext bl;have ch:=bS.V cg λhe=>b7 bm.1 bS Φ he;rw[aw,aa e9.p rfl];refine bj dF.i (cP av.sl).1 (cP av.sl).2 ch Ξ λcY ci dY cZ=>?_;rw[aN];have bT:af (λr=>leadsTo W r\/r=ag) bL cY:=(cg.mono λr _ h=>.inl h).trans (ci.mono λr _ h=>.inr h);have aC:∀r,(leadsTo W r\/r=ag)-> ∃e c,ae bL r e c/\e≠an:=λr J=>by
   rcases J with J|rfl
   .obtain⟨c,X⟩:=aZ J;exact⟨_,c,X,Φ⟩
   .exact⟨_,_,bS,Φ⟩
  have c0:=bd.size;have z3:=aH.size;have ea:=bl.size;refine cS _ ⟨bO,bP,aT++[a],(aH.trans bl).then bT (λr J he=>?_),cZ,⟨av.V ci λr J he=>?_,λy ap=>?_⟩,?_,λr J=>?_⟩
  .rcases he with he|rfl
   .have:=bh r he;omega
   .omega
  .have he:r=ag:=he;subst he;exact b7 av ch Φ J
  .rcases n9.1 ap with ap|ap
   .exact bm.pj bT aC y ap
   .rw[l9.1 ap];have cj:=cW.ext bN;exact⟨bk,bb cj bT λr J I=>by
     obtain⟨e,c,X,c1⟩:=aC r I;exact bU cj X (λhe=>c1 he.symm) J rfl⟩
  .rw[Z4,aY,r9,ak,Z9,Z4];rfl
  .rcases bR r J with h|h
   .exact bh r h
   .omega
 .rintro aX cN ⟨W,ai,aT,aH,bg,bI,aY,bh⟩;rw[ao,ad];refine⟨λh=>Ω,λ_=>?_⟩;rw[o9] at aY;have c2:=bA.ext aH;have c3:=cd.ext aH;rw[aw,aa cp.p rfl,ac Ψ (c2.cell (o:=0+3) rfl),dc dm.u c3.1];refine bZ.range M.length (λi aJ=>∃W Y ai aD aT L,Ext U aJ/\ae aJ ag e9 [Γ aG,Δ (dj f i).zero,W,Y]/\gQ aJ ai W aT/\aT.map (·.l)=(dj f i).unary/\kD aJ aD Y f.k f.sizes L/\L.map dE=(dj f i).funs/\ ∀r,leadsTo W r\/leadsTo Y r->U.heap.size<=r) Ω
   ⟨W,_,ai,0,aT,[],aH,bg,bI,aY,⟨a6.nil _ _ _ _ _,λx bH=>(by cases bH)⟩,rfl,λr J=>J.elim (bh r) λh=>(eF h).elim⟩ ?_ ?_
  rotate_left
  .rintro aJ c4 ⟨W,Y,ai,aD,aT,L,ay,bo,bV,aM,bW,aO,_⟩;rw[ao,ad];refine⟨λh=>Ω,λ_=>?_⟩;have c5:M.length=(e1 f).length:=by rw[<-be,u5]
   have a1:=nI f M.length;rw[c5,rz] at bo aM aO a1;refine⟨bd.trans ay,.inr ⟨ag,rfl,aG,W,Y,ai,aD,aT,L,bw f.name,au,cL,cK,bo,?_,?_,bV,aM,?_,aO⟩⟩
   .rw[a1.1];exact bA.ext ay
   .rw[a1.2.1];exact bC.ext ay
   .rw[a1.1,a1.2.1];exact bW
  rintro i aJ c4 hi ⟨W,Y,ai,aD,aT,L,ay,bo,bV,aM,bW,aO,aV⟩ c6;obtain⟨y,ap⟩:∃y,M[i]? =σ y:=⟨_,y0 hi⟩;have c7:(e1 f)[i]? =σ (dE y):=by rw[<-be,x8,ap];rfl
  have bp:e3 f.sizes f.k (dE y):=rg aB _ (tY be ap);have bX:=cd.ext ay;obtain⟨eb,ec,ed,ee⟩:=nI f i;rw[ao,ad];refine⟨λ_=>?_,λh=>Ω⟩;refine dt (λa2=>∃W Y ai aD aT L,Ext U a2/\ae a2 ag e9 [Γ aG,Δ (dj f (i+1)).zero,W,Y]/\gQ a2 ai W aT/\aT.map (·.l)=(dj f (i+1)).unary/\kD a2 aD Y f.k f.sizes L/\L.map dE=(dj f (i+1)).funs/\ ∀r,leadsTo W r\/leadsTo Y r->U.heap.size<=r) ?_ ?_
  .rintro a2 h;rw[aN];exact c6 _ h
  intro ef b1;have c8:=bX.2 y (x6 ap);obtain⟨⟨c9,b2⟩,m,o,D,da,eg,db⟩:=c8;rw[cO rfl dm.u ck.i bX.1 hi,bn ck.p ck.i rfl (bX.1.range ap)];refine bt ck.i λam eh ei dd de=>?_;refine bJ (vs:=ej y) ck.i rfl rfl (ry b2) de λdf dg ek cl=>?_;have cm:Ext aJ df:=dd.then dg (λr J he=>by have he:r=am:=he;omega);rw[aa ck.p rfl,ac Ψ (cl.cell (o:=0+1) rfl)];refine (zK (da.ext cm) Ω).mono ?_;rintro _ em _ ⟨cn,_,aW⟩;obtain⟨g,dh,dk,dl,rfl,en,eo,aW,dn⟩:=aW bp.small;have dp:dS (bD f.sizes y.sc):=aW.2.2.1.2;have dq:dl=y.cs:=hj.eq dp dn db;subst dq;have aE:=cm.trans cn;have b3:=cl.ext cn;have b4:=b2.ext aE;rw[aK (v:=Γ g) rfl,aK (v:=Δ 0) rfl,aa ck.p rfl,ac Ψ (b3.cell (o:=0+0) rfl),aS ah.u b4.ls];have c0:=bd.size;have z9:=ay.size;have ep:=aE.size;have b5:=bo.ext aE;have b6:=bV.ext aE;have b8:=bW.ext aE;have b9:=tZ c7;rw[bi,ad];refine⟨λer=>?_,λes=>?_⟩
  .
   have aP:y.sc=[]:=Z2 Ω;have al:dj f (i+1)={dj f i with zero:=y.cs.getD 0 0}:=by rw[b9];unfold hK;simp only[dE,aP]
   refine (lg aW).mono ?_;rintro cq dr _ ⟨bq,et,eu,ds⟩;have ev:y.cs.length=1:=by have:=bp.len;simpa[dE,aP,bD,aL] using this
   have du:y.cs[0]? =σ (y.cs.getD 0 0):=by rw[u4,y0 Ω];rfl
   rw[dZ (y:=0) (i:=0) rfl ax.u an.i Ψ ds.ls du,aw,aa e9.p rfl];have cr:=b5.ext bq;refine bj an.i rfl rfl cr Ξ λew ca ey dv=>?_;have aC:∀r,r=ag-> ∃e c,ae dr r e c/\e≠gX/\e≠cQ/\e≠ab/\e≠an/\e≠ax:=λr J=>by
    subst J;exact⟨_,_,cr,Φ,Φ,Φ,Φ,Φ⟩
   refine b1 _ ⟨W,Y,ai,aD,aT,L,((ay.trans aE).trans bq).then ca (λr J he=>by have he:r=ag:=he;omega),?_,(b6.ext bq).V ca (λr J=>?_),by rw[al];exact aM,(b8.ext bq).V ca (λr J=>?_),by rw[al];exact aO,aV⟩
   .rw[al];exact dv
   .obtain⟨e,c,X,_,_,_,h1,aR⟩:=aC r J;exact⟨e,c,X,h1,aR⟩
   .obtain⟨e,c,X,h1,aR,aU,bf,_⟩:=aC r J;exact⟨e,c,X,h1,aR,aU,bf⟩
  rw[bi,ad];refine⟨λh1=>?_,λez=>?_⟩
  .
   obtain⟨v,aP⟩:∃v,y.sc=[v]:=X7.1 Ω;have eA:=bp.scope.1 v (by show v∈y.sc;rw[aP];exact .head _);have eB:=bp.vars v (by show v∈y.sc;rw[aP];exact .head _);have al:dj f (i+1)={dj f i with unary:=(dj f i).unary.set v.toNat y.cs}:=by rw[b9];unfold hK;simp only[dE,aP]
   intro eC aQ _ _;have ct:=b5.ext aQ;have dw:=b3.ext aQ;rw[aw,aa e9.p rfl,ac Ψ (ct.cell (o:=0+2) rfl),aa ck.p rfl,ac Ψ (dw.cell (o:=0+0) rfl)];refine s5 (y:=0) (i:=0) rfl ah.u ab.i (b4.ls.ext aQ) (show y.sc[0]? =σ v by rw[aP];rfl) λb o dx=>?_;rw[ac Ψ dx];refine (lg (aW.ext aQ)).mono ?_;rintro cq dy _ ⟨a7,dz,eD,br⟩;refine⟨.inl a7,?_⟩;have a8:=(b6.ext aQ).ext a7;have eE:aT.length=f.sizes.length:=by have:=congrArg S9 aM;rw[u5] at this;omega
   obtain⟨u,hu⟩:∃u,aT[v.toNat]? =σ u:=⟨_,y0 Ω⟩;rw[cO (i:=v.toNat) Ω dF.u ax.i a8.1 Ω];let a:kC:=⟨cq,y.cs⟩;refine ny (f:=mn) (j:=0) (a:=u) (a':=a) ax.i br.ls.cells.1 br.ls.cells.2 a8.1 hu rfl Ω λeH ba eI dA=>?_;have cu:=ct.ext a7;have aZ:∀ {r:Nat},leadsTo W r-> ∃c,ae dy r ax c:=λJ=>by
    obtain⟨rfl,c,X⟩:=di a8.1 J;exact⟨c,X⟩
   refine b1 _ ⟨W,Y,ai,aD,aT.set v.toNat a,L,(((ay.trans aE).trans aQ).trans a7).then ba (λr J he=>by have:=aV r (.inl he);omega),?_,⟨dA,λz ak=>?_⟩,?_,((b8.ext aQ).ext a7).V ba (λr J=>?_),by rw[al];exact aO,aV⟩
   .rw[al];exact cu.V ba λhe=>b7 a8.1 cu Φ he
   .rcases V3 ak with ak|rfl
    .exact a8.pj ba (λr J=>by obtain⟨c,X⟩:=aZ J;exact⟨_,c,X,Φ⟩) z ak
    .exact⟨dz,bb br ba λr J I=>by
      obtain⟨c,X⟩:=aZ I;exact bU br X Φ J rfl⟩
   .rw[al,T0,aM]
   .obtain⟨c,X⟩:=aZ J;exact⟨_,c,X,Φ,Φ,Φ,Φ⟩
  .
   have al:dj f (i+1)={dj f i with funs:=(dj f i).funs++[dE y]}:=by
    rw[b9];unfold hK;have cw:2<=(dE y).1.length:=by show 2<=y.sc.length;omega
    generalize dE y=g at cw ⊢;obtain⟨sc,cs⟩:=g
    match sc,cw with
    |_::_::_,_=>rfl
   intro eJ aF _ _;have cz:=b5.ext aF;have dC:=b3.ext aF;have cA:=b4.ext aF;rw[aw,aa e9.p rfl,ac Ψ (cz.cell (o:=0+3) rfl),aa ck.p rfl,ac Ψ (dC.cell (o:=0+0) rfl),cR (cs:=#[y.sv,Γ g]) (by obtain⟨_,_,_,e⟩:=b0 b2.ls;rw[e];kernel_rfl)];let a:cv:=⟨y.sv,g,y.sc,y.cs⟩;refine fM (f:=ej) (a:=a) ju.u gX.i Ω rfl rfl λeK eM bu eN az dD=>?_;refine⟨.inl az,?_⟩;have bx:=(b8.ext aF).ext az;have dG:=(b6.ext aF).ext az;have cb:=cz.ext az;have eO:L.length<=256:=by have:=congrArg S9 aO;rw[u5] at this;omega
   refine gd (f:=ej) (a:=a) ju.u gX.i rfl bx.1 (by simpa using dD.sl) (ry (cA.ext az)) Ω Ω λbO bP eP av bR cB=>?_;have cC:=cb.V cB λhe=>b7 bx.1 cb Φ he;rw[aw,aa e9.p rfl];refine bj ju.i (cP av.sl).1 (cP av.sl).2 cC Ξ λdH cD eQ dI=>?_;have bz:af (λr=>leadsTo Y r\/r=ag) bu dH:=(cB.mono λr _ h=>.inl h).trans (cD.mono λr _ h=>.inr h);have aC:∀r,(leadsTo Y r\/r=ag)-> ∃e c,ae bu r e c/\e≠cQ/\e≠ab/\e≠an/\e≠ax:=λr J=>by
    rcases J with J|rfl
    .obtain⟨rfl,c,X⟩:=di bx.1 J;exact⟨_,c,X,Φ,Φ,Φ,Φ⟩
    .exact⟨_,_,cb,Φ,Φ,Φ,Φ⟩
   have eS:=(aF.trans az).size;refine b1 _ ⟨W,bO,ai,bP,aT,L++[a],(((ay.trans aE).trans aF).trans az).then bz (λr J he=>?_),?_,dG.V bz (λr J=>?_),by rw[al];exact aM,⟨av.V cD λr J he=>?_,λz ak=>?_⟩,?_,λr J=>?_⟩
   .rcases he with he|rfl
    .have:=aV r (.inr he);omega
    .omega
   .rw[al];exact dI
   .obtain⟨e,c,X,_,_,aU,bf⟩:=aC r J;exact⟨e,c,X,aU,bf⟩
   .have he:r=ag:=he;subst he;exact b7 av cC Φ J
   .have cE:∀r,(leadsTo Y r\/r=ag)-> ∃e c,ae bu r e c/\e≠cQ/\e≠ab/\e≠an:=λr J=>by
     obtain⟨e,c,X,h1,aR,aU,_⟩:=aC r J;exact⟨e,c,X,h1,aR,aU⟩
    rcases n9.1 ak with ak|ak
    .exact (bx.2 z ak).V bz cE
    .rw[l9.1 ak];refine lk.V (w:=bu) ⟨⟨c9,cA.ext az⟩,dh,dk,?_⟩ bz cE;exact (aW.ext aF).ext az
   .rw[al,Z4,aO];rfl
   .rcases J with J|J
    .exact aV r (.inl J)
    .rcases bR r J with h|h
     .exact aV r (.inr h)
     .omega
theorem ua {z:Array x1} {k:Nat} (I:z.size=k):(l5.zeroCells z n).toList=du z (n*k):=by
 unfold l5.zeroCells du;rw[I]
theorem JB {P:W5} {t J Y:u9} {aa kn:o5} {b g k m:Nat} {z:x1} {xs:List x1} {K:x1->x2->Prop} (ay:y=(m:Int)) (al:P.underlying t=σ (.slice e)) (am:P.underlying J=σ (.int kn)) (hi:aM P e k b z) (ab:z.cells.size=k)
  (aS:0<k) (h1:∀u∈du z.cells (m*k),u.oneCell'=true) (h:bQ w g e k v n xs) (aA:0<m) (aB:(n+m)*b<=140737488355328) (aC:n+m<=9223372036854775807)
  (an:∀ac aD w',bQ w' aD e k ac (n+m) (xs++du z.cells (m*k))->(∀r,leadsTo ac r->leadsTo v r\/w.heap.size<=r)->af (λr=>leadsTo v r) w w'->K ac w'):az P (l7 #[t,J] Y #[v,.int aa y]) w K:=by
 subst ay;obtain⟨i,hi,ad,rfl,ao⟩:=hi;obtain⟨ap,hm⟩:=h;have aE:=m7 z.cells (m*k);have aF:m*i.bytes<=281474976710656:=by
  have:m*i.bytes<=(n+m)*i.bytes:=X3 _ Ω;omega
 have grow:∀ (base:Option Addr) (cap:Nat),v= .slice base n cap->(l5.firstCells i.size n (.slice base n cap)).run P w.drew= .ok xs.toArray w.drew->cap<n+m->az P (l7 #[t,J] Y #[v,.int aa (m:Int)]) w K:=λbase cap aG aH I=>by
  subst aG;have ag:=Lib.run_append_grow_zeros (P:=P) w t J Y e i z aa kn al am hi ao base n cap xs aH m aA Ω I Ω aF (growslice_fits I aB);have aq:n+m<=grownCap w (n+m) cap e:=grownCap_ge w _ _ _;have aI:grownCap w (n+m) cap e<=maxLen:=grownCap_le_maxLen w (n+m) cap e (by simpa[maxLen] using aC);have aT:=m7 z.cells ((grownCap w (n+m) cap e-(n+m))*k);have aU:(n+m)*k<=grownCap w (n+m) cap e*k:=X3 _ aq;have aJ:(n+m)*k=n*k+m*k:=U2 _ _ _;have aV:(grownCap w (n+m) cap e-(n+m))*k=grownCap w (n+m) cap e*k-(n+m)*k:=Nat.sub_mul _ _ _;refine .of ag ((n1 w _ (S5 _)).trans (n3 _ _)) (an _ w.heap.size _ ⟨by rw[r8];omega,.inr ⟨_,xs++du z.cells (m*k)++du z.cells ((grownCap w (n+m) cap e-(n+m))*k),rfl,?_,aq,aI,?_,?_⟩⟩ (λr ah=>?_) (((pO w _).trans (n2 _ _)).V _))
  .have:=heap_alloc_new w.drew (.cells (xs.toArray++l5.zeroCells z.cells m++l5.zeroCells z.cells (grownCap w (n+m) cap e-(n+m))) e);unfold ae;rw[show w.drew.heap.size=w.heap.size from rfl] at this;rw[this];congr 2;apply Array.toList_inj.1;rw[Array.toList_append,Array.toList_append,ua ab,ua ab]
  .rw[r8,r8];omega
  .rw[List.take_append_of_le_length (by rw[r8];omega),Z0 (by rw[r8];omega)]
  .obtain⟨a,aK,c,U,W⟩:=ah;cases U;exact .inr (by simp at W;omega)
 rcases hm with⟨rfl,aL⟩|⟨cap,cs,rfl,X,U,W,ai,au⟩
 .subst aL;have:xs=[]:=Z2 (by simpa using ap);subst this;exact grow ν 0 rfl (run_firstCells_none w.drew i.size 0 0 0) Ω
 .by_cases I:n+m<=cap
  .have av:(n+m)*k<=cs.length:=by rw[ai];exact X3 _ I
   have aJ:(n+m)*k=n*k+m*k:=U2 _ _ _;have aj:=run_storeCells_cells (P:=P) g (0+n*k) (du z.cells (m*k)) 0 w (λj aw=>by
    rw[aE] at aw;rw[Nat.add_zero,V1,X.cell (y0 (show n*k+j<cs.length by omega))];rfl) (λj _=>X.frozen _ _) h1
   simp only[Nat.add_zero] at aj;have hw:Y5.wrap (m:Int)=m:=by rw[o5.wrap_i64];omega
   have aN:¬((m:Int)<0):=Ω
   have aO:¬(281474976710656<(m:Int)*(i.bytes:Int)):=by rw[<-Int.natCast_mul];omega
   have ak:¬(m*i.size=0):=Nat.mul_ne_zero Ω Ω;have aP:(l5.zeroCells z.cells m).toList=du z.cells (m*k):=ua ab;have ag:(l7 #[t,J] Y #[.slice (σ ⟨g,0,ν⟩) n cap,.int aa (m:Int)]).run P w= .ok (.slice (σ ⟨g,0,ν⟩) (n+m) cap) (w.setCells g (0+n*k) (du z.cells (m*k))):=by
    simp[l7,run_underlying al,run_underlying am,sizeOf,typeInfo,zeroValue,hi,ao,asInt,asIntOf,hw,I,aN,ak,aO,aP,Addr.add_lit,ad];simp only[V1] at aj;rw[aj];simp;intro aQ;exact absurd aQ (by rw[ad] at ak;exact ak)
   obtain⟨aR,ax⟩:=lT (du z.cells (m*k)) cs (0+n*k) w X;refine .of ag (ax.ds X) (an _ g _ ⟨by rw[r8];omega,.inr ⟨cap,_,rfl,aR,I,W,by rw[km,ai],?_⟩⟩ (λr ah=>.inl ?_) (ax.V.mono λr _ he=>⟨_,_,_,rfl,he.symm⟩))
   .rw[q4 Ω av,k6 (by rw[o7];omega),V1,List.take_take,List.drop_eq_nil_of_le (by rw[o7];omega),V4,T5 Ω,au]
   .obtain⟨a,aK,c,U,W⟩:=ah;cases U;exact⟨_,_,_,rfl,W⟩
  .refine grow _ cap rfl ?_ Ω;have av:n*k<=cs.length:=by rw[ai];exact X3 _ U
   refine run_firstCells_some w.drew i.size n _ n cap xs (by rw[ad];exact ap) λj u hu=>?_;rw[U4,V1];have aw:=(x4.1 hu).1;rw[<-au,Y2 Ω] at hu;exact X.cell hu
def fP (c:Cell):List x1:=[Δ c.v,.int .u64 (c.st:Int)]
def hL (o:iV):List x1:=[Δ (o.i:Int),Δ o.c.v,.int .u64 (o.c.st:Int)]
def gR (m:l3):List x1:=[Δ (m.olds:Int),Δ (m.cells:Int),.int .u64 (m.st:Int)]
def cD (w:x2) (ag:Nat) (A:ai) (t:aC):Prop:=A ag/\ ∃J go a8 aJ I bN,ae w ag cB [aJ,I,bN,.int .u64 (t.ever:Int)]/\a6 fP 2 dB w J aJ t.cells/\a6 hL 3 fa w go I t.olds/\a6 gR 3 dn w a8 bN t.marks/\
 ∀r,leadsTo aJ r\/leadsTo I r\/leadsTo bN r->A r
theorem cD.V {S A:ai} {t:aC} (h:cD w ag A t) (J:af S w w') (U:∀r,A r->¬S r):cD w' ag A t:=by
 obtain⟨X,Y,go,a8,aJ,aa,bN,h1,ab,ac,ad,W⟩:=h;exact⟨X,Y,go,a8,aJ,aa,bN,h1.V J (U _ X),ab.V J λr I=>U r (W r (.inl I)),ac.V J λr I=>U r (W r (.inr (.inl I))),ad.V J λr I=>U r (W r (.inr (.inr I))),W⟩
theorem cD.ext {A:ai} {t:aC} (h:cD w ag A t) (I:Ext w w'):cD w' ag A t:=h.V (I.V λ_=>False) λ_ _ h=>h
theorem cD.mono {A B:ai} {t:aC} (h:cD w ag A t) (I:∀r,A r->B r):cD w ag B t:=by
 obtain⟨J,U,go,a8,aJ,V,bN,h1,W,X,Y,aa⟩:=h;exact⟨I _ J,U,go,a8,aJ,V,bN,h1,W,X,Y,λr ab=>I r (aa r ab)⟩
def Grow (A:ai) (w:x2) (I:ai) (w':x2):Prop:=af A w w'/\(∀r,I r->A r\/w.heap.size<=r)/\ ∀r,A r->I r
theorem Grow.refl (A:ai) (w:x2):Grow A w A w:=⟨af.refl _ _,λ_ h=>.inl h,λ_ h=>h⟩
theorem Grow.ext {A:ai} (h:Ext w w'):Grow A w A w':=⟨h.V _,λ_ h=>.inl h,λ_ h=>h⟩
theorem Grow.trans {A U V:ai} {W:x2} (h:Grow A w U w') (k:Grow U w' V W):Grow A w V W:=
 ⟨⟨X0 h.1.size k.1.size,λr o J I X=>k.1.a7 r o (h.1.a7 r o J I X) I λY=>(h.2.1 r Y).elim X λaa=>by
  have:=(j4.1 J).1;omega⟩,λr J=>by
  rcases k.2.1 r J with h1|h1
  .exact h.2.1 r h1
  .have:=h.1.size;exact .inr Ω,λr J=>k.2.2 r (h.2.2 r J)⟩
theorem Am {A:ai} {t:aC} (h:cD w ag A t):aj x3 Ed [Γ ag] w λv w'=>v=Δ (t.cells.length:Int)/\Ext w w':=by
 obtain⟨J,U,go,a8,aJ,V,bN,h1,I,W,X,Y⟩:=h;refine aA func225 ?_;rw[cA iR.u];simp only[j6,aQ];rw[aw,aa cB.p rfl,ac Ψ (h1.cell (o:=0+0) rfl),dc fJ.u I];exact⟨rfl,Ext.refl _⟩
theorem An {A:ai} {t:aC} {i:Int} (h:cD w ag A t):aj x3 DC [Γ ag,Δ i] w λv w'=>v= .bool (decide (0<=i/\i<t.cells.length))/\Ext w w':=by
 refine aA func166 ?_;refine aP (λv U=>v= .bool (decide (0<=i/\i<t.cells.length))/\Ext w U) (λ_ _ h=>h) ?_;intro W I;rw[cb,ad];refine⟨λJ=>?_,λJ=>I _ _ ⟨by rw[decide_eq_false];omega,Ext.refl _⟩⟩;refine (Am h).mono ?_;rintro _ U _ ⟨rfl,V⟩;rw[ao];refine I _ _ ⟨?_,V⟩;congr 1;rw[V8,decide_eq_true_eq,decide_eq_true_eq];exact⟨λh=>⟨Ω,h⟩,λh=>h.2⟩
theorem JC {A:ai} {t:aC} {i:Nat} {c:Cell} (h:cD w ag A t) (W:y=(i:Int)) (I:t.cells[i]? =σ c):aj x3 ws [Γ ag,Δ y] w λv w'=>v=Δ c.v/\Ext w w':=by
 have X:=(x4.1 I).1;refine aA func74 ?_;refine (An h).mono ?_;rintro _ U _ ⟨rfl,J⟩;rw[decide_eq_true Ω,bg,Y1,aQ];obtain⟨Y,ab,go,a8,aJ,ad,bN,h1,V,ae,af,ah⟩:=h.ext J;rw[aw,aa cB.p rfl,ac Ψ (h1.cell (o:=0+0) rfl),cO W fJ.u dB.i V X,aa dB.p rfl,ac Ψ (V.range I 0 _ rfl)];exact⟨rfl,J⟩
theorem kE {A:ai} {t:aC} {i:Nat} {x:Int} (h:cD w ag A t) (J:y=(i:Int)) (I:t.bS[i]? =σ x):aj x3 ws [Γ ag,Δ y] w λv w'=>v=Δ x/\Ext w w':=by
 unfold aC.bS at I;rw[x8] at I;obtain⟨c,U,rfl⟩:=Y8.1 I;exact JC h J U
def iA (t:aC):Prop:=t.cells.length<=100000000/\t.olds.length<=100000000/\t.marks.length<=100000000
theorem nJ {Y go a8:Nat} {aJ I bN:x1} {t:aC} {x:x1} (h1:ae w ag cB [aJ,I,bN,x]) (U:a6 fP 2 dB w Y aJ t.cells) (V:a6 hL 3 fa w go I t.olds) (W:a6 gR 3 dn w a8 bN t.marks):
  (¬leadsTo aJ ag/\¬leadsTo I ag/\¬leadsTo bN ag)/\(∀r,leadsTo aJ r->¬leadsTo I r/\¬leadsTo bN r)/\ ∀r,leadsTo I r->¬leadsTo aJ r/\¬leadsTo bN r:=by
 refine⟨⟨b7 U h1 Φ,b7 V h1 Φ,b7 W h1 Φ⟩,λr X=>?_,λr X=>?_⟩
 .obtain⟨rfl,c,J⟩:=di U X;exact⟨b7 V J Φ,b7 W J Φ⟩
 .obtain⟨rfl,c,J⟩:=di V X;exact⟨b7 U J Φ,b7 W J Φ⟩
theorem pk {A:ai} {t:aC} {i:Nat} {x:Int} (h:cD w ag A t) (bM:y=(i:Int)) (aF:i<t.cells.length) (aZ:iA t):aj x3 wr [Γ ag,Δ y,Δ x] w λv w'=>v=Δ 0/\ ∃X,Grow A w X w'/\cD w' ag X (t.set i x):=by
 subst bM;obtain⟨c,aq⟩:∃c,t.cells[i]? =σ c:=⟨_,y0 aF⟩;refine aA func73 ?_;rw[cA iR.u];simp only[j6,aQ];refine (An h).mono ?_;rintro _ U _ ⟨rfl,ay⟩;rw[decide_eq_true Ω,bg,Y1,aQ];obtain⟨bp,aB,go,a8,aJ,aG,bN,h1,bq,a1,aO,aR⟩:=id (h.ext ay);have bO:∀ {W:x2} {X:ai} {ab:aC} {st:Nat} {K:x2->Prop},cD W ag X ab->ab.cells[i]? =σ ⟨c.v,st⟩->
   (∀Y,af X W Y->cD Y ag X {ab with cells:=ab.cells.set i ⟨x,st⟩}->K Y)->
   (J x3 (aX (Γ ag)) W λt77=>
   J x3 (x7 cB t77 0) W λbQ=>
   J x3 (x5 fJ bQ) W λbR=>
   J x3 (n0 fJ bR (Δ (i:Int))) W λbS=>
   J x3 (x7 dB bS 0) W λbT=>
   az x3 (o4 an bT (Δ x)) W λ(_:Unit) Y=>
   K Y):=by
  intro W X ab st K a2 aS bU;obtain⟨a7,aB,go,a8,aJ,aG,bN,au,av,aH,aI,aK⟩:=a2;have bV:=(x4.1 aS).1;rw[aw,aa cB.p rfl,ac Ψ (au.cell (o:=0+0) rfl),cO rfl fJ.u dB.i av bV,aa dB.p rfl];obtain⟨⟨aL,ba,bb⟩,ax,_⟩:=nJ au av aH aI;refine ny (f:=fP) (j:=0) (a:=⟨c.v,st⟩) (a':=⟨x,st⟩) an.i rfl rfl av aS rfl Ω λY al bW bX=>?_;exact bU Y (al.mono λr _ I=>aK r (.inl I)) ⟨a7,aB,go,a8,aJ,aG,bN,au.V al aL,bX,aH.V al λr I he=>(ax r he).1 I,aI.V al λr I he=>(ax r he).2 I,aK⟩
 refine dt (λW=>∃X ab st,Grow A U X W/\cD W ag X ab/\ab.cells[i]? =σ ⟨c.v,st⟩/\t.set i x={ab with cells:=ab.cells.set i ⟨x,st⟩}) ?_ ?_
 .rintro W ⟨X,ab,st,bY,a2,aS,bc⟩;refine bO a2 aS λY al a1=>⟨by trivial,X,?_,by rw[bc];exact a1⟩;exact (Grow.ext ay).trans (bY.trans ⟨al,λ_ h=>.inl h,λ_ h=>h⟩)
 intro cj bd;rw[aw,aa cB.p rfl,ac Ψ (h1.cell (o:=0+2) rfl),dc hs.u aO,bP,ad];have br:∀ (hm:t.marks.getLast? =ν\/ ∃m,t.marks.getLast? =σ m/\¬(c.st<m.st/\i<m.cells)),t.set i x={t with cells:=t.cells.set i ⟨x,c.st⟩}:=λhm=>by
  unfold aC.set;rw[aq];rcases hm with hm|⟨m,hm,bZ⟩
  .simp only[hm]
  .simp only[hm];rw[if_neg bZ]
 refine⟨λck=>?_,λcl=>bd _ ⟨A,t,c.st,Grow.refl _ _,h.ext ay,aq,br (.inl ?_)⟩⟩
 rotate_left
 .rw[List.getLast?_eq_none_iff];exact Z2 Ω
 obtain⟨m,hm⟩:∃m,t.marks[t.marks.length-1]? =σ m:=⟨_,y0 Ω⟩;have bu:t.marks.getLast? =σ m:=by rw[List.getLast?_eq_getElem?];exact hm
 have cm:=aZ.2.2;rw[aw,aa cB.p rfl,ac Ψ (h1.cell (o:=0+2) rfl),cX,wrap_i64 Ω Ω,cO (i:=t.marks.length-1) Ω hs.u dn.i aO Ω,bn dn.p dn.i rfl (aO.range hm)];refine bt dn.i λam W cn bw b0=>?_;refine bJ (vs:=gR m) dn.i rfl rfl (by intro v aM;simp[gR] at aM;rcases aM with rfl|rfl|rfl <;> rfl) b0 λY al bW b1=>?_;have bx:Ext U Y:=bw.then al (λr I he=>by have he:r=am:=he;omega);have aT:∀ {w':x2},Ext Y w'->ae w' am dn (gR m):=λay=>b1.ext ay;refine aP (λv be=>v= .bool (decide (c.st<m.st/\i<m.cells))/\Ext Y be) ?_ ?_
 rotate_left
 .intro cp bz;intro be ah _ _;have aD:=bx.trans ah;have bA:=aT ah;have aE:=bq.ext aD;rw[aw,aa cB.p rfl,ac Ψ ((h1.ext aD).cell (o:=0+0) rfl),cO rfl fJ.u dB.i aE aF,aa dB.p rfl,ac Ψ (aE.range aq 1 _ rfl),aa dn.p rfl,ac Ψ (bA.cell (o:=0+2) rfl),ao,ad];refine⟨λbB=>?_,λbC=>bz _ _ ⟨by rw[decide_eq_false];omega,ah⟩⟩;rw[aa dn.p rfl,ac Ψ (bA.cell (o:=0+1) rfl),ao];refine bz _ _ ⟨?_,ah⟩;congr 1;rw[V8,decide_eq_true_eq,decide_eq_true_eq];exact⟨λh=>⟨Ω,Ω⟩,λh=>Ω⟩
 rintro _ be ⟨rfl,ah⟩;have aD:=bx.trans ah;rw[ad];refine⟨λbB=>?_,λbC=>bd _ ⟨A,t,c.st,Grow.ext aD,(h.ext ay).ext aD,aq,br (.inr ⟨m,bu,bC⟩)⟩⟩;intro cq aU _ _;have aN:=aD.trans aU;have bf:=h1.ext aN;have aE:=bq.ext aN;have b2:=a1.ext aN;have b3:=aO.ext aN;rw[aw,aa cB.p rfl,ac Ψ (bf.cell (o:=0+1) rfl),aw,aa cB.p rfl,ac Ψ (bf.cell (o:=0+0) rfl),cO rfl fJ.u dB.i aE aF,bn dB.p dB.i rfl (aE.range aq)];rw[cR (cs:=#[Δ (i:Int),Δ c.v,.int .u64 (c.st:Int)]) Ψ];let a:iV:=⟨i,c⟩;have b4:∀u∈hL a,u.oneCell'=true:=by intro v aM;simp[hL] at aM;rcases aM with rfl|rfl|rfl <;> rfl
 refine fM (f:=hL) (a:=a) gu.u fa.i Ω rfl rfl λcr ct bD cu ak b5=>?_;refine⟨.inl ak,?_⟩;have bE:=aN.trans ak;have bh:=bf.ext ak;have bF:=aE.ext ak;have bi:=b2.ext ak;have bG:=b3.ext ak;obtain⟨⟨aL,ba,bb⟩,ax,b6⟩:=nJ bh bF bi bG;refine gd (f:=hL) (a:=a) gu.u fa.i rfl bi (by simpa using b5.sl) b4 (by have:=aZ.2.1;omega) (by have:=aZ.2.1;omega) λbk bH cw aV b8 bI=>?_;rw[aw,aa cB.p rfl];have bK:=bh.V bI ba;refine bj gu.i (cP aV.sl).1 (cP aV.sl).2 bK Ξ λap bL cz bl=>?_;have bl:ae ap ag cB [aJ,bk,bN,.int .u64 (t.ever:Int)]:=bl;have aW:af (λr=>leadsTo aG r\/r=ag) bD ap:=(bI.mono λr _ h=>.inl h).trans (bL.mono λr _ h=>.inr h);have b9:a6 fP 2 dB ap aB aJ t.cells:=bF.V aW λr I he=>he.elim (λhe=>(ax r I).1 he) λhe=>aL (he▸I);have ca:a6 gR 3 dn ap a8 bN t.marks:=bG.V aW λr I he=>he.elim (λhe=>(b6 r he).2 I) λhe=>bb (he▸I);have cb:a6 hL 3 fa ap bH bk (t.olds++[a]):=aV.V bL λr I he=>by
  have he:r=ag:=he;subst he;exact b7 aV bK Φ I
 have cC:=bE.size;have cE:=bw.size;let bm:ai:=λr=>A r\/bD.heap.size<=r;have cc:Grow A U bm ap:=⟨(bE.V A).trans (aW.mono λr _ he=>he.elim (λhe=>aR r (.inr (.inl he))) λhe=>he▸bp),λr I=>I.imp id λI=>Ω,λr I=>.inl I⟩;have cd:cD ap ag bm {t with olds:=t.olds++[a]}:=⟨.inl bp,aB,bH,a8,aJ,bk,bN,bl,b9,cb,ca,λr I=>by
  rcases I with I|I|I
  .exact .inl (aR r (.inl I))
  .rcases b8 r I with h|h
   .exact .inl (aR r (.inr (.inl h)))
   .exact .inr h
  .exact .inl (aR r (.inr (.inr I)))⟩
 have ce:ae ap am dn (gR m):=(aT ((ah.trans aU).trans ak)).V aW λhe=>by
  rcases he with he|he
  .obtain⟨rfl,cF,cg⟩:=di bi he;exact absurd (eu cg (aT ((ah.trans aU).trans ak))) Φ
  .subst he;exact absurd (eu bh (aT ((ah.trans aU).trans ak))) Φ
 intro cG bo _ _;have ch:=cd.ext bo;obtain⟨a7,aB,go,a8,aJ,aG,bN,au,av,aH,aI,aK⟩:=ch;rw[aw,aa cB.p rfl,ac Ψ (au.cell (o:=0+0) rfl),aa dn.p rfl,ac Ψ ((ce.ext bo).cell (o:=0+2) rfl),cO rfl fJ.u dB.i av aF,aa dB.p rfl];obtain⟨⟨aL,ba,bb⟩,ax,_⟩:=nJ au av aH aI;refine ny (f:=fP) (j:=1) (a:=c) (a':=⟨c.v,m.st⟩) eo.i rfl rfl av aq rfl Ω λcH aY cI ci=>?_;have bc:t.set i x={t with olds:=t.olds++[a],cells:=t.cells.set i ⟨x,m.st⟩}:=by
  unfold aC.set;rw[aq];simp only[bu];rw[if_pos bB]
 refine bd _ ⟨bm,{t with olds:=t.olds++[a],cells:=t.cells.set i ⟨c.v,m.st⟩},m.st,cc.trans ((Grow.ext bo).trans ⟨aY.mono λr _ I=>aK r (.inl I),λ_ h=>.inl h,λ_ h=>h⟩),⟨a7,aB,go,a8,aJ,aG,bN,au.V aY aL,ci,aH.V aY λr I he=>(ax r he).1 I,aI.V aY λr I he=>(ax r he).2 I,aK⟩,?_,?_⟩
 .show (t.cells.set i _)[i]? =_;rw[V5 aF]
 .rw[bc];simp only[List.set_set]
theorem Ao (n:Nat):du (#[Δ 0,.int .u64 0]:Array x1) (n*2)=(o6 n (⟨0,0⟩:Cell)).flatMap fP:=by
 have:∀n,du (#[Δ 0,.int .u64 0]:Array x1) (n*2)=(o6 n (⟨0,0⟩:Cell)).flatMap fP:=by
  intro n;apply X6;intro j;have V:((o6 n (⟨0,0⟩:Cell)).flatMap fP).length=n*2:=by simp[fP]
  by_cases J:j<n*2
  .have U:(du (#[Δ 0,.int .u64 0]:Array x1) (n*2))[j]? =σ (if j % 2=0 then Δ 0 else .int .u64 0):=by
    unfold du;rw[S3,Array.getElem?_map,Array.getElem?_range,if_pos J];rcases Nat.mod_two_eq_zero_or_one j with h|h <;> simp[h]
   have I:=mg (f:=fP) (k:=2) (L:=o6 n (⟨0,0⟩:Cell)) (i:=j / 2) (j:=j % 2) (a:=⟨0,0⟩) (v:=if j % 2=0 then Δ 0 else .int .u64 0) (λa _=>rfl) (by rw[List.getElem?_replicate,if_pos Ω]) (by rcases Nat.mod_two_eq_zero_or_one j with h|h <;> simp[h,fP]);rw[show j / 2*2+j % 2=j by omega] at I;rw[U,I]
  .rw[Y4 (by rw[m7];omega),Y4 Ω]
 exact this n
theorem JD {A:ai} {t:aC} (h:cD w ag A t) (aH:iA t) (aO:n<=100000000):aj x3 DR [Γ ag,Δ (n:Int)] w λv w'=>v=Δ (t.cells.length:Int)/\ ∃W,Grow A w W w'/\cD w' ag W (t.grow n):=by
 refine aA func192 ?_;refine (Am h).mono ?_;rintro _ U _ ⟨rfl,X⟩;refine dt (λJ=>∃W,Grow A w W J/\cD J ag W (t.grow n)) (λJ h=>⟨rfl,h⟩) ?_;intro aQ an;refine aP (λv J=>v= .bool (decide (0<n))/\U=J) ?_ ?_
 rotate_left
 .intro aR aI;rw[w2 iR.u];simp only[j6,X4,bO];rw[bP];refine aI _ _ ⟨?_,rfl⟩;congr 1;rw[V8,decide_eq_true_eq,decide_eq_true_eq];omega
 rintro _ _ ⟨rfl,rfl⟩;rw[ad];refine⟨λao=>?_,λao=>an _ ⟨A,Grow.ext X,?_⟩⟩
 rotate_left
 .have:n=0:=Ω
  subst this;have e:t.grow 0=t:=by unfold aC.grow;simp
  rw[e];exact h.ext X
 obtain⟨ap,aS,go,a8,aJ,aq,bN,h1,au,av,ax,Y⟩:=id (h.ext X);rw[aw,aa cB.p rfl,ac Ψ (h1.cell (o:=0+0) rfl)];obtain⟨⟨aK,aL,aM⟩,ay,aT⟩:=nJ h1 au av ax;have aU:=aH.1;refine JB (k:=2) (m:=n) rfl fJ.u ab.u dB.i rfl Ω (λu hu=>?_) au.1 ao Ω Ω λak az J aB aN aD=>?_
 .exact z7 Φ Φ u hu
 rw[aw,aa cB.p rfl];have ah:a6 fP 2 dB J az ak (t.cells++o6 n ⟨0,0⟩):=by
  refine⟨?_,λ_ _=>rfl⟩;have e:(x1.agg #[Δ 0,.int .u64 0]).cells= #[Δ 0,.int .u64 0]:=rfl;rw[e,Ao] at aB;rw[r8,List.length_replicate,List.flatMap_append];exact aB
 have aE:=h1.V aD aK;refine bj fJ.i (cP ah.sl).1 (cP ah.sl).2 aE Ξ λaF aG aV al=>?_;have al:ae aF ag cB [ak,aq,bN,.int .u64 (t.ever:Int)]:=al;have am:af (λr=>leadsTo aJ r\/r=ag) U aF:=(aD.mono λr _ h=>.inl h).trans (aG.mono λr _ h=>.inr h);have z:=X.size;refine an _ ⟨λr=>A r\/U.heap.size<=r,(Grow.ext X).trans ⟨am.mono λr _ he=>he.elim (λhe=>Y r (.inl he)) λhe=>he▸ap,λr I=>I,λr I=>.inl I⟩,.inl ap,az,go,a8,ak,aq,bN,al,ah.V aG λr I he=>?_,av.V am λr I he=>he.elim (λhe=>(ay r he).1 I) λhe=>aL (he▸I),ax.V am λr I he=>he.elim (λhe=>(ay r he).2 I) λhe=>aM (he▸I),λr I=>?_⟩
 .have he:r=ag:=he;subst he;exact b7 ah aE Φ I
 .rcases I with I|I|I
  .exact (aN r I).imp (λh=>Y r (.inl h)) id
  .exact .inl (Y r (.inr (.inl I)))
  .exact .inl (Y r (.inr (.inr I)))
theorem JE (aa:n<=1000):aj x3 Dj [Δ (n:Int)] w λv w'=>Ext w w'/\ ∃ag,v=Γ ag/\cD w' ag (et w.heap.size) ⟨o6 n ⟨0,0⟩,[],[],0⟩:=by
 refine aA func127 ?_;rw[qy,Int.max_eq_left Ω];refine w9 (k:=2) fJ.u dB.i Ω Ω λg U ab V J=>?_;rw[cR (cs:=#[.slice (σ ⟨g,0,ν⟩) n n,.slice ν 0 0,.slice ν 0 0,.int .u64 0]) Ψ];refine bM λag ac ad W Y=>?_;have af:=V.size;have e:(x1.agg #[Δ 0,.int .u64 0]).cells= #[Δ 0,.int .u64 0]:=rfl;have J:ae U g dB ((o6 n (⟨0,0⟩:Cell)).flatMap fP):=by rw[<-Ao,<-e];exact J
 have X:a6 fP 2 dB U g (.slice (σ ⟨g,0,ν⟩) n n) (o6 n ⟨0,0⟩):=by
  refine⟨?_,λ_ _=>rfl⟩;rw[List.length_replicate];exact bQ.full J (by simp[fP]) (by simp[maxLen];omega)
 refine⟨V.trans W,ag,rfl,by show w.heap.size<=ag;omega,g,0,0,_,_,_,Y,X.ext W,a6.nil _ _ _ _ _,a6.nil _ _ _ _ _,λr I=>?_⟩;rcases I with I|I|I
 .have:=(X.leads I).1;show w.heap.size<=r;omega
 .exact (eF I).elim
 .exact (eF I).elim
theorem lW {α β:Type} {f:α->List β}:∀ {L:List α} {i j:Nat} {a:α},L[i]? =σ a->j<(f a).length->(L.flatMap f)[((L.take i).flatMap f).length+j]? =(f a)[j]?
 |x::L,0,j,a,h,I=>by
  cases h;rw[List.take_zero,List.flatMap_nil,List.length_nil,V1,V6,j0 I]
 |x::L,i+1,j,a,h,I=>by
  have h:L[i]? =σ a:=by simpa using h
  rw[List.take_succ_cons,V6,V6,r8,S7,Z1 Ω,S8,lW h I]
theorem ub {α β:Type} {f:α->List β}:∀ {L:List α} {i j:Nat} {a b:α} {x:β},L[i]? =σ a->j<(f a).length->f b=(f a).set j x->(L.flatMap f).set (((L.take i).flatMap f).length+j) x=(L.set i b).flatMap f
 |y::L,0,j,a,b,x,h,I,J=>by
  cases h;rw[List.take_zero,List.flatMap_nil,List.length_nil,V1,V6,List.set_cons_zero,V6,J,List.set_append_left _ _ I]
 |y::L,i+1,j,a,b,x,h,I,J=>by
  have h:L[i]? =σ a:=by simpa using h
  rw[List.take_succ_cons,V6,V6,r8,S7,U6 _ _ Ω,S8,ub h I J,List.set_cons_succ,V6]
theorem Ap {α β:Type} {f:α->List β} {L:List α} {i:Nat} {a:α} (h:L[i]? =σ a) (I:j<(f a).length):((L.take i).flatMap f).length+j<(L.flatMap f).length:=by
 have h1:=lW (f:=f) h I;rw[y0 I] at h1;exact (x4.1 h1).1
structure fQ where
 gone:Int
 mask:Int
 un:List Int
structure ev where
 sc:List Int
 szs:List Int
 live:Int
 cs:List Int
structure hM where
 v:Int
 sc:List Int
 ec:List Int
structure aF where
 zero:Int
 vars:List fQ
 funs:List ev
 elims:List hM
def gD (x:fQ):List Int:=x.gone::x.mask::x.un
def fR (x:ev):List Int:=x.live::x.cs
def hl (s:aF):List Int:=[s.zero,(s.funs.length:Int),(s.elims.length:Int)]
def aF.cells (s:aF):List Int:=hl s++(s.vars.flatMap gD++s.funs.flatMap fR)
def eT (s:aF) (i:Nat):Nat:=3+((s.vars.take i).flatMap gD).length
def dT (s:aF) (j:Nat):Nat:=3+((s.vars.flatMap gD).length+((s.funs.take j).flatMap fR).length)
theorem JF (s:aF):s.cells[0]? =σ s.zero:=rfl
theorem JG (s:aF):s.cells[1]? =σ (s.funs.length:Int):=rfl
theorem JH (s:aF):s.cells[2]? =σ (s.elims.length:Int):=rfl
theorem pm {s:aF} {i:Nat} {x:fQ} (h:s.vars[i]? =σ x) (J:j<x.un.length+2):s.cells[eT s i+j]? =(gD x)[j]?:=by
 have I:j<(gD x).length:=J;unfold aF.cells eT;rw[S7,Z1 (by simp[hl]),show (hl s).length=3 from rfl,S8,j0 (Ap h I),lW h I]
theorem uc {s:aF} {i:Nat} {x:ev} (h:s.funs[i]? =σ x) (I:j<x.cs.length+1):s.cells[dT s i+j]? =(fR x)[j]?:=by
 have J:j<(fR x).length:=I;unfold aF.cells dT;rw[S7,S7,Z1 (by simp[hl]),show (hl s).length=3 from rfl,S8,Z1 Ω,S8,lW h J]
theorem JI (s:aF) (c:Int):s.cells.set 0 c=({s with zero:=c}:aF).cells:=rfl
theorem ud {s:aF} {i:Nat} {x y:fQ} {c:Int} (h:s.vars[i]? =σ x) (J:j<x.un.length+2) (U:gD y=(gD x).set j c):s.cells.set (eT s i+j) c=({s with vars:=s.vars.set i y}:aF).cells:=by
 have I:j<(gD x).length:=J;unfold aF.cells eT;rw[S7,U6 _ _ (by simp[hl]),show (hl s).length=3 from rfl,S8,List.set_append_left _ _ (Ap h I),ub h I U];rfl
theorem Aq {s:aF} {i:Nat} {x y:ev} {c:Int} (h:s.funs[i]? =σ x) (I:j<x.cs.length+1) (J:fR y=(fR x).set j c):s.cells.set (dT s i+j) c=({s with funs:=s.funs.set i y}:aF).cells:=by
 have U:j<(fR x).length:=I;unfold aF.cells dT;rw[S7,S7,U6 _ _ (by simp[hl]),show (hl s).length=3 from rfl,S8,U6 _ _ Ω,S8,ub h U J];show _=hl {s with funs:=s.funs.set i y}++_;unfold hl;rw[X1]
theorem JJ {s:aF} (x:ev):(s.cells++fR x).set 1 ((s.funs.length+1:Nat):Int)=({s with funs:=s.funs++[x]}:aF).cells:=by
 unfold aF.cells;simp only[List.flatMap_append,List.flatMap_singleton,hl,r8,T1,V9];rfl
theorem JK {s:aF} (e:hM):s.cells.set 2 ((s.elims.length+1:Nat):Int)=({s with elims:=s.elims++[e]}:aF).cells:=by
 unfold aF.cells;simp only[hl,r8,T1];rfl
theorem pn (s:aF):s.cells.length=3+((s.vars.flatMap gD).length+(s.funs.flatMap fR).length):=by
 unfold aF.cells;rw[r8,r8];rfl
def kF (a sc:List Int):List Int:=sc.map λv=>a.getD v.toNat 0
def mo (k:Int) (I:Int) (p:fQ×Int):Int:=if p.1.gone≠0 then I else min (I+p.1.un.getD p.2.toNat 0) k
def kG (k:Int) (a:List Int) (I:Int) (f:ev):Int:=if f.live≠0 then min (I+cW f.szs f.cs (kF a f.sc)) k else I
def dropped (mask:Int) (v:Int):Bool:=mask.toNat.testBit v.toNat
def iB (p:fQ×Int):Bool:=decide (p.1.gone≠0)|| !dropped p.1.mask p.2
def nK (k:Int) (s:aF) (a:List Int):Int:=if (s.vars.zip a).all iB then s.funs.foldl (kG k a) ((s.vars.zip a).foldl (mo k) s.zero) else k
def po (s:aF) (a:List Int):Prop:=a.length=s.vars.length/\ ∀ (i:Nat) x v,s.vars[i]? =σ x->a[i]? =σ v->x.gone≠0\/(0<=v/\v<x.un.length)
structure eN (k:Int) (sizes:List Int) (s:aF):Prop where
 jM:1<=k/\k<=2147483648
 e5:1<=sizes.length/\sizes.length<=64/\ ∀z∈sizes,1<=z/\z<=32
 zero:0<=s.zero/\s.zero<=k
 vars:s.vars.length=sizes.length
 var:∀ (i:Nat) x z,s.vars[i]? =σ x->sizes[i]? =σ z->x.un.length=z.toNat/\(∀c∈x.un,0<=c/\c<=k)/\0<=x.mask/\x.mask<4294967296
 funs:∀f∈s.funs,e3 sizes k (f.sc,f.cs)/\f.szs=bD sizes f.sc/\2<=f.sc.length
def newVar (u:List Int):fQ:=⟨0,0,u⟩
def jc (sizes:List Int) (g:ct):ev:=⟨g.1,bD sizes g.1,1,g.2⟩
def dU (n:aV):aF:=⟨n.zero,n.unary.map newVar,n.funs.map (jc n.sizes),[]⟩
theorem JL {n:aV} (h:iy n):eN n.k n.sizes (dU n):=by
 refine⟨h.k,h.sizes,h.zero,by simp[dU,h.jb],λi x z I U=>?_,λf V=>?_⟩
 .have I:(n.unary.map newVar)[i]? =σ x:=I;rw[x8] at I;obtain⟨u,hu,rfl⟩:=Y8.1 I;obtain⟨h1,J⟩:=h.unary i z u U hu;exact⟨h1,J,Int.le_refl _,by show (0:Int)<_;omega⟩
 .obtain⟨g,W,rfl⟩:=Z5.1 V;obtain⟨h1,J⟩:=h.funs g W;exact⟨h1,rfl,J⟩
theorem ue {n:aV} (h:fi w I n):aj x3 Dl [Γ I] w λv w'=>v=Δ (n.sizes.length:Int)/\Ext w w':=by
 obtain⟨V,W,X,Y,ab,aT,L,ad,au,ae,af,h1,J,U,ag,ai,ak,al⟩:=h;refine aA func129 ?_;rw[cA k3.u];simp only[j6,aQ];rw[aw,aa e9.p rfl,ac Ψ (h1.cell (o:=0+0) rfl),aw,aa cp.p rfl,ac Ψ (J.cell (o:=0+2) rfl),aS ah.u U.ls];exact⟨rfl,Ext.refl _⟩
theorem JM {n:aV} (h:fi w I n):aj x3 Dv [Γ I] w λv w'=>v=Δ n.k/\Ext w w':=by
 obtain⟨U,V,W,X,Y,aT,L,ab,au,ad,ae,h1,J,af,ag,ah,ai,ak⟩:=h;refine aA func145 ?_;rw[cA k3.u];simp only[j6,aQ];rw[aw,aa e9.p rfl,ac Ψ (h1.cell (o:=0+0) rfl),aw,aa cp.p rfl,ac Ψ (J.cell (o:=0+1) rfl)];exact⟨rfl,Ext.refl _⟩
theorem JN {n:aV} (h:fi w I n):aj x3 Dk [Γ I] w λv w'=>v=Δ n.zero/\Ext w w':=by
 obtain⟨J,U,V,W,X,aT,L,Y,au,ab,ad,h1,ae,af,ag,ah,ai,ak⟩:=h;refine aA func128 ?_;rw[cA k3.u];simp only[j6,aQ];rw[aw,aa e9.p rfl,ac Ψ (h1.cell (o:=0+1) rfl)];exact⟨rfl,Ext.refl _⟩
theorem Ar {n:aV} (h:fi w I n):aj x3 wD [Γ I] w λv w'=>v=Δ (n.funs.length:Int)/\Ext w w':=by
 obtain⟨V,W,X,Y,ab,aT,L,ad,au,ae,af,h1,ag,ah,ai,ak,J,U⟩:=h;refine aA func132 ?_;rw[cA k3.u];simp only[j6,aQ];rw[aw,aa e9.p rfl,ac Ψ (h1.cell (o:=0+3) rfl),dc ju.u J.1];exact⟨by rw[<-U,u5],Ext.refl _⟩
theorem As {Y:Nat} {n:aV} {i:Int} (h:fi w Y n) (J:iy n):aj x3 Dm [Γ Y,Δ i] w λv w'=>Ext w w'/\(¬(0<=i/\i<n.sizes.length)->v= .slice ν 0 0)/\
  ∀u,0<=i->n.unary[i.toNat]? =σ u-> ∃g,w.heap.size<=g/\aq .i64 an w' g v u:=by
 refine aA func130 ?_;have ap:=J.jb;refine aP (λv U=>v= .bool (decide (¬(0<=i/\i<n.sizes.length)))/\Ext w U) ?_ ?_
 .rintro _ U ⟨rfl,I⟩;rw[ad];refine⟨λah=>⟨I,λ_=>rfl,λu ai hu=>?_⟩,λV=>?_⟩
  .have:=(x4.1 hu).1;exact absurd ⟨ai,Ω⟩ ah
  have V:0<=i/\i<n.sizes.length:=X2.1 V;obtain⟨av,ay,az,aB,aC,aT,L,aD,au,aE,aF,h1,aG,aH,W,ab,aI,aJ⟩:=h.ext I;have aK:aT.length=n.unary.length:=by rw[<-ab,u5]
  obtain⟨a,X⟩:∃a,aT[i.toNat]? =σ a:=⟨_,y0 Ω⟩;obtain⟨aL,hm⟩:=W.2 a (x6 X);rw[aw,aa e9.p rfl,ac Ψ (h1.cell (o:=0+2) rfl),cO (i:=i.toNat) Ω dF.u ax.i W.1 Ω,ac (o:=i.toNat*1) Ψ (W.1.range X 0 _ rfl)];have ae:n.unary[i.toNat]? =σ a.l:=by rw[<-ab,x8,X];rfl
  have aM:a.l.length<=32:=by
   obtain⟨z,af⟩:∃z,n.sizes[i.toNat]? =σ z:=⟨_,y0 Ω⟩;have aN:=(J.unary i.toNat z a.l af ae).1;have aO:=J.sizes.2.2 z (x6 af);omega
  refine (sW hm.ls Ω).mono ?_;rintro v aQ _ ⟨ak,g,aR,al⟩;refine⟨I.trans ak,λam=>absurd V am,λu _ hu=>⟨g,by have:=I.size;omega,?_⟩⟩;rw[ae] at hu;cases hu;exact al
 .intro aS ag;rw[ao,ad];refine⟨λaU=>ag _ _ ⟨by rw[decide_eq_true];omega,Ext.refl _⟩,λaW=>?_⟩;refine (ue h).mono ?_;rintro _ U _ ⟨rfl,I⟩;rw[cb];refine ag _ _ ⟨?_,I⟩;congr 1;rw[V8,decide_eq_true_eq,decide_eq_true_eq];omega
theorem rA {W:Nat} {n:aV} {i:Int} (h:fi w W n) (I:iy n):aj x3 C5 [Γ W,Δ i] w λv w'=>Ext w w'/\v=Δ (if 0<=i then n.sizes.getD i.toNat 0 else 0):=by
 refine aA func77 ?_;refine (As h I).mono ?_;rintro v U _ ⟨X,aa,ab⟩;by_cases J:0<=i/\i<n.sizes.length
 .have ac:=I.jb;obtain⟨u,hu⟩:∃u,n.unary[i.toNat]? =σ u:=⟨_,y0 Ω⟩;obtain⟨z,V⟩:∃z,n.sizes[i.toNat]? =σ z:=⟨_,y0 Ω⟩;obtain⟨g,_,hm⟩:=ab u J.1 hu;rw[aS ax.u hm.ls];refine⟨X,?_⟩;have ad:=(I.unary i.toNat z u V hu).1;have ae:=I.sizes.2.2 z (x6 V);rw[if_pos J.1,u4,V];congr 1;simp only[S1];omega
 .rw[aa J,gv ax.u];refine⟨X,?_⟩;by_cases Y:0<=i
  .rw[if_pos Y,u4,Y4 Ω];rfl
  .rw[if_neg Y];rfl
theorem Au {n:aV} {j:Int} (h:fi w I n) {K:x1->x2->Prop} (V:∀w',Ext w w'->K (.bool (decide (¬(0<=j/\j<n.funs.length)))) w'):
  J x3 (aB .lss ab false true (Δ j) (Δ 0)) w λX=>Split X (K (.bool true) w) (aj x3 wD [Γ I] w λY W=>J x3 (aB .geq ab false false (Δ j) Y) W λaa=>K aa W):=by
 rw[ao,ad];refine⟨λae=>?_,λaf=>?_⟩
 .have:=V w (Ext.refl _);rw[decide_eq_true (show ¬(0<=j/\j<n.funs.length) by omega)] at this;exact this
 .refine (Ar h).mono ?_;rintro _ U _ ⟨rfl,ac⟩;rw[cb];have:=V U ac;have e:decide ((n.funs.length:Int)<=j)=decide (¬(0<=j/\j<n.funs.length)):=by
   rw[V8,decide_eq_true_eq,decide_eq_true_eq];omega
  rw[<-e] at this;exact this
theorem JO {n:aV} {g:ct} (h:fi w X n) (ae:iy n) (I:n.funs[j]? =σ g):aj x3 Do [Γ X,Δ (j:Int)] w λv w'=>Ext w w'/\ ∃gs,w.heap.size<=gs/\aq .i64 ab w' gs v g.1:=by
 refine aA func134 ?_;have ak:=(x4.1 I).1;refine aP (λv U=>v= .bool (decide (¬(0<=(j:Int)/\(j:Int)<n.funs.length)))/\Ext w U) ?_ λal af=>Au h λw' ag=>af _ _ ⟨rfl,ag⟩;rintro _ U ⟨rfl,J⟩;rw[decide_eq_false Ω,aQ];obtain⟨am,an,ao,ap,av,aT,L,ax,au,ay,az,h1,aB,aC,aD,aE,V,Y⟩:=h.ext J;have aF:L.length=n.funs.length:=by rw[<-Y,u5]
 obtain⟨a,W⟩:∃a,L[j]? =σ a:=⟨_,y0 Ω⟩;have ad:dE a=g:=by rw[<-Y,x8,W] at I;exact Z6 I
 obtain⟨⟨aG,hm⟩,_⟩:=V.2 a (x6 W);rw[aw,aa e9.p rfl,ac Ψ (h1.cell (o:=0+3) rfl),cO rfl ju.u gX.i V.1 Ω,aa gX.p rfl,ac Ψ (V.1.range W 0 _ rfl)];have aH:a.sc.length<=6:=by
  have:=(ae.funs g (x6 I)).1.scope.2;rw[<-ad] at this;exact this
 refine (hA hm.ls Ω).mono ?_;rintro v aI _ ⟨ah,gs,aJ,ai⟩;refine⟨J.trans ah,gs,by have:=J.size;omega,?_⟩;rw[<-ad];exact ai
theorem JP {g ai:Nat} (h:cM w g ai sv szs k cs):aj x3 DS [Γ g] w λv w'=>Ext w w'/\ ∃J V,v=Γ J/\w.heap.size<=J/\w.heap.size<=V/\cM w' J V sv szs k cs:=by
 obtain⟨⟨aJ,gs,ak,hm,al⟩,⟨h1,ap,am⟩,I,ae⟩:=h;refine aA func193 ?_;rw[cA eg.u];simp only[j6,aQ];intro U W _ _;have Y:=ak.ext W;have aq:=prod_bound I;rw[aw,aa cQ.p rfl,bn (cs:=[sv]) bo.p bo.i rfl (l1 Y (by
  intro j v ab
  match j,ab with
  |0,ab=>exact ab)),aw,aa cQ.p rfl,ac Ψ (Y.cell (o:=0+1) rfl),aw,aa cQ.p rfl,ac Ψ (Y.cell (o:=0+2) rfl)]
 refine (sW (al.ls.ext W) Ω).mono ?_;rintro af au _ ⟨ad,V,av,X⟩;refine⟨.inl ad,?_⟩;rw[cR (cs:=#[sv,Δ k,af]) (by obtain⟨_,_,_,rfl⟩:=b0 hm.ls;obtain⟨_,_,_,rfl⟩:=b0 X.ls;kernel_rfl)];refine bM λJ ax ay ag an=>?_;have az:=W.size;have aB:=ad.size;have aC:=X;have ah:=(W.trans ad).trans ag;refine⟨ah,J,V,rfl,Ω,Ω,⟨af,gs,an,hm.ext ah,X.ext ag⟩,⟨?_,?_,am⟩,I,ae⟩
 .have:=nG X (by rw[ae];omega);omega
 .intro ao;obtain⟨aD,aE⟩:=bA hm ao;omega
theorem JQ {w0:x2} {ad:Nat} {n:aV} {g:ct} (ae:fi w0 ad n) (af:Ext w0 w) (V:n.funs[j]? =σ g):aj x3 Dp [Γ ad,Δ (j:Int)] w λv w'=>Ext w w'/\ ∃I W sv,v=Γ I/\w.heap.size<=I/\w.heap.size<=W/\cM w' I W sv (bD n.sizes g.1) n.k g.2/\ ∀r,leads sv r->r<w0.heap.size:=by
 have h:=ae.ext af;refine aA func135 ?_;have av:=(x4.1 V).1;refine aP (λv U=>v= .bool (decide (¬(0<=(j:Int)/\(j:Int)<n.funs.length)))/\Ext w U) ?_ λax ai=>Au h λw' ak=>ai _ _ ⟨rfl,ak⟩;rintro _ U ⟨rfl,X⟩;rw[decide_eq_false Ω,aQ];have J:=af.trans X;obtain⟨ay,az,aB,aC,aD,aT,L,aE,au,aF,aG,h1,aH,aI,aJ,aK,Y,ag⟩:=ae;have aL:L.length=n.funs.length:=by rw[<-ag,u5]
 obtain⟨a,ab⟩:∃a,L[j]? =σ a:=⟨_,y0 Ω⟩;have al:dE a=g:=by rw[<-ag,x8,ab] at V;exact Z6 V
 obtain⟨_,W,am,ah⟩:=Y.2 a (x6 ab);rw[aw,aa e9.p rfl,ac Ψ ((h1.ext J).cell (o:=0+3) rfl),cO rfl ju.u gX.i (Y.1.ext J) Ω,aa gX.p rfl,ac Ψ ((Y.1.ext J).range ab 1 _ rfl)];refine (JP (ah.ext J)).mono ?_;rintro v aM _ ⟨an,I,ao,rfl,aN,aO,ap⟩;have aR:=X.size;refine⟨X.trans an,I,ao,am,rfl,Ω,Ω,?_,λr aq=>?_⟩
 .rw[<-al];exact ap
 .obtain⟨⟨_,_,_,hm,_⟩,_⟩:=ah;obtain⟨aS,aU⟩:=bA hm aq;omega
structure nL where
 ay:x1
 au:x1
 at_:Nat
def kH (x:nL):List x1:=[x.ay,x.au,Δ (x.at_:Int)]
structure mp where
 v:Int
 ay:x1
 bv:x1
def h8 (x:mp):List x1:=[Δ x.v,x.ay,x.bv]
def gE (s:aF):List Int:=(X9 s.vars.length).map λi=>(eT s i:Int)
def hN (R:ai) (w:x2) (v:x1) (l:List Int):Prop:=(∃g,aq .i64 ab w g v l)/\ ∀r,leads v r->R r
theorem hN.ls {R:ai} (h:hN R w v l):aI .i64 w v l:=by
 obtain⟨⟨g,h⟩,_⟩:=h;exact h.ls
theorem hN.V {R S:ai} (h:hN R w v l) (U:af S w w') (W:∀r,r<w.heap.size->R r->¬S r):hN R w' v l:=by
 obtain⟨⟨g,h1⟩,I⟩:=h;exact⟨⟨g,bb h1 U λr J=>W r (by obtain⟨X,Y⟩:=bA h1 J;omega) (I r J)⟩,I⟩
theorem hN.mono {R R':ai} (h:hN R w v l) (I:∀r,R r->R' r):hN R' w v l:=⟨h.1,λr J=>I r (h.2 r J)⟩
def iC (R:ai) (w:x2) (L:List nL) (s:aF):Prop:=L.length=s.funs.length/\ ∀ (j:Nat) x f,L[j]? =σ x->s.funs[j]? =σ f->hN R w x.ay f.sc/\hN R w x.au f.szs/\x.at_=dT s j
def jN (R:ai) (w:x2) (E:List mp) (s:aF):Prop:=E.length=s.elims.length/\ ∀ (j:Nat) x e,E[j]? =σ x->s.elims[j]? =σ e->x.v=e.v/\hN R w x.ay e.sc/\hN R w x.bv e.ec
theorem iC.V {R S:ai} {L:List nL} {s:aF} (h:iC R w L s) (I:af S w w') (J:∀r,r<w.heap.size->R r->¬S r):iC R w' L s:=⟨h.1,λj x f U W=>by
 obtain⟨h1,X,Y⟩:=h.2 j x f U W;exact⟨h1.V I J,X.V I J,Y⟩⟩
theorem jN.V {R S:ai} {E:List mp} {s:aF} (h:jN R w E s) (I:af S w w') (J:∀r,r<w.heap.size->R r->¬S r):jN R w' E s:=⟨h.1,λj x f U W=>by
 obtain⟨h1,X,Y⟩:=h.2 j x f U W;exact⟨h1,X.V I J,Y.V I J⟩⟩
theorem iC.mono {R R':ai} {L:List nL} {s:aF} (h:iC R w L s) (I:∀r,R r->R' r):iC R' w L s:=⟨h.1,λj x f J U=>by
 obtain⟨h1,V,W⟩:=h.2 j x f J U;exact⟨h1.mono I,V.mono I,W⟩⟩
theorem jN.mono {R R':ai} {E:List mp} {s:aF} (h:jN R w E s) (I:∀r,R r->R' r):jN R' w E s:=⟨h.1,λj x f J U=>by
 obtain⟨h1,V,W⟩:=h.2 j x f J U;exact⟨h1,V.mono I,W.mono I⟩⟩
theorem nM {a b c:x2} (h:Ext a b) (k:af S b c) (U:∀r o,a.heap[r]? =σ o->fW o=true->¬S r):Ext a c:=
 ⟨X0 h.size k.size,λr o J I=>k.a7 r o (h.a7 r o J I) I (U r o J I)⟩
theorem cD.cut {A:ai} {t:aC} (h:cD w ag A t):cD w ag (λr=>A r/\r<w.heap.size) t:=by
 obtain⟨Y,aa,go,a8,aJ,ab,bN,h1,J,U,V,ac⟩:=h;refine⟨⟨Y,h1.lt⟩,aa,go,a8,aJ,ab,bN,h1,J,U,V,λr I=>⟨ac r I,?_⟩⟩;rcases I with I|I|I
 .obtain⟨W,X⟩:=J.leads I;omega
 .obtain⟨W,X⟩:=U.leads I;omega
 .obtain⟨W,X⟩:=V.leads I;omega
def dV (w:x2) (al ag W:Nat) (J U V:x1) (A R:ai) (n:aV) (s:aF) (t:aC):Prop:=
 (A al/\(∀r,A r->¬R r)/\(∀r,R r->r<w.heap.size)/\ ∀r,A r->r<w.heap.size)/\ ∃X Y ge,∃ (L:List nL) (E:List mp) (I:ai) (w0:x2),
  ae w al bz [Γ W,Γ ag,J,U,V]/\(fi w0 W n/\Ext w0 w/\ ∀r o,w0.heap[r]? =σ o->fW o=true->R r)/\
  (cD w ag I t/\(∀r,I r->A r)/\¬I al/\ ∀r,leads J r\/leadsTo U r\/leadsTo V r->A r/\¬I r)/\aq .i64 ab w X J (gE s)/\
  (a6 kH 3 dl w Y U L/\iC R w L s)/\a6 h8 3 b8 w ge V E/\jN R w E s
theorem dV.V {S:ai} {ac:Nat} {ad ae ah:x1} {A R:ai} {n:aV} {s:aF} {t:aC} (h:dV w al ag ac ad ae ah A R n s t) (U:af S w w') (W:∀r,r<w.heap.size->A r\/R r->¬S r):dV w' al ag ac ad ae ah A R n s t:=by
 obtain⟨⟨h1,X,ay,az⟩,aA,aB,ge,L,E,aD,w0,aj,⟨aE,ak,am⟩,⟨aG,Y,aH,aa⟩,an,⟨ao,aI⟩,ap,aK⟩:=h;have z:=U.size;refine⟨⟨h1,X,λr J=>by have:=ay r J;omega,λr J=>by have:=az r J;omega⟩,aA,aB,ge,L,E,aD,w0,aj.V U (W _ aj.lt (.inl h1)),⟨aE,nM ak U λr o J aL I=>W r (by have:=ak.size;have:=(j4.1 J).1;omega) (.inr (am r o J aL)) I,am⟩,
  ⟨?_,Y,aH,aa⟩,bb an U λr J I=>W r ?_ (.inl (aa r (.inl J)).1) I,⟨ao.V U λr J I=>W r ?_ (.inl (aa r (.inr (.inl J))).1) I,aI.V U λr J h=>W r J (.inr h)⟩,ap.V U λr J I=>W r ?_ (.inl (aa r (.inr (.inr J))).1) I,aK.V U λr J h=>W r J (.inr h)⟩
 .obtain⟨aq,aM,go,a8,aJ,aN,bN,au,av,aw,ax,ab⟩:=aG;refine⟨aq,aM,go,a8,aJ,aN,bN,au.V U (W _ au.lt (.inl (Y _ aq))),av.V U λr J I=>?_,aw.V U λr J I=>?_,ax.V U λr J I=>?_,ab⟩
  .exact W r (by obtain⟨h1,X⟩:=av.leads J;omega) (.inl (Y _ (ab r (.inl J)))) I
  .exact W r (by obtain⟨h1,X⟩:=aw.leads J;omega) (.inl (Y _ (ab r (.inr (.inl J))))) I
  .exact W r (by obtain⟨h1,X⟩:=ax.leads J;omega) (.inl (Y _ (ab r (.inr (.inr J))))) I
 .obtain⟨h1,X⟩:=bA an J;omega
 .obtain⟨h1,X⟩:=ao.leads J;omega
 .obtain⟨h1,X⟩:=ap.leads J;omega
theorem dV.ext {J U W:x1} {A R:ai} {n:aV} {s:aF} {t:aC} (h:dV w al ag I J U W A R n s t) (X:Ext w w'):dV w' al ag I J U W A R n s t:=h.V (X.V λ_=>False) λ_ _ _ h=>h
theorem dV.pp {af:Nat} {ah aj ak:x1} {A R:ai} {n:aV} {s:aF} {t:aC} (h:dV w al ag af ah aj ak A R n s t):∃aa,cD w ag aa t/\ ∀Y w' ad,Grow aa w Y w'->cD w' ag Y ad-> ∃am,Grow A w am w'/\dV w' al ag af ah aj ak am R n s ad:=by
 obtain⟨⟨h1,W,an,ao⟩,aB,aD,ge,L,E,aa,w0,ap,⟨aE,aG,aq⟩,⟨aH,X,au,ab⟩,av,⟨aw,aI⟩,ax,aJ⟩:=h;refine⟨aa,aH,λay w' ad ac aK=>?_⟩;have az:=aK.cut;have U:Grow aa w (λr=>ay r/\r<w'.heap.size) w':=⟨ac.1,λr J=>ac.2.1 r J.1,λr J=>⟨ac.2.2 r J,by have:=ao r (X r J);have:=ac.1.size;omega⟩⟩;obtain⟨Y,aA⟩:∃B:ai,B=λr=>ay r/\r<w'.heap.size:=⟨_,rfl⟩;rw[<-aA] at az U;have aL:∀r,Y r->r<w'.heap.size:=λr h=>by rw[aA] at h;exact h.2
 refine⟨λr=>A r\/Y r,⟨U.1.mono λr _ J=>X r J,λr J=>?_,λr J=>.inl J⟩,⟨.inl h1,λr J ae=>?_,λr J=>?_,λr J=>?_⟩,aB,aD,ge,L,E,Y,w0,ap.V U.1 au,⟨aE,nM aG U.1 λr o J aM I=>W r (X r I) (aq r o J aM),aq⟩,
  ⟨az,λr J=>.inr J,λJ=>?_,λr J=>⟨.inl (ab r J).1,λaN=>?_⟩⟩,bb av U.1 λr J I=>(ab r (.inl J)).2 I,⟨aw.V U.1 λr J I=>(ab r (.inr (.inl J))).2 I,aI.V U.1 λr _ J I=>W r (X r I) J⟩,ax.V U.1 λr J I=>(ab r (.inr (.inr J))).2 I,aJ.V U.1 λr _ J I=>W r (X r I) J⟩
 .rcases J with J|J
  .exact .inl J
  .exact (U.2.1 r J).imp (X r) id
 .have:=an r ae;rcases J with J|J
  .exact W r J ae
  .rcases U.2.1 r J with h|h
   .exact W r (X r h) ae
   .omega
 .have:=an r J;have:=U.1.size;omega
 .rcases J with J|J
  .have:=ao r J;have:=U.1.size;omega
  .exact aL r J
 .rcases U.2.1 _ J with h|h
  .exact au h
  .have:=ap.lt;omega
 .rcases U.2.1 r aN with h|h
  .exact (ab r J).2 h
  .rcases J with J|J|J
   .obtain⟨h1,W⟩:=bA av J;omega
   .obtain⟨h1,W⟩:=aw.leads J;omega
   .obtain⟨h1,W⟩:=ax.leads J;omega
def StateM (w:x2) (al ag:Nat) (A R:ai) (n:aV) (s:aF) (t:aC):Prop:=∃I J U V,dV w al ag I J U V A R n s t
theorem StateM.V {S:ai} {A R:ai} {n:aV} {s:aF} {t:aC} (h:StateM w al ag A R n s t) (I:af S w w') (J:∀r,r<w.heap.size->A r\/R r->¬S r):StateM w' al ag A R n s t:=by
 obtain⟨U,W,X,Y,h⟩:=h;exact⟨U,W,X,Y,h.V I J⟩
theorem StateM.ext {A R:ai} {n:aV} {s:aF} {t:aC} (h:StateM w al ag A R n s t) (I:Ext w w'):StateM w' al ag A R n s t:=h.V (I.V λ_=>False) λ_ _ _ h=>h
theorem StateM.pp {A R:ai} {n:aV} {s:aF} {t:aC} (h:StateM w al ag A R n s t):∃I,cD w ag I t/\ ∀J w' U,Grow I w J w'->cD w' ag J U-> ∃V,Grow A w V w'/\StateM w' al ag V R n s U:=by
 obtain⟨W,X,Y,aa,h⟩:=h;obtain⟨I,h1,ab⟩:=h.pp;exact⟨I,h1,λJ w' U ac ad=>by
  obtain⟨V,ae,af⟩:=ab J w' U ac ad;exact⟨V,ae,W,X,Y,aa,af⟩⟩
def jd (s s':aF):Prop:=gE s'=gE s/\s'.funs.length=s.funs.length/\(∀ (j:Nat) I,s'.funs[j]? =σ I-> ∃f,s.funs[j]? =σ f/\I.sc=f.sc/\I.szs=f.szs/\dT s' j=dT s j)/\s'.elims=s.elims
theorem dV.same {J:Nat} {U V W:x1} {A R:ai} {n:aV} {s s':aF} {t:aC} (h:dV w al ag J U V W A R n s t) (I:jd s s'):dV w al ag J U V W A R n s' t:=by
 obtain⟨aH,Y,aa,ge,L,E,ab,w0,ac,ad,ae,af,⟨ah,X⟩,aj,ak⟩:=h;obtain⟨am,an,ao,ap⟩:=I;refine⟨aH,Y,aa,ge,L,E,ab,w0,ac,ad,ae,by rw[am];exact af,⟨ah,X.1.trans an.symm,λj x aq au av=>?_⟩,aj,?_⟩
 .obtain⟨f,aw,ax,ay,az⟩:=ao j aq av;rw[ax,ay,az];exact X.2 j x f au aw
 .unfold jN;rw[ap];exact ak
theorem StateM.same {A R:ai} {n:aV} {s s':aF} {t:aC} (h:StateM w al ag A R n s t) (I:jd s s'):StateM w al ag A R n s' t:=by
 obtain⟨J,U,V,W,h⟩:=h;exact⟨J,U,V,W,h.same I⟩
theorem rB {α β:Type} {f:α->List β}:∀ {L:List α} {i j:Nat} {a b:α},L[i]? =σ a->(f b).length=(f a).length->(((L.set i b).take j).flatMap f).length=((L.take j).flatMap f).length
 |[],_,_,_,_,h,_=>by simp at h
 |x::L,0,j,a,b,h,I=>by
  cases h;cases j with
  |zero=>rfl
  |succ j=>simp[I]
 |x::L,i+1,j,a,b,h,I=>by
  have h:L[i]? =σ a:=by simpa using h
  cases j with
  |zero=>rfl
  |succ j=>
   rw[List.set_cons_succ,List.take_succ_cons,List.take_succ_cons,V6,V6,r8,r8,rB h I]
theorem uf (s:aF) (c:Int):jd s {s with zero:=c}:=⟨rfl,rfl,λj f h=>⟨f,h,rfl,rfl,rfl⟩,rfl⟩
theorem pq {s:aF} {i:Nat} {x y:fQ} (I:s.vars[i]? =σ x) (U:y.un.length=x.un.length):jd s {s with vars:=s.vars.set i y}:=by
 have J:(gD y).length=(gD x).length:=by simp[gD,U]
 refine⟨?_,rfl,λj f h=>⟨f,h,rfl,rfl,?_⟩,rfl⟩
 .unfold gE;rw[show ({s with vars:=s.vars.set i y}:aF).vars.length=s.vars.length from X1];apply List.map_congr_left;intro j _;unfold eT;rw[rB I J]
 .unfold dT;have:=rB (j:=s.vars.length) I J;rw[Z0 Ξ,Z0 (o8 _)] at this;show 3+(((s.vars.set i y).flatMap gD).length+_)=_;rw[this]
theorem ug {s:aF} {i:Nat} {x y:ev} (I:s.funs[i]? =σ x) (U:y.cs.length=x.cs.length) (h1:y.sc=x.sc) (V:y.szs=x.szs):jd s {s with funs:=s.funs.set i y}:=by
 have W:(fR y).length=(fR x).length:=by simp[fR,U]
 refine⟨rfl,X1,λj f h=>?_,rfl⟩;have h:(s.funs.set i y)[j]? =σ f:=h;have e:dT {s with funs:=s.funs.set i y} j=dT s j:=by
  unfold dT;show 3+(_+(((s.funs.set i y).take j).flatMap fR).length)=_;rw[rB I W]
 by_cases J:i=j
 .subst J;rw[V5 (x4.1 I).1] at h;cases h;exact⟨x,I,h1,V,e⟩
 .rw[W6 J] at h;exact⟨f,h,rfl,rfl,e⟩
theorem aC.uh (t:aC) (i:Nat) (x:Int):(t.set i x).marks=t.marks:=by
 unfold aC.set;cases t.cells[i]? with
 |none=>rfl
 |some c=>
  simp only;cases t.marks.getLast? with
  |none=>rfl
  |some m=>simp only;split <;> rfl
theorem aC.nN (t:aC) (i:Nat) (x:Int):(t.set i x).ever=t.ever:=by
 unfold aC.set;cases t.cells[i]? with
 |none=>rfl
 |some c=>
  simp only;cases t.marks.getLast? with
  |none=>rfl
  |some m=>simp only;split <;> rfl
theorem aC.Av (t:aC) (i:Nat) (x:Int):(t.set i x).cells.length=t.cells.length:=by
 have h:=congrArg S9 (aC.nf (t:=t) (i:=i) (x:=x));rw[X1] at h;unfold aC.bS at h;rwa [u5,u5] at h
theorem aC.ui (t:aC) (i:Nat) (x:Int):(t.set i x).olds.length<=t.olds.length+1:=by
 unfold aC.set;cases t.cells[i]? with
 |none=>exact S5 _
 |some c=>
  simp only;cases t.marks.getLast? with
  |none=>exact S5 _
  |some m=>simp only;split <;> simp
theorem aC.uj {t:aC} (h:t.marks=[]) (i:Nat) (x:Int):(t.set i x).olds=t.olds:=by
 unfold aC.set;cases t.cells[i]? with
 |none=>rfl
 |some c=>simp only[h,List.getLast?_nil]
def eU (t:aC) (l:List Int):Nat->aC
 |0=>t.grow l.length
 |i+1=>(eU t l i).set (t.cells.length+i) (l.getD i 0)
def hn (t:aC) (l:List Int):aC:=eU t l l.length
theorem mq (t:aC) (l:List Int):∀i,(eU t l i).marks=t.marks
 |0=>rfl
 |i+1=>(aC.uh _ _ _).trans (mq t l i)
theorem uk (t:aC) (l:List Int):∀i,(eU t l i).ever=t.ever
 |0=>rfl
 |i+1=>(aC.nN _ _ _).trans (uk t l i)
theorem pr (t:aC) (l:List Int):∀i,(eU t l i).cells.length=t.cells.length+l.length
 |0=>by simp[eU,aC.grow]
 |i+1=>(aC.Av _ _ _).trans (pr t l i)
theorem ps (t:aC) (l:List Int):∀i,(eU t l i).olds.length<=t.olds.length+i
 |0=>o8 _
 |i+1=>by have:=aC.ui (eU t l i) (t.cells.length+i) (l.getD i 0);have:=ps t l i;show (aC.set _ _ _).olds.length<=_;omega
theorem Aw {t:aC} (h:t.marks=[]) (l:List Int):∀i,(eU t l i).olds=t.olds
 |0=>rfl
 |i+1=>(aC.uj ((mq t l i).trans h) _ _).trans (Aw h l i)
theorem Ax (t:aC) (l:List Int):∀i,i<=l.length->(eU t l i).bS=t.bS++(l.take i++o6 (l.length-i) 0)
 |0,_=>by rw[List.take_zero,List.nil_append];exact aC.Fv
 |i+1,h=>by
  have I:=Ax t l i Ω;show (aC.set _ _ _).bS=_;have J:t.bS.length=t.cells.length:=by simp[aC.bS]
  rw[aC.nf,I,U6 _ _ Ω,J,S8,U6 _ _ (by rw[o7];omega),o7,T5 Ω,W7,show l.length-i=(l.length-(i+1))+1 by omega,List.replicate_succ,List.set_cons_zero,r9,u4,y0 (show i<l.length by omega)];simp only[Z9,S1,V9,List.singleton_append]
theorem Ay (t:aC) (l:List Int):(hn t l).bS=t.bS++l:=by
 unfold hn;rw[Ax t l _ (o8 _),o9,W7,List.replicate_zero,V4]
theorem dp.eU {h:List aC} {t:aC} (I:dp t h) (l:List Int):∀i,dp (eU t l i) h
 |0=>I.grow
 |i+1=>(dp.eU I l i).set
theorem gA {s:Go.Sem x1} {x:x1} (h:J x3 s w (λv=>v=x)):bk x3 s x w:=by
 obtain⟨v,h,rfl⟩:=h;exact h
theorem rC {off:Nat} {z:Nat} {I:u9} {cs:List x1} {x:x1} (U:ae w al e cs) (V:∀ (K:x1->Prop),J x3 (x7 bz (Γ al) z) w K=K (.pointer (σ ⟨al,0+off,ν⟩))) (W:jw x3 I=true) (X:cs[0+off]? =σ x):
  bk x3 (x5 I (.pointer (σ ⟨al,0+off,ν⟩))) x w/\bk x3 (x7 bz (Γ al) z) (.pointer (σ ⟨al,0+off,ν⟩)) w/\bk x3 (aX (Γ al)) (Γ al) w/\True:=
 ⟨kt W (U.cell X),gA (by rw[V]),gA (by rw[aw]),trivial⟩
def Az (w:x2) (r:Nat):Prop:=∃e c,ae w r e c/\(e=cB\/e=dB\/e=fa\/e=dn\/e=bz\/e=dl\/e=b8)
def dd (w:x2) (r:Nat):Prop:=Az w r\/ ∀o,w.heap[r]? =σ o->fW o≠true
theorem ll {U:x2} {r:Nat} (X:∀o,w.heap[r]? =σ o->fW o=true->¬dd w r->U.heap[r]? =σ o) (h:dd U r):dd w r:=by
 by_cases J:dd w r
 .exact J
 .refine absurd (.inr λo W I=>?_) J;have h1:=X o W I J;rcases h with⟨e,c,V,he⟩|Y
  .refine J (.inl ⟨e,c,?_,he⟩);unfold ae at V ⊢;rw[h1] at V;rw[W];exact V
  .exact Y o h1 I
theorem jO {U J:x2} (W:Ext w U) (X:af (dd U) U J):af (dd w) w J:=(W.V _).trans (X.mono λr _ h=>ll (λo Y I _=>W.a7 r o Y I) h)
theorem pt {U J:x2} (h:af (dd w) w U) (V:af (dd U) U J):af (dd w) w J:=h.trans (V.mono λr _ W=>ll (λo X I Y=>h.a7 r o X I Y) W)
theorem cD.min {A:ai} {t:aC} (h:cD w ag A t):cD w ag (λr=>A r/\Az w r) t:=by
 obtain⟨X,Y,go,a8,aJ,aa,bN,h1,U,V,W,ab⟩:=h;refine⟨⟨X,_,_,h1,.inl rfl⟩,Y,go,a8,aJ,aa,bN,h1,U,V,W,λr I=>⟨ab r I,?_⟩⟩;rcases I with I|I|I
 .obtain⟨rfl,c,J⟩:=di U I;exact⟨_,c,J,.inr (.inl rfl)⟩
 .obtain⟨rfl,c,J⟩:=di V I;exact⟨_,c,J,.inr (.inr (.inl rfl))⟩
 .obtain⟨rfl,c,J⟩:=di W I;exact⟨_,c,J,.inr (.inr (.inr (.inl rfl)))⟩
theorem dV.lm {Y aa ab:x1} {A R:ai} {n:aV} {s:aF} {t:aC} (h:dV w al ag X Y aa ab A R n s t):∃I,cD w ag I t/\ ∀ac w' J,Grow I w ac w'->cD w' ag ac J->af (dd w) w w'/\ ∃ad,Grow A w ad w'/\dV w' al ag X Y aa ab ad R n s J:=by
 obtain⟨I,ae,ah⟩:=h.pp;refine⟨_,ae.min,λaj U J V ak=>⟨V.1.mono λr _ h=>.inl h.2,?_⟩⟩;exact ah (λr=>I r\/aj r) U _ ⟨V.1.mono λr _ h=>h.1,λr W=>W.elim .inl λh=>(V.2.1 r h).imp (λh=>h.1) id,λr W=>.inl W⟩ (ak.mono λr h=>.inr h)
theorem AA {ab:Nat} {ae ah ak:x1} {A R:ai} {n:aV} {s:aF} {t:aC} {V:x1} (h:dV w al ag ab ae ah ak A R n s t) (am:aI .i64 w V l) (aD:∀r,leads V r->¬A r) (be:t.cells.length+l.length<=100000000) (bf:t.olds.length+l.length<=100000000) (hm:t.marks.length<=100000000):
  aj x3 wC [Γ al,V] w λv w'=>v=Δ (t.cells.length:Int)/\af (dd w) w w'/\ ∃W,Grow A w W w'/\dV w' al ag ab ae ah ak W R n s (hn t l):=by
 refine aA func131 ?_;obtain⟨_,aE,aG,ge,L,E,_,w0,ap,_⟩:=id h;obtain⟨aH,aq,au⟩:=h.lm;rw[aw,aa bz.p rfl,ac Ψ (ap.cell (o:=0+1) rfl),aS ax.u am];refine (JD (n:=l.length) aq ⟨Ω,Ω,hm⟩ Ω).mono ?_;rintro _ U _ ⟨rfl,aJ,aK,aL⟩;obtain⟨aM,aO,ay,aP⟩:=au aJ U _ aK aL;have az:∀ {W:ai} {w':x2},Grow A w W w'->aI .i64 w' V l:=λaQ=>io am aQ.1 λr aR a aT c aU aW=>aD r ⟨a,aT,c,aU,aW⟩ aR;rw[aS ax.u (az ay)];have aX:=am.le;refine bZ.range l.length (λi I=>af (dd w) w I/\ ∃J,Grow A w J I/\dV I al ag ab ae ah ak J R n s (eU t l i)) aX ⟨aM,aO,ay,aP⟩ ?_ ?_
 .rintro i I k hi ⟨av,J,X,Y⟩ aY;rw[ao,ad];refine⟨λ_=>?_,λh=>Ω⟩;obtain⟨x,aB⟩:∃x,l[i]? =σ x:=⟨_,y0 hi⟩;rw[bc ax.u an.i Ψ (az X) aB];obtain⟨_,aE,aG,ge,L,E,_,w0,ap,_⟩:=id Y;obtain⟨aH,aq,au⟩:=Y.lm;have bg:=pr t l i;have bh:=ps t l i;have aZ:=mq t l i;rw[aw,aa bz.p rfl,ac Ψ (ap.cell (o:=0+1) rfl),aN,wrap_i64 Ω Ω];refine (pk (i:=t.cells.length+i) aq Ω Ω ⟨Ω,Ω,by rw[aZ];exact hm⟩).mono ?_;rintro _ a1 _ ⟨rfl,a2,a6,a7⟩;obtain⟨a8,ba,bb,bd⟩:=au a2 a1 _ a6 a7;rw[aN];refine aY _ ⟨pt av a8,ba,X.trans bb,?_⟩;have e:eU t l (i+1)=(eU t l i).set (t.cells.length+i) x:=by
   show (eU t l i).set _ (l.getD i 0)=_;rw[u4,aB];rfl
  rw[e];exact bd
 .rintro I k ⟨av,J,X,Y⟩;rw[ao,ad];exact⟨λh=>Ω,λ_=>⟨rfl,av,J,X,Y⟩⟩
def fS (s:aF) (sc szs cs:List Int):aF:={s with funs:=s.funs++[⟨sc,szs,1,cs⟩]}
def kI (s:aF) (t:aC) (cs:List Int):aC:=(hn t (1::cs)).set 1 ((s.funs.length+1:Nat):Int)
theorem AB {s:aF} {t:aC} {sc:List Int} (h:t.bS=s.cells):(kI s t cs).bS=(fS s sc szs cs).cells:=by
 unfold kI fS;rw[aC.nf,Ay,h,<-JJ];rfl
theorem AC {br:Nat} {bt a1 bu:x1} {A R:ai} {n:aV} {s:aF} {t:aC} {ay:x1} {sc:List Int} {g b5:Nat} {aB:x1}
  (h:dV w al ag br bt a1 bu A R n s t) (cz:t.bS=s.cells) (cA:aI .i64 w ay sc) (dH:∀r,leads ay r->¬A r) (bw:cM w g b5 aB szs k cs) (b6:¬A g/\¬A b5/\ ∀r,leads aB r->¬A r) (dI:sc.length<=1000)
  (bc:t.cells.length+cs.length+1<=100000000) (bx:t.olds.length+cs.length+1<=100000000) (hm:t.marks.length<=100000000) (dK:s.funs.length<=1000000):
  aj x3 Dn [Γ al,ay,Γ g] w λv w'=>v=Δ (s.funs.length:Int)/\af (dd w) w w'/\ ∃bh R' bL,Grow A w bh w'/\dV w' al ag br bt bL bu bh R' n (fS s sc szs cs) (kI s t cs)/\(∀r,R r->R' r)/\ ∀r,R' r->R r\/leads aB r\/w.heap.size<=r:=by
 have dL:t.cells.length=s.cells.length:=by rw[<-cz];simp[aC.bS]
 have dM:=pn s;have cB:dT (fS s sc szs cs) s.funs.length=t.cells.length:=by
  unfold dT fS;simp only[List.take_left];omega
 have cC:∀j,j<s.funs.length->dT (fS s sc szs cs) j=dT s j:=λj bM=>by
  unfold dT fS;simp only[List.take_append_of_le_length (show j<=s.funs.length by omega)]
 have cD:gE (fS s sc szs cs)=gE s:=rfl;refine aA func133 ?_;refine dt (λU=>af (dd w) w U/\ ∃bh R' bL,Grow A w bh U/\dV U al ag br bt bL bu bh R' n (fS s sc szs cs) (hn t (1::cs))/\(∀r,R r->R' r)/\ ∀r,R' r->R r\/leads aB r\/w.heap.size<=r) ?_ ?_
 .rintro U ⟨cE,dN,cF,cG,cH,cI,cJ,cK⟩;intro dO bN _ _;have b8:=cI.ext bN;obtain⟨_,bB,bO,ge,L,E,_,w0,aL,_,_,_,⟨bi,bC⟩,_⟩:=id b8;have bD:L.length=s.funs.length+1:=by rw[bC.1];simp[fS]
  rw[aw,aa bz.p rfl,ac Ψ (aL.cell (o:=0+1) rfl),aw,aa bz.p rfl,ac Ψ (aL.cell (o:=0+3) rfl),dc dY.u bi];obtain⟨b9,cL,cN⟩:=b8.lm;have cO:=pr t (1::cs) (1::cs).length;have cQ:=ps t (1::cs) (1::cs).length;have cS:=mq t (1::cs) (1::cs).length;simp only[j5] at cO cQ;refine (pk (i:=1) (y:=1) cL rfl (by show 1<(eU _ _ _).cells.length;simp only[j5];omega) ⟨by show (eU _ _ _).cells.length<=_;simp only[j5];omega,by show (eU _ _ _).olds.length<=_;simp only[j5];omega,by show (eU _ _ _).marks.length<=_;rw[cS];exact hm⟩).mono ?_;rintro _ cT _ ⟨rfl,cU,cV,cW⟩;obtain⟨cY,cZ,c0,ca⟩:=cN cU cT _ cV cW;obtain⟨_,bB,bO,ge,c1,E,_,w0,aL,_,_,_,⟨bi,c2⟩,_⟩:=id ca;have dP:c1.length=s.funs.length+1:=by rw[c2.1];simp[fS]
  rw[aw,aa bz.p rfl,ac Ψ (aL.cell (o:=0+3) rfl),dc dY.u bi,cX,wrap_i64 Ω Ω];refine⟨by congr 1;omega,pt cE (jO bN cY),cZ,cF,cG,cH.trans ((Grow.ext bN).trans c0),?_,cJ,cK⟩;have e:kI s t cs=(hn t (1::cs)).set 1 (L.length:Int):=by unfold kI;rw[bD]
  rw[e];exact ca
 intro c3 c4;intro aU a2 _ _;have cb:=h.ext a2;obtain⟨_,bB,bO,ge,L,E,_,w0,aL,_⟩:=id cb;rw[aw,aa bz.p rfl,ac Ψ (aL.cell (o:=0+3) rfl)];have z4:=a2.size;have bE:∀ {Y:x2} {aG aD:x1} {bd aH:Nat},Ext aU Y->w.heap.size<=bd->w.heap.size<=aH->aq .i64 ab Y bd aG sc->aq .i64 an Y aH aD (1::cs)->(∀r,leads aG r\/leads aD r->¬A r)->
   aj x3 wC [Γ al,aD] Y λc5 aM=>
    (Ext aU aM\/bk x3 (x5 dY (.pointer (σ ⟨al,0+3,ν⟩))) a1 aM/\bk x3 (x7 bz (Γ al) 3) (.pointer (σ ⟨al,0+3,ν⟩)) aM/\bk x3 (aX (Γ al)) (Γ al) aM/\True)/\
    J x3 (Instr.build dl #[(0,aG),(1,.agg #[aB]),(2,c5)]) aM λt22=>
    az x3 (Z7 dY 1 #[(0,t22)]) aM λc6 aN=>
     (Ext aU aN\/bk x3 (x5 dY (.pointer (σ ⟨al,0+3,ν⟩))) a1 aN/\bk x3 (x7 bz (Γ al) 3) (.pointer (σ ⟨al,0+3,ν⟩)) aN/\bk x3 (aX (Γ al)) (Γ al) aN/\True)/\
    az x3 (l7 #[dY,dY] dY #[a1,c6]) aN λc7 bF=>
     J x3 (aX (Γ al)) bF λt25=>
     J x3 (x7 bz t25 3) bF λc8=>
     az x3 (o4 dY c8 c7) bF λ(_:Unit) a6=>
      c3 a6:=by
  intro Y aG aD bd aH ad cc aE ah am bP;have c9:=cb.ext ad;refine (AA c9 am.ls (λr W=>bP r (.inr W)) (by simp only[j5];omega) (by simp only[j5];omega) hm).mono ?_;rintro _ aM _ ⟨rfl,da,bl,be,db⟩;obtain⟨⟨cd,ce,de,cg⟩,bB,bO,ge,L,E,b9,w0,aL,⟨df,dg,ch⟩,⟨dh,ci,cj,aW⟩,bQ,⟨bi,bC⟩,bR,dj⟩:=id db;have aS:aq .i64 ab aM bd aG sc:=bb ah be.1 λr W=>bP r (.inl W);have bG:aq .i64 ab Y (Classical.choose (show ∃gs,aq .i64 ab w gs aB szs from by obtain⟨⟨_,gs,_,q,_⟩,_⟩:=bw;exact⟨gs,q⟩)) aB szs:=((Classical.choose_spec (show ∃gs,aq .i64 ab w gs aB szs from by obtain⟨⟨_,gs,_,q,_⟩,_⟩:=bw;exact⟨gs,q⟩)).ext a2).ext ad;have dk:=bb bG be.1 b6.2.2;refine⟨.inr (rC (off:=3) (z:=3) aL (λK=>by rw[aa bz.p rfl]) Ψ rfl),?_⟩;rw[cR (cs:=#[aG,aB,Δ (t.cells.length:Int)]) (by obtain⟨_,_,_,rfl⟩:=b0 ah.ls;obtain⟨_,_,_,rfl⟩:=b0 bG.ls;kernel_rfl)];let a:nL:=⟨aG,aB,t.cells.length⟩;have dm:∀u∈kH a,u.oneCell'=true:=by
   intro u hu;simp[kH] at hu;rcases hu with rfl|rfl|rfl
   .exact ah.ls.cells.2
   .exact bG.ls.cells.2
   .rfl
  refine fM (f:=kH) (a:=a) dY.u dl.i Ω rfl rfl λdQ dR aN dS ak dn=>?_;refine⟨.inr (rC (off:=3) (z:=3) (aL.ext ak) (λK=>by rw[aa bz.p rfl]) Ψ rfl),?_⟩;have bm:=bi.ext ak;have bD:L.length=s.funs.length:=bC.1;refine gd (f:=kH) (a:=a) dY.u dl.i rfl bm (by simpa using dn.sl) dm Ω Ω λck dp bF bn dq cl=>?_;have bo:=aL.ext ak;have cm:=bo.V cl λhe=>b7 bm bo Φ he;rw[aw,aa bz.p rfl];refine bj dY.i (cP bn.sl).1 (cP bn.sl).2 cm Ξ λa6 bT dU bV=>?_;have bV:ae a6 al bz [Γ br,Γ ag,bt,ck,bu]:=bV;have aO:af (λr=>leadsTo a1 r\/r=al) aN a6:=(cl.mono λr _ h=>.inl h).trans (bT.mono λr _ h=>.inr h);have z9:=ad.size;have dW:=be.1.size;have dX:=ak.size;have dZ:=aO.size;have bW:∀r,(leadsTo a1 r\/r=al)->bl r:=λr W=>W.elim (λW=>(aW r (.inr (.inl W))).1) λW=>W▸cd;have bX:∀r,(leadsTo a1 r\/r=al)->¬R r:=λr W=>ce r (bW r W);have dr:af (dd w) w a6:=pt (jO (a2.trans ad) da) (jO ak (aO.mono λr _ W=>by
   rcases W with W|rfl
   .obtain⟨_,c,bc⟩:=di bm W;exact .inl ⟨_,c,‹r=_› ▸bc,Φ⟩
   .exact .inl ⟨_,_,bo,Φ⟩))
  let ds:ai:=λr=>bl r\/(aN.heap.size<=r/\r<a6.heap.size);let bY:ai:=λr=>R r\/(leads aB r/\r<aM.heap.size)\/(leads aG r/\r<aM.heap.size);have ea:∀r,r<w.heap.size->bl r->A r:=λr W h=>(be.2.1 r h).elim id λh=>Ω
  have bZ:∀r,leads aG r->w.heap.size<=r/\r<Y.heap.size:=λr W=>by obtain⟨h1,bf⟩:=bA ah W;omega
  have cn:∀r,leads aB r->r<Y.heap.size:=λr W=>by obtain⟨h1,bf⟩:=bA bG W;omega
  have bH:∀r,leads aG r\/leads aB r->¬bl r:=λr W du=>by
   rcases be.2.1 r du with h|h
   .rcases W with W|W
    .exact bP r (.inl W) h
    .exact b6.2.2 r W h
   .rcases W with W|W
    .have:=bZ r W;omega
    .have:=cn r W;omega
  refine c4 _ ⟨dr,ds,bY,ck,(Grow.ext (a2.trans ad)).trans (be.trans ((Grow.ext ak).trans ⟨aO.mono λr _ W=>bW r W,λr W=>W.imp id And.left,λr W=>.inl W⟩)),?_,λr W=>.inl W,λr W=>?_⟩
  rotate_left
  .rcases W with W|W|W
   .exact .inl W
   .exact .inr (.inl W.1)
   .exact .inr (.inr (bZ r W.1).1)
  have cp:∀ {v:x1} {bp:Nat} {l:List Int},aq .i64 ab aN bp v l->(∀r,leads v r->¬bl r)->aq .i64 ab a6 bp v l:=λhm dv=>bb hm aO λr W I=>dv r W (bW r I);have cq:∀r,bY r->r<aN.heap.size:=λr W=>by
   rcases W with W|W|W
   .have:=de r W;omega
   .omega
   .omega
  refine⟨⟨.inl cd,λr W aY=>?_,λr W=>by have:=cq r W;omega,λr W=>W.elim (λW=>by have:=cg r W;omega) And.right⟩,bB,dp,ge,L++[a],E,b9,w0,bV,⟨df,nM (dg.trans ak) aO λr o W bx I=>bX r I (ch r o W bx),λr o W bx=>.inl (ch r o W bx)⟩,⟨(dh.ext ak).V aO λr W I=>?_,λr W=>.inl (ci r W),cj,λr W=>?_⟩,?_,⟨bn.V bT λr W he=>?_,?_⟩,(bR.ext ak).V aO λr W I=>?_,?_⟩
  .have:=cq r aY;rcases W with W|W
   .rcases aY with aY|aY|aY
    .exact ce r W aY
    .exact bH r (.inr aY.1) W
    .exact bH r (.inl aY.1) W
   .omega
  .rcases I with I|rfl
   .exact (aW r (.inr (.inl I))).2 W
   .exact cj W
  .rcases W with W|W|W
   .exact⟨.inl (aW r (.inl W)).1,(aW r (.inl W)).2⟩
   .obtain⟨h1,bf⟩:=bn.leads W;rcases dq r W with h|h
    .exact⟨.inl (aW r (.inr (.inl h))).1,(aW r (.inr (.inl h))).2⟩
    .refine⟨.inr ⟨h,by have:=bT.size;omega⟩,λdw=>?_⟩;have:=cg r (ci r dw);omega
   .exact⟨.inl (aW r (.inr (.inr W))).1,(aW r (.inr (.inr W))).2⟩
  .rw[cD];exact bb (bQ.ext ak) aO λr W I=>by
    rcases I with I|rfl
    .obtain⟨rfl,c,bc⟩:=di bm I;exact bU (bQ.ext ak) bc Φ W rfl
    .exact bU (bQ.ext ak) bo Φ W rfl
  .have he:r=al:=he;subst he;exact b7 bn cm Φ W
  .refine⟨by rw[r8,bD];simp[fS],λj x f bI a7=>?_⟩;have a7:(s.funs++[⟨sc,szs,1,cs⟩])[j]? =σ f:=a7;by_cases bM:j<s.funs.length
   .rw[j0 Ω] at bI;rw[j0 bM] at a7;obtain⟨dx,dy,dz⟩:=((((iC.V bC (ak.V λ_=>False) λ_ _ _ h=>h).V aO λr _ W I=>bX r I W).mono (R':=bY) λr W=>.inl W)).2 j x f bI a7;exact⟨dx,dy,by rw[cC j bM];exact dz⟩
   .have b1:j=s.funs.length:=by have:=(x4.1 a7).1;simp at this;omega
    rw[Z1 Ω,bD,b1,W7] at bI;rw[Z1 Ω,b1,W7] at a7;cases bI;cases a7;refine⟨⟨⟨_,cp (aS.ext ak) λr W=>bH r (.inl W)⟩,λr W=>.inr (.inr ⟨W,?_⟩)⟩,⟨⟨_,cp (dk.ext ak) λr W=>bH r (.inr W)⟩,λr W=>.inr (.inl ⟨W,?_⟩)⟩,?_⟩
    .have:=bZ r W;omega
    .have:=cn r W;omega
    .rw[b1,cB]
  .rcases I with I|rfl
   .obtain⟨rfl,c,bc⟩:=di bm I;exact b7 (bR.ext ak) bc Φ W
   .exact b7 (bR.ext ak) bo Φ W
  .exact ((jN.V dj (ak.V λ_=>False) λ_ _ _ h=>h).V aO λr _ W I=>bX r I W).mono λr W=>.inl W
 have bg:=bw.ext a2;have cr:=cA.ext a2;have dA:∀r,A r->r<w.heap.size:=h.1.2.2.2;obtain⟨_,⟨_,_,eb⟩,ec,ed⟩:=id bw;have ee:cs.length<=4096:=Ω
 have bJ:∀ {aP:x2} {a8 ba:x1} {av:Nat} {K:x1->x2->Prop},Ext aU aP->aU.heap.size<=av->aq .i64 an aP av a8 [1]->aI .i64 aP ba cs->
   (∀aD aH Y,Ext aU Y->af (λr=>r=av) aP Y->w.heap.size<=aH->aq .i64 an Y aH aD (1::cs)->(Ext aU Y->K aD Y))->az x3 (l7 #[ax,ax] ax #[a8,ba]) aP K:=by
  intro aP a8 ba av K X bK aQ aT dC;refine hy ax.u an.i rfl aQ aT Θ Θ λaD aH Y aE am aR=>?_;have ad:Ext aU Y:=X.then aR λr W he=>by have he:r=av:=he;omega
  have dD:=X.size;exact dC aD aH Y ad aR Ω am ad
 have aZ:∀ {v:x1} {bp:Nat} {dE:o5} {e:u9} {dF:x2} {l:List Int},aq dE e dF bp v l->w.heap.size<=bp-> ∀r,leads v r->¬A r:=λhm ef r W dG=>by
  obtain⟨h1,_⟩:=bA hm W;have:=dA r dG;omega
 refine⟨?_,?_⟩
 .refine (hA cr Ω).mono ?_;rintro aG ct _ ⟨ao,bd,cc,ah⟩;have z5:=ao.size;refine⟨.inl ao,?_,?_⟩
  .refine (me (bg.ext ao)).mono ?_;rintro _ cu _ ⟨rfl,ap⟩;have aJ:=ao.trans ap;have eg:=aJ.size;have eh:=ap.size;have cw:=(bg.ext ao).ext ap;refine⟨.inl aJ,?_,?_⟩
   .refine dJ ax.u an.i rfl λa8 av aP bK X aQ=>?_;refine⟨.inl (aJ.trans X),?_⟩;refine (lg (cw.ext X)).mono ?_;rintro ba b2 _ ⟨au,b3,b4,aT⟩;have aK:=(aJ.trans X).trans au;refine⟨.inl aK,?_⟩;refine bJ aK Ω (aQ.ext au) aT.ls λaD aH Y ad aR aE am _=>⟨.inl ad,?_⟩;have aS:=bb (((ah.ext ap).ext X).ext au) aR λr W he=>by have he:r=av:=he;obtain⟨h1,bf⟩:=bA ah W;omega
    exact bE ad Ω aE aS am λr W=>W.elim (aZ ah Ω r) (aZ am aE r)
   .refine (lg cw).mono ?_;rintro ba aP _ ⟨X,b3,b4,aT⟩;refine⟨.inl (aJ.trans X),?_⟩;have dD:=X.size;refine dJ ax.u an.i rfl λa8 av b2 bK au aQ=>?_;have aK:=(aJ.trans X).trans au;refine⟨.inl aK,?_⟩;refine bJ aK Ω aQ (aT.ls.ext au) λaD aH Y ad aR aE am _=>⟨.inl ad,?_⟩;have aS:=bb (((ah.ext ap).ext X).ext au) aR λr W he=>by have he:r=av:=he;obtain⟨h1,bf⟩:=bA ah W;omega
    exact bE ad Ω aE aS am λr W=>W.elim (aZ ah Ω r) (aZ am aE r)
  .refine dJ ax.u an.i rfl λa8 av cu bK ap aQ=>?_;have aJ:=ao.trans ap;refine⟨.inl aJ,?_⟩;refine (me ((bg.ext ao).ext ap)).mono ?_;rintro _ aP _ ⟨rfl,X⟩;have bq:=aJ.trans X;refine⟨.inl bq,?_⟩;refine (lg (((bg.ext ao).ext ap).ext X)).mono ?_;rintro ba b2 _ ⟨au,b3,b4,aT⟩;have aK:=bq.trans au;refine⟨.inl aK,?_⟩;refine bJ aK Ω ((aQ.ext X).ext au) aT.ls λaD aH Y ad aR aE am _=>⟨.inl ad,?_⟩;have aS:=bb (((ah.ext ap).ext X).ext au) aR λr W he=>by have he:r=av:=he;obtain⟨h1,bf⟩:=bA ah W;omega
   exact bE ad Ω aE aS am λr W=>W.elim (aZ ah Ω r) (aZ am aE r)
 .refine dJ ax.u an.i rfl λa8 av ct bK ao aQ=>?_;refine⟨.inl ao,?_⟩;have z5:=ao.size;have ei:av<ct.heap.size:=nG aQ Ξ;refine (hA (cr.ext ao) Ω).mono ?_;rintro aG cu _ ⟨ap,bd,cc,ah⟩;have aJ:=ao.trans ap;refine⟨.inl aJ,?_⟩;refine (me ((bg.ext ao).ext ap)).mono ?_;rintro _ aP _ ⟨rfl,X⟩;have bq:=aJ.trans X;refine⟨.inl bq,?_⟩;refine (lg (((bg.ext ao).ext ap).ext X)).mono ?_;rintro ba b2 _ ⟨au,b3,b4,aT⟩;have aK:=bq.trans au;refine⟨.inl aK,?_⟩;refine bJ aK Ω (((aQ.ext ap).ext X).ext au) aT.ls λaD aH Y ad aR aE am _=>⟨.inl ad,?_⟩;have aS:=bb ((ah.ext X).ext au) aR λr W he=>by have he:r=av:=he;obtain⟨h1,bf⟩:=bA ah W;omega
  exact bE ad Ω aE aS am λr W=>W.elim (aZ ah Ω r) (aZ am aE r)
theorem fz {P:W5} {t ag:u9} {k:o5} {b g:Nat} {z x:x1} {m:List Int} {K:x1->x2->Prop} (Y:P.underlying t=σ (.slice e)) (hi:aM P e 1 b z) (aa:z.cells.size=1)
  (h:aq k e w g v l) (ab:aI k w x m) (ac:(l.length+m.length)*b<=140737488355328) (ad:l.length+m.length<=9223372036854775807)
  (ae:∀I J w',aq k e w' J I (l++m)->(∀r,leads I r->leads v r\/w.heap.size<=r)->af (λr=>leads v r) w w'->K I w'):az P (l7 #[t,t] ag #[v,x]) w K:=by
 rcases h.2 with⟨V,ah⟩|⟨cap,cs,V,ak,al⟩
 .have ai:l=[]:=Z2 ah;subst ai;have h':aq k e w w.heap.size v []:=by rw[V];exact aq.nil _ _ _ _
  refine hy Y hi aa h' ab ac ad λI J w' W hm X=>ae I J w' hm (λr U=>.inr ?_) (X.mono λr U he=>by have he:r=w.heap.size:=he;omega);obtain⟨aj,_⟩:=bA hm U;omega
 .refine hy Y hi aa h ab ac ad λI J w' W hm X=>ae I J w' hm (λr U=>?_) (X.mono λr U he=>⟨_,_,_,V,he.symm⟩);obtain⟨aj,_⟩:=bA hm U;rcases W with W|W
  .exact .inl ⟨_,_,_,V,by show g=r;omega⟩
  .exact .inr Ω
def addVar (s:aF) (u:List Int):aF:={s with vars:=s.vars++[newVar u]}
theorem JR (s:aF) (u:List Int):gE (addVar s u)=gE s++[((3+(s.vars.flatMap gD).length:Nat):Int)]:=by
 unfold gE addVar;rw[r8,T1,List.range_succ,Z4];congr 1
 .apply List.map_congr_left;intro i hi;have:=List.mem_range.1 hi;unfold eT;simp only[List.take_append_of_le_length (show i<=s.vars.length by omega)]
 .simp[eT]
theorem JS {s:aF} {u:List Int} (I:s.funs=[]):(addVar s u).cells=s.cells++(0::0::u):=by
 unfold aF.cells addVar hl;simp only[I,List.flatMap_nil,V4,List.flatMap_append,List.flatMap_singleton,V9];rfl
def ew (n:aV) (i j:Nat):aF:=⟨n.zero,(n.unary.take i).map newVar,(n.funs.take j).map (jc n.sizes),[]⟩
theorem AD {n:aV} {i:Nat} {u:List Int} (h:n.unary[i]? =σ u):ew n (i+1) 0=addVar (ew n i 0) u:=by
 unfold ew addVar;simp only[r9,h,Z9,Z4,List.map_singleton]
theorem JT {n:aV} {i:Nat} {g:ct} (h:n.funs[j]? =σ g):ew n i (j+1)=fS (ew n i j) g.1 (bD n.sizes g.1) g.2:=by
 unfold ew fS;simp only[r9,h,Z9,Z4,List.map_singleton];rfl
theorem ul (n:aV):ew n n.unary.length n.funs.length=dU n:=by
 unfold ew dU;rw[o9,o9]
theorem um {α β:Type} {f:α->List β} {b:Nat}:∀ {L:List α},(∀x∈L,(f x).length<=b)->(L.flatMap f).length<=L.length*b
 |[],_=>Ξ
 |x::L,h=>by
  rw[V6,r8,j5,U2];have:=um (L:=L) λy I=>h y (.tail _ I);have:=h x (.head _);omega
theorem rD {n:aV} (I:iy n) (ac:n.funs.length<=256) (i j:Nat):(ew n i j).cells.length<=2000000:=by
 rw[pn];have h1:=um (f:=gD) (b:=34) (L:=(ew n i j).vars) λx U=>by
  obtain⟨u,hu,rfl⟩:=Z5.1 (show x∈(n.unary.take i).map newVar from U);obtain⟨p,V⟩:=Y7.1 (T2 hu);have ad:=I.jb;have ae:=(x4.1 V).1;obtain⟨z,W⟩:∃z,n.sizes[p]? =σ z:=⟨_,y0 Ω⟩;have Y:=(I.unary p z u W V).1;have J:=I.sizes.2.2 z (x6 W);show u.length+2<=34;omega
 have Y:=um (f:=fR) (b:=4097) (L:=(ew n i j).funs) λx U=>by
  obtain⟨g,aa,rfl⟩:=Z5.1 (show x∈(n.funs.take j).map (jc n.sizes) from U);have J:=(I.funs g (T2 aa)).1;have X:=J.len;have ab:=J.small;show g.2.length+1<=4097;omega
 have J:(ew n i j).vars.length<=64:=by
  show ((n.unary.take i).map newVar).length<=64;rw[u5,o7];have:=I.jb;have:=I.sizes.2.1;omega
 have X:(ew n i j).funs.length<=256:=by
  show ((n.funs.take j).map (jc n.sizes)).length<=256;rw[u5,o7];omega
 have ab:=X3 34 J;have af:=X3 4097 X;omega
def Plain (t:aC):Prop:=t.marks=[]/\t.olds=[]/\dp t []/\t.ever=0
theorem Plain.set {t:aC} (h:Plain t) (i:Nat) (x:Int):Plain (t.set i x):=⟨(aC.uh _ _ _).trans h.1,(aC.uj h.1 _ _).trans h.2.1,h.2.2.1.set,(aC.nN _ _ _).trans h.2.2.2⟩
theorem Plain.lay {t:aC} (h:Plain t) (l:List Int):Plain (hn t l):=⟨(mq _ _ _).trans h.1,(Aw h.1 _ _).trans h.2.1,h.2.2.1.eU l _,(uk _ _ _).trans h.2.2.2⟩
theorem Plain.put {s:aF} {t:aC} (h:Plain t) (cs:List Int):Plain (kI s t cs):=(h.lay _).set _ _
def JU (w:x2) (n:aV) (v:x1) (w':x2):Prop:=Ext w w'/\ ∃al ag A R t,v=Γ al/\StateM w' al ag A R n (dU n) t/\t.bS=(dU n).cells/\Plain t/\ ∀r,A r->w.heap.size<=r
theorem JV {n:aV} (h:fi w X n) (Y:iy n) (bp:n.funs.length<=256):aj x3 wn [Γ X] w (JU w n):=by
 have b3:=Y.jb;have c4:=Y.sizes.2.1;refine aA func48 ?_;rw[cA k3.u];simp only[j6,aQ];refine (JE (n:=3) Ω).mono ?_;rintro _ U _ ⟨aP,ag,rfl,b4⟩;rw[cR (cs:=#[Γ X,Γ ag,.slice ν 0 0,.slice ν 0 0,.slice ν 0 0]) Ψ];refine bM λal bq c5 aB aD=>?_;have aD:ae bq al bz [Γ X,Γ ag,.slice ν 0 0,.slice ν 0 0,.slice ν 0 0]:=aD;have c6:=aP.size;have c7:=aB.size;have c8:=aD.lt;have b5:dV bq al ag X (.slice ν 0 0) (.slice ν 0 0) (.slice ν 0 0) (λr=>r=al\/(w.heap.size<=r/\r<U.heap.size)) (λr=>r<w.heap.size) n ⟨0,[],[],[]⟩ ⟨o6 3 ⟨0,0⟩,[],[],0⟩:=by
  refine⟨⟨.inl rfl,λr J ap=>?_,λr J=>?_,λr J=>?_⟩,0,0,0,[],[],λr=>w.heap.size<=r/\r<U.heap.size,w,aD,⟨h,aP.trans aB,λr o J _=>(j4.1 J).1⟩,⟨(b4.cut).ext aB,λr J=>.inr J,λJ=>?_,λr J=>?_⟩,aq.nil _ _ _ _,⟨a6.nil _ _ _ _ _,rfl,λj x f aE=>by simp at aE⟩,a6.nil _ _ _ _ _,rfl,λj x f aE=>by simp at aE⟩
  .have ap:r<w.heap.size:=ap;rcases J with J|J <;> omega
  .have J:r<w.heap.size:=J;omega
  .rcases J with J|J <;> omega
  .omega
  .rcases J with J|J|J
   .obtain⟨a,c9,c,a8,da⟩:=J;cases a8
   .exact (eF J).elim
   .exact (eF J).elim
 intro db aF _ _;have b6:=b5.ext aF;rw[aw,aa bz.p rfl,ac Ψ ((aD.ext aF).cell (o:=0+1) rfl)];refine (JN (h.ext ((aP.trans aB).trans aF))).mono ?_;rintro _ dc _ ⟨rfl,aR⟩;refine⟨.inl aR,?_⟩;have b7:=b6.ext aR;obtain⟨ba,b8,b9⟩:=b7.pp;refine (pk (i:=0) (y:=0) b8 rfl Φ ⟨Ξ,Ξ,Ξ⟩).mono ?_;rintro _ br _ ⟨_,ca,cb,cc⟩;obtain⟨cd,bt,bc⟩:=b9 ca br _ cb cc;have bc:=bc.same (uf ⟨0,[],[],[]⟩ n.zero);have z3:=aF.size;have z4:=aR.size;have ce:=((aP.trans aB).trans aF).trans aR;have bu:Ext w br:=ce.then bt.1 λr J he=>by rcases he with he|he <;> omega
 refine (ue (h.ext bu)).mono ?_;rintro _ dd _ ⟨rfl,bw⟩;refine bZ.range n.sizes.length (λi aS=>∃A am t,Ext w aS/\dV aS al ag X am (.slice ν 0 0) (.slice ν 0 0) A (λr=>r<w.heap.size) n (ew n i 0) t/\t.bS=(ew n i 0).cells/\Plain t/\ ∀r,A r->w.heap.size<=r) Ω
  ⟨cd,_,_,bu.trans bw,bc.ext bw,?_,?_,λr J=>?_⟩ ?_ ?_
 .rw[aC.nf];rfl
 .exact Plain.set (t:=⟨o6 3 ⟨0,0⟩,[],[],0⟩) ⟨rfl,rfl,⟨rfl,rfl,λc ai=>by rw[(List.mem_replicate.1 ai).2];exact o8 _⟩,rfl⟩ _ _
 .rcases bt.2.1 r J with he|he
  .rcases he with he|he <;> omega
  .omega
 .rintro i aS cg hi ⟨A,am,t,au,bd,aG,aH,aT⟩ ch;obtain⟨u,hu⟩:∃u,n.unary[i]? =σ u:=⟨_,y0 Ω⟩;obtain⟨bx,bB⟩:∃z,n.sizes[i]? =σ z:=⟨_,y0 Ω⟩;have de:u.length<=32:=by
   have df:=(Y.unary i bx u bB hu).1;have dg:=Y.sizes.2.2 bx (x6 bB);omega
  rw[ao,ad];refine⟨λ_=>?_,λh=>Ω⟩;refine (As (h.ext au) Y).mono ?_;rintro dh di _ ⟨ci,_,cj⟩;obtain⟨dj,dk,ck⟩:=cj u Ω (by rw[j9];exact hu);intro be bC _ _;have bf:=ci.trans bC;have bD:=bd.ext bf;obtain⟨⟨_,_,_,aI⟩,cl,bE,ge,L,E,ba,w0,aU,_⟩:=id bD;have dl:=bf.size;have dm:=au.size;rw[aw,aa bz.p rfl,ac Ψ (aU.cell (o:=0+2) rfl)];refine oz (l:=[0,0]) ax.u an.i Ω rfl Ψ λcm dn dp dq aW bF=>?_;refine⟨.inl aW,?_⟩;refine fz ax.u an.i rfl bF ((ck.ext bC).ls.ext aW) Θ Θ λcn dr cp cq cr ct=>?_;have bG:∀r,leads cm r->be.heap.size<=r:=λr J=>by obtain⟨a8,_⟩:=bA bF J;omega
  have aX:Ext be cp:=aW.then ct λr J he=>by have:=bG r he;omega
  refine⟨.inl aX,?_⟩;have cu:=bD.ext aX;have cw:∀r,leads cn r->be.heap.size<=r:=λr J=>by
   rcases cr r J with h|h
   .exact bG r h
   .have:=aW.size;omega
  have cz:t.cells.length<=2000000:=by
   have h1:=rD Y bp i 0;rw[<-aG] at h1;unfold aC.bS at h1;rwa [u5] at h1
  have cB:t.olds.length=0:=by rw[aH.2.1];rfl
  have cC:t.marks.length=0:=by rw[aH.1];rfl
  refine (AA cu cq.ls (λr J W=>by have:=aI r W;have:=cw r J;omega) Θ Θ Ω).mono ?_;rintro _ ds _ ⟨rfl,_,bg,bh,cD⟩;obtain⟨⟨bH,bI,cE,bJ⟩,cl,bE,ge,L,E,ba,w0,aU,⟨cF,cG,bK⟩,⟨cH,bL,bN,aY⟩,cI,⟨cJ,cK⟩,cL,cM⟩:=id cD;refine⟨.inr (rC (off:=2) (z:=2) aU (λK=>by rw[aa bz.p rfl]) Ψ rfl),?_⟩;refine dJ (k:=.i64) ah.u ab.i rfl λdt du bO dv ak cN=>?_;have bi:=aU.ext ak;refine⟨.inr (rC (off:=2) (z:=2) bi (λK=>by rw[aa bz.p rfl]) Ψ rfl),?_⟩;have bP:(gE (ew n i 0)).length=i:=by
   unfold gE ew;simp only[u5,List.length_range,o7];omega
  have bQ:=cI.ext ak;refine fz ah.u ab.i rfl bQ cN.ls (by rw[bP];simp;omega) (by rw[bP];simp;omega) λbR cO dw aJ cP bT=>?_;have bV:=bi.V bT λhe=>bU bQ bi Φ he rfl;rw[aw,aa bz.p rfl];refine bj ah.i aJ.ls.cells.1 aJ.ls.cells.2 bV Ξ λbk bl dx bm=>?_;have bm:ae bk al bz [Γ X,Γ ag,bR,.slice ν 0 0,.slice ν 0 0]:=bm;rw[aN];have ai:af (λr=>leads am r\/r=al) bO bk:=(bT.mono λr _ h=>.inl h).trans (bl.mono λr _ h=>.inr h);have dy:=aX.size;have z12:=bh.1.size;have dz:=ak.size;have dA:=ai.size;have bW:∀r,bg r->w.heap.size<=r:=λr J=>(bh.2.1 r J).elim (aT r) λh=>Ω
  have bX:∀r,(leads am r\/r=al)->bg r:=λr J=>J.elim (λJ=>(aY r (.inl J)).1) λJ=>J▸bH;have cQ:(ew n (i+1) 0).cells=(ew n i 0).cells++(0::0::u):=by rw[AD hu];exact JS rfl
  have cS:t.cells.length=3+((ew n i 0).vars.flatMap gD).length:=by
   have h1:=congrArg S9 aG;rw[pn] at h1;unfold aC.bS at h1;rw[u5] at h1;have:((ew n i 0).funs.flatMap fR).length=0:=by simp[ew]
   omega
  refine ch _ ⟨λr=>bg r\/(bO.heap.size<=r/\r<bk.heap.size),bR,hn t ([0,0]++u),?_,⟨⟨.inl bH,λr J ap=>?_,λr J=>by have:=cE r J;omega,λr J=>?_⟩,cO,bE,ge,L,E,ba,w0,bm,⟨cF,nM (cG.trans ak) ai λr o J cT I=>bI r (bX r I) (bK r o J cT),bK⟩,⟨(cH.ext ak).V ai λr J I=>?_,λr J=>.inl (bL r J),bN,λr J=>?_⟩,?_,⟨(cJ.ext ak).V ai λr J I=>?_,?_⟩,(cL.ext ak).V ai λr J I=>?_,?_⟩,?_,aH.lay _,λr J=>?_⟩
  .exact ((au.trans (bf.trans aX)).then bh.1 λr J he=>by have:=aT r he;omega).trans ak |>.then ai λr J I=>by have:=bW r (bX r I);omega
  .rcases J with J|J
   .exact bI r J ap
   .have ap:r<w.heap.size:=ap;omega
  .rcases J with J|J
   .have:=bJ r J;omega
   .exact J.2
  .rcases I with I|rfl
   .exact (aY r (.inl I)).2 J
   .exact bN J
  .rcases J with J|J|J
   .have dC:=(bA aJ J);rcases cP r J with h|h
    .exact⟨.inl (aY r (.inl h)).1,(aY r (.inl h)).2⟩
    .refine⟨.inr ⟨h,by have:=bl.size;omega⟩,λcU=>by have:=bJ r (bL r cU);omega⟩
   .exact (eF J).elim
   .exact (eF J).elim
  .rw[AD hu,JR,<-cS];exact bb aJ bl λr J he=>by
    have he:r=al:=he;subst he;exact bU aJ bV Φ J rfl
  .exact (eF J).elim
  .refine⟨cK.1,λj x f aE bn=>?_⟩;have bn:((n.funs.take 0).map (jc n.sizes))[j]? =σ f:=bn;simp at bn
  .exact (eF J).elim
  .refine⟨cM.1,λj x e aE he=>?_⟩;have he:([]:List hM)[j]? =σ e:=he;simp at he
  .rw[Ay,cQ,aG];rfl
  .rcases J with J|J
   .exact bW r J
   .omega
 .rintro aS cg ⟨A,am,t,au,bd,aG,aH,aT⟩;rw[ao,ad];refine⟨λh=>Ω,λ_=>?_⟩;refine (Ar (h.ext au)).mono ?_;rintro _ dD _ ⟨rfl,bY⟩;refine bZ.range n.funs.length (λj aK=>∃A R aZ t,Ext w aK/\dV aK al ag X am aZ (.slice ν 0 0) A R n (ew n n.sizes.length j) t/\t.bS=(ew n n.sizes.length j).cells/\Plain t/\ ∀r,A r->w.heap.size<=r) Ω
   ⟨A,_,_,t,au.trans bY,bd.ext bY,aG,aH,aT⟩ ?_ ?_
  .rintro j aK cV cW ⟨A,R,aZ,t,av,aL,az,aM,aO⟩ cX;obtain⟨g,a1⟩:∃g,n.funs[j]? =σ g:=⟨_,y0 cW⟩;have bo:=(Y.funs g (x6 a1)).1;rw[ao,ad];refine⟨λ_=>?_,λh=>Ω⟩;refine (JO (h.ext av) Y a1).mono ?_;rintro ay dE _ ⟨a2,gs,dF,b0⟩;refine (JQ h (av.trans a2) a1).mono ?_;rintro _ dG _ ⟨a7,dH,dI,dK,rfl,dL,dM,cY,cZ⟩;have c0:=(aL.ext a2).ext a7;have aI:∀r,A r->r<aK.heap.size:=aL.1.2.2.2;have dN:=a2.size;have cz:t.cells.length<=2000000:=by
    have h1:=rD Y bp n.sizes.length j;rw[<-az] at h1;unfold aC.bS at h1;rwa [u5] at h1
   have cB:t.olds.length=0:=by rw[aM.2.1];rfl
   have cC:t.marks.length=0:=by rw[aM.1];rfl
   have dO:g.2.length<=4096:=by have:=bo.len;have:=bo.small;omega
   have dP:g.1.length<=6:=bo.scope.2;refine (AC (sc:=g.1) c0 az (b0.ls.ext a7) (λr J W=>by have:=aI r W;obtain⟨a8,_⟩:=bA b0 J;omega) cY ⟨λW=>by have:=aI _ W;omega,λW=>by have:=aI _ W;omega,λr J W=>by have:=aO r W;have:=cZ r J;omega⟩ Ω Ω Ω Ω ?_).mono ?_
   .show ((n.funs.take j).map (jc n.sizes)).length<=_;rw[u5,o7];omega
   rintro _ dQ _ ⟨rfl,_,c1,R',c2,b1,c3,dR,dS⟩;rw[aN];have b2:=JT (i:=n.sizes.length) a1;refine cX _ ⟨c1,R',c2,kI (ew n n.sizes.length j) t g.2,((av.trans a2).trans a7).then b1.1 (λr J W=>by have:=aO r W;omega),?_,?_,aM.put _,λr J=>?_⟩
   .rw[b2];exact c3
   .rw[b2];exact AB az
   .rcases b1.2.1 r J with h|h
    .exact aO r h
    .have:=av.size;have:=a7.size;omega
  .rintro aK cV ⟨A,R,aZ,t,av,aL,az,aM,aO⟩;rw[ao,ad];refine⟨λh=>Ω,λ_=>?_⟩;have e:ew n n.sizes.length n.funs.length=dU n:=by rw[<-b3];exact ul n
   rw[e] at aL az;exact⟨av,al,ag,A,R,t,rfl,⟨X,am,aZ,_,aL⟩,az,aM,aO⟩
theorem JW (ap:Bytes l) (aC:l.length<=100000):aj x3 D2 [bw l] w λv w'=>v=iW l/\Ext w w':=by
 refine aA func207 ?_;refine hW (λaI aJ U=>Ext w U/\ ∃ (m:List Int) (s:Int),aI=bw m/\aJ=Δ s/\Bytes m/\m.length<=100000/\ns l m s) ?_ ?_
 .rintro _ _ U ⟨aq,m,s,rfl,rfl,ak,a2,al⟩;rw[l6 cK.u,bi,ad];refine⟨λau=>?_,λau=>?_⟩
  .have av:m=[]:=Z2 Ω;exact⟨by rw[qO al (by rw[av];rfl)],aq⟩
  have av:m≠[]:=λh=>au (by rw[h];rfl);refine mN.range m.length (λi _ _ aw ax W=>Ext U W/\ ∃ (n:Int) (I:Bool),aw= .int .u64 n/\ax= .bool I/\k8 n I ((m.take i).foldl eD 0)/\(m.take i).all ft=true) Ω ⟨Ext.refl _,0,false,rfl,rfl,Fr,rfl⟩ ?_ ?_
  .rintro i aK t3 _ _ W aL hi ⟨af,n,I,rfl,rfl,Y,ag⟩ aM;obtain⟨b,aa⟩:∃b,m[i]? =σ b:=⟨_,y0 hi⟩;have a6:=ak b (x6 aa);rw[l6 cK.u,ao,ad];refine⟨λ_=>?_,λh=>Ω⟩;refine s6 (λ_ _ aw ax X=>Ext U X/\ ∃ (n:Int) (I:Bool),aw= .int .u64 n/\ax= .bool I/\k8 n I ((m.take (i+1)).foldl eD 0)/\(m.take (i+1)).all ft=true) ?_ ?_
   .rintro a7 a8 a3 a4 X aO;rw[aN];exact aM _ _ _ _ _ aO
   intro aR ac;refine aP (λv X=>W=X/\v= .bool (!ft b)) ?_ ?_
   rotate_left
   .intro ay V;rw[oA rfl cK.u ak aa,ao,ad];refine⟨λh=>V _ _ ⟨rfl,by unfold ft;rw[decide_eq_false Ω];rfl⟩,λh=>?_⟩;rw[oA rfl cK.u ak aa,bP];refine V _ _ ⟨rfl,?_⟩;unfold ft;congr 1;by_cases aD:57<b
    .rw[decide_eq_true aD,decide_eq_false Ω];rfl
    .rw[decide_eq_false aD,decide_eq_true Ω];rfl
   rintro _ _ ⟨rfl,rfl⟩;cases az:ft b with
   |false=>
    rw[X4,bO];exact⟨by rw[qO al (yt aa az)],aq.trans af⟩
   |true=>
    rw[Y1,aQ];have aS:=of_decide_eq_true az;have am:=Fq Y aS;rw[yr aa,yq aa,ag,az] at ac;have aT:=Y.1;have aU:=Y.2.1;refine aP (λv X=>W=X/\v= .bool (I||decide (461168601842738790<n))) ?_ ?_
    rotate_left
    .intro ay V;rw[bP,ad];refine⟨λh=>V _ _ ⟨rfl,by rw[decide_eq_true h,Bool.or_true]⟩,λh=>V _ _ ⟨rfl,by rw[decide_eq_false h,Bool.or_false]⟩⟩
    rintro _ _ ⟨rfl,rfl⟩;by_cases ah:I=true\/461168601842738790<n
    .have ab:(I||decide (461168601842738790<n))=true:=by rcases ah with h|h <;> simp[h]
     rw[if_pos ah,ab] at am;rw[ab,bg,Y1,aQ];exact ac _ _ _ _ _ ⟨af,n,true,rfl,rfl,am,rfl⟩
    .have ab:(I||decide (461168601842738790<n))=false:=by
      cases I with
      |true=>exact absurd (.inl rfl) ah
      |false=>simp;omega
     rw[if_neg ah,ab] at am;have ba:¬461168601842738790<n:=λh=>ah (.inr h);rw[ab,bg,X4,bO,fp,oA rfl cK.u ak aa,cX,wrap_u8 Ω Ω,eZ cr.u eo.u,wrap_u64 Ω Ω,wrap_u64 Ω Ω,aN,wrap_u64 Ω Ω];exact ac _ _ _ _ _ ⟨af,_,false,rfl,rfl,am,rfl⟩
  .rintro aK t3 _ _ W aL ⟨af,n,I,rfl,rfl,Y,ag⟩;rw[o9] at ag Y;rw[l6 cK.u,ao,ad];refine⟨λh=>Ω,λ_=>?_⟩;have aE:=Fs Y;have aT:=Y.1;have aU:=Y.2.1;have aV:∀ {x:Int},x=m.foldl eD 0->0<=x->x<=4611686018427387904->(J x3 (convert eo an (.int .u64 x)) W λaW=>
     J x3 (aB .mul an false false (Δ s) aW) W λaX=>(λv w'=>v=iW l/\Ext w w') (.tuple #[aX,(Δ 0)]) W):=by
    intro x aY au h1;rw[eZ eo.u an.u,wrap_i64 Ω Ω,fp];have hw:Y5.wrap (s*x)=s*x:=by
     rcases al.1 with rfl|rfl <;> exact wrap_i64 Ω Ω
    rw[hw];refine⟨?_,aq.trans af⟩;rw[yw al (ys av ag),aY]
   refine aP (λv X=>W=X/\v= .int .u64 (m.foldl eD 0)) ?_ ?_
   .rintro _ _ ⟨rfl,rfl⟩;have aF:=qF (l:=m) (n:=0) ag ⟨Int.le_refl _,Φ⟩;exact aV rfl aF.1 aF.2
   intro ay V;refine aP (λv X=>W=X/\v= .bool (I||decide (4611686018427387904<n))) ?_ ?_
   .rintro _ _ ⟨rfl,rfl⟩;rw[bH];refine⟨λh=>V _ _ ⟨rfl,?_⟩,λh=>V _ _ ⟨rfl,?_⟩⟩
    .have h':I=true\/4611686018427387904<n:=by simpa using h
     rw[aE,if_pos h']
    .have h':¬(I=true\/4611686018427387904<n):=by
      intro ai;rcases ai with ai|ai
      .simp[ai] at h
      .simp[ai] at h
     rw[aE,if_neg h']
   .intro bb aG;cases I with
    |true=>rw[bO];exact aG _ _ ⟨rfl,rfl⟩
    |false=>rw[aQ,bP];exact aG _ _ ⟨rfl,by rw[Bool.false_or]⟩
 .intro aR ac;refine aP (λv aZ=>w=aZ/\ ∃c:Bool,v= .bool c/\(c=true↔l[0]? =σ 45)) ?_ ?_
  .rintro _ _ ⟨rfl,c,rfl,aH⟩;rw[bH];refine⟨λa1=>?_,λab=>?_⟩
   .obtain⟨m,rfl⟩:∃m,l=45::m:=by
     have:=aH.1 a1;cases l with
     |nil=>simp at this
     |cons x m=>exact⟨m,by simp at this;rw[this]⟩
    rw[xB (y:=1) (i:=1) rfl cK.u Ξ];exact ac _ _ _ ⟨Ext.refl _,m,-1,rfl,rfl,λb ae=>ap b (.tail _ ae),by simp at aC;omega,yu⟩
   .refine ac _ _ _ ⟨Ext.refl _,l,1,rfl,rfl,ap,aC,yv λb ae he=>?_⟩;subst he;have:=aH.2 ae;rw[ab] at this;cases this
  .intro ay V;rw[l6 cK.u,bP,ad];refine⟨λh=>?_,λh=>V _ _ ⟨rfl,false,rfl,?_⟩⟩
   .obtain⟨b,ae⟩:∃b,l[0]? =σ b:=⟨_,y0 Ω⟩;rw[oA (y:=0) (i:=0) rfl cK.u ap ae,bi];refine V _ _ ⟨rfl,_,rfl,?_⟩;rw[decide_eq_true_eq,ae];exact⟨λh=>by rw[h],λh=>Z6 h⟩
   .have:l=[]:=Z2 Ω;subst this;simp
theorem JX {s:Go.Sem x1} (h:J x3 s w λu=>u=v) (I:K v):J x3 s w K:=by
 obtain⟨u,h1,rfl⟩:=h;exact⟨u,h1,I⟩
abbrev gj:Type:=List Int×Int
def e6 (x:gj):List x1:=[bw x.1,Δ x.2]
theorem uo (x:gj):∀u∈e6 x,u.oneCell'=true:=by
 intro u hu;simp[e6] at hu;rcases hu with rfl|rfl <;> rfl
def hP (w:x2) (v:x1) (L:List gj):Prop:=bT w 2 v L.length (L.flatMap e6)
theorem uq {g:Nat} {L:List gj} (h:a6 e6 2 ca w g v L):hP w v L:=h.sl
theorem AE {L:List gj} {I:u9} (h:hP w v L):J x3 (Y3 #[eP] I #[v]) w K=K (Δ (L.length:Int)):=by
 obtain⟨_,_,_,_,_,rfl,_⟩:=h;exact gv eP.u
theorem JY {k:Nat} {cs:List x1} (h:bT w k v n cs) (U:af S w w') (V:∀r,leadsTo v r->¬S r):bT w' k v n cs:=by
 obtain⟨h1,b,o,base,cap,rfl,W,X,J,Y⟩:=h;refine⟨h1,b,o,base,cap,rfl,W,X,J,?_⟩;rcases Nat.eq_zero_or_pos n with I|I
 .have:cs=[]:=Z2 (by rw[h1,I,Nat.zero_mul]);subst this;intro j v aa;simp at aa
 .have ab:=J I;exact oo U (V b ⟨⟨b,o,ν⟩,n,cap,by rw[ab],rfl⟩) Y
theorem hP.V {L:List gj} (h:hP w v L) (I:af S w w') (J:∀r,leadsTo v r->¬S r):hP w' v L:=JY h I J
theorem AF {x:gj} {L:List gj} (h:hP w v (x::L)) (I:∀b o,w.rangeAt b o (e6 x)->K (.pointer (σ ⟨b,o,ν⟩))):J x3 (n0 eP v (Δ 0)) w K:=by
 obtain⟨_,b,o,base,cap,rfl,_,_,U,V⟩:=h;have:=fc (P:=x3) (w:=w) (K:=K) (k:=.i64) (c:=cap) eP.u ca.i (show 0<(x::L).length by simp) U;rw[show ((0:Nat):Int)=0 from rfl] at this;rw[this];refine I _ _ λj u hu=>?_;have W:=(x4.1 hu).1;rw[Nat.zero_mul,Nat.add_zero];exact V j u (by rw[V6,j0 W];exact hu)
theorem JZ {x:gj} {L:List gj} (h:hP w v (x::L)) (W:∀U,(∀w',hP w' v (x::L)->hP w' U L)->(∀r,leadsTo U r->leadsTo v r)->K U):J x3 (W3 eP v (σ (Δ 1)) ν ν) w K:=by
 have ab:=h;obtain⟨_,b,o,base,cap,rfl,ac,_⟩:=h;rw[fq eP.u ca.i (lP 1 1 rfl) hx er Ξ Ω (o8 _)];refine W _ (λw' X=>?_) λr Y=>?_
 .have:=bT.part (l:=1) (h:=(x::L).length) (m:=cap) X Ξ (o8 _) Ω (o8 _);have e:(((x::L).flatMap e6).drop (1*2)).take (((x::L).length-1)*2)=L.flatMap e6:=by
   rw[V6];have aa:(L.flatMap e6).length=L.length*2:=fw (k:=2) λ_ _=>rfl;show (L.flatMap e6).take _=_;rw[Z0 (by rw[aa,j5,Nat.add_sub_cancel];exact o8 _)]
  rw[e] at this;exact this
 .obtain⟨a,n,c,I,V⟩:=Y;split at I
  .cases I;exact⟨_,_,_,rfl,V⟩
  .cases base with
   |none=>cases I
   |some q=>cases I;exact⟨_,_,_,rfl,V⟩
theorem J0 {g:Nat} {L:List gj} (W:y=(n:Int)) (h:a6 e6 2 ca w g v L) (X:n<=L.length) (Y:∀U,hP w U (L.take n)->(∀r,leadsTo U r->leadsTo v r)->K U):J x3 (W3 eP v ν (σ (Δ y)) ν) w K:=by
 have aa:=uq h;obtain⟨_,b,o,base,cap,rfl,ad,_⟩:=h.sl;rw[fq eP.u ca.i hv (lQ n y W) er (Y9 _) Ω (o8 _)];refine Y _ ?_ λr ab=>?_
 .have:=bT.part (l:=0) (h:=n) (m:=cap) aa (Y9 _) X Ω (o8 _);have e:((L.flatMap e6).drop (0*2)).take ((n-0)*2)=(L.take n).flatMap e6:=by
   rw[Nat.zero_mul,List.drop_zero,Nat.sub_zero,oW (f:=e6) (k:=2) n λ_ _=>rfl]
  rw[e] at this;have ac:(L.take n).length=n-0:=by rw[o7];omega
  unfold hP;rw[ac];exact this
 .obtain⟨a,n,c,I,V⟩:=ab;split at I
  .cases I;exact⟨_,_,_,rfl,V⟩
  .cases base with
   |none=>cases I
   |some q=>cases I;exact⟨_,_,_,rfl,V⟩
def J1 (w:x2) (pl:List Int) (v:x1) (w':x2):Prop:=Ext w w'/\ ∃I L,∃bad:Int,v= .tuple #[I,Δ bad]/\hP w' I L/\L.map (·.1)=(lex pl).1/\(0<=bad↔(lex pl).2=false)/\(∀r,leadsTo I r->w.heap.size<=r)/\ ∀r,leadsTo I r-> ∃c,ae w' r ca c
theorem J2 {p:x1} (ap:aI .u8 w p pl) (aX:Bytes pl) (bu:pl.length<=65536):aj x3 Dw [p] w (J1 w pl):=by
 refine aA func156 ?_;rw[aS cw.u ap];refine mN.range pl.length (λi _ _ ab ak U=>Ext w U/\ ∃g L,∃ (V:List (List Int)) (ae:List Int) (op:Bool),ak= .bool op/\a6 e6 2 ca U g ab L/\L.map (·.1)=(if op then V++[ae] else V)/\(op=true->ae.length<=i)/\L.length<=i/\hc (pl.drop i) V ae op=lex pl/\ ∀r,leadsTo ab r->w.heap.size<=r) ap.le
  ⟨Ext.refl _,0,[],[],[],false,rfl,a6.nil _ _ _ _ _,rfl,(λh=>by cases h),o8 _,FL pl,λr af=>(eF af).elim⟩ ?_ ?_
 rotate_left
 .rintro aY t3 ab ak U aZ ⟨ah,g,L,V,ae,op,rfl,ag,Y,_,_,W,ai⟩;rw[ao,ad];refine⟨λh=>Ω,λ_=>?_⟩;rw[List.drop_length] at W;have W:(if op then V++[ae] else V,true)=lex pl:=W;exact⟨ah,ab,L,-1,rfl,uq ag,by rw[Y,<-W],by rw[<-W];simp,ai,λr af=>by obtain⟨rfl,c,aw⟩:=di ag af;exact⟨c,aw⟩⟩
 rintro i aY t3 ab ak U aZ hi ⟨ah,g,L,V,ae,op,rfl,ag,Y,aK,bx,W,ai⟩ a1;obtain⟨b,ax⟩:∃b,pl[i]? =σ b:=⟨_,y0 hi⟩;have bz:=aX b (x6 ax);have aL:pl.drop i=b::pl.drop (i+1):=by rw[W8 hi,(x4.1 ax).2]
 rw[aL] at W;unfold hc at W;rw[ao,ad];refine⟨λ_=>?_,λh=>Ω⟩;refine s6 (λ_ _ ab ak ay=>Ext w ay/\ ∃g L,∃ (V:List (List Int)) (ae:List Int) (op:Bool),ak= .bool op/\a6 e6 2 ca ay g ab L/\L.map (·.1)=(if op then V++[ae] else V)/\(op=true->ae.length<=i+1)/\L.length<=i+1/\hc (pl.drop (i+1)) V ae op=lex pl/\ ∀r,leadsTo ab r->w.heap.size<=r) ?_ ?_
 .rintro bA bB a3 a4 ay a2;rw[aN];exact a1 _ _ _ _ _ a2
 intro bC aM;rw[bc cw.u cr.i Ψ (ap.ext ah) ax];refine aP (λv al=>U=al/\v= .bool (cg b)) ?_ ?_
 rotate_left
 .intro az X;unfold cg at X;rw[bi,ad];refine⟨λh=>X _ _ ⟨rfl,by rw[decide_eq_true (.inl h)]⟩,λh1=>?_⟩;rw[bi,ad];refine⟨λh=>X _ _ ⟨rfl,by rw[decide_eq_true (.inr (.inl h))]⟩,λaq=>?_⟩;rw[bi,ad];refine⟨λh=>X _ _ ⟨rfl,by rw[decide_eq_true (.inr (.inr (.inl h)))]⟩,λa7=>?_⟩;rw[bi];refine X _ _ ⟨rfl,?_⟩;congr 1;rw[V8,decide_eq_true_eq,decide_eq_true_eq];exact⟨λh=>.inr (.inr (.inr h)),λh=>by rcases h with h|h|h|h;exact absurd h h1;exact absurd h aq;exact absurd h a7;exact h⟩
 rintro _ _ ⟨rfl,rfl⟩;cases I:cg b with
 |true=>
  rw[bO];rw[if_pos I] at W;exact aM _ _ _ _ _ ⟨ah,g,L,_,[],false,rfl,ag,Y,(λh=>by cases h),Ω,W,ai⟩
 |false=>
  rw[aQ];rw[if_neg (by rw[I];simp)] at W;refine aP (λv al=>U=al/\v= .bool (!bF b)) ?_ ?_
  rotate_left
  .intro az X;unfold bF at X;rw[ao,ad];refine⟨λh=>X _ _ ⟨rfl,by rw[decide_eq_false Ω];rfl⟩,λh=>?_⟩;rw[bP];refine X _ _ ⟨rfl,?_⟩;by_cases aq:126<b
   .rw[decide_eq_true aq,decide_eq_false Ω];rfl
   .rw[decide_eq_false aq,decide_eq_true Ω];rfl
  rintro _ _ ⟨rfl,rfl⟩;cases hw:bF b with
  |false=>
   rw[X4,bO];rw[if_neg (by rw[hw];simp)] at W;refine aP (λv al=>U=al/\ ∃au,hP U v au/\au.map (·.1)=V/\(∀r,leadsTo v r->w.heap.size<=r)/\ ∀r,leadsTo v r->leadsTo ab r) ?_ ?_
   .rintro v _ ⟨rfl,au,aB,a8,av,ba⟩;exact⟨ah,v,au,(i:Int),rfl,aB,by rw[a8,<-W],by rw[<-W];simp,av,λr af=>by obtain⟨rfl,c,aw⟩:=di ag (ba r af);exact⟨c,aw⟩⟩
   .intro az X;cases op with
    |false=>
     rw[aQ];rw[if_neg Ξ] at Y;exact X _ _ ⟨rfl,L,uq ag,Y,ai,λ_ h=>h⟩
    |true=>
     rw[bO];rw[if_pos rfl] at Y;have aC:L.length=V.length+1:=by have:=congrArg S9 Y;simpa using this
     rw[dc eP.u ag,cX,wrap_i64 Ω Ω];refine J0 (n:=V.length) Ω ag Ω λam aB av=>X _ _ ⟨rfl,_,aB,?_,λr af=>ai r (av r af),av⟩;rw[List.map_take,Y,List.take_left]
  |true=>
   rw[Y1,aQ];rw[if_pos hw] at W;refine aP (λab aD=>Ext w aD/\ ∃g M,∃x:gj,a6 e6 2 ca aD g ab (M++[x])/\M.map (·.1)=V/\x.1=(if op then ae else[])/\(M++[x]).length<=i+1/\ ∀r,leadsTo ab r->w.heap.size<=r) ?_ ?_
   .rintro bD aD ⟨aO,bb,M,x,bd,be,aE,bf,aR⟩;intro aF aG _ _;have an:=bd.ext aG;have aT:(M++[x])[M.length]? =σ x:=Ξ
    have bE:(M++[x]).length=M.length+1:=Ξ
    rw[dc eP.u an,cX,wrap_i64 Ω Ω,cO (i:=M.length) Ω eP.u ca.i an Ω,aa ca.p rfl,ac (o:=M.length*2+0) Ψ (an.range aT 0 _ rfl),aN,wrap_i64 Ω Ω];obtain⟨bG,aU⟩:∃am,aI .u8 aF am [b]/\J x3 (W3 cw p (σ (Δ (i:Int))) (σ (Δ ((i:Int)+1))) ν) aF (λv=>v=am):=by
     have bh:=ap.ext (aO.trans aG);have:=qG (P:=x3) (low:=σ (Δ (i:Int))) (high:=σ (Δ ((i:Int)+1))) (K:=λv=>aI .u8 aF v [b]) cw.u cr.i bh (lP i _ rfl) (lQ (i+1) ((i:Int)+1) Ω) Ω Ω λam aV=>by
      have e:((ints .u8 pl).drop (i*1)).take ((i+1-i)*1)=ints .u8 [b]:=by
       simp only[T4,show i+1-i=1 by omega];rw[ints,<-List.map_drop,<-List.map_take,aL];rfl
      rw[e] at aV;exact aI.of (n:=i+1-i) aV
     obtain⟨v,bj,bk⟩:=this;exact⟨v,bk,v,bj,rfl⟩
    refine JX aU.2 ?_;have bH:x.1.length<=65536:=by
     rw[aE];cases op with
     |true=>rw[if_pos rfl];have:=aK rfl;omega
     |false=>simp
    rw[s8 cw.u cr.u cK.u aU.1,s7 Θ,cO (i:=M.length) Ω eP.u ca.i an Ω,aa ca.p rfl];refine ny (f:=e6) (j:=0) (a:=x) (a':=(x.1++[b],x.2)) cK.i rfl rfl an aT rfl Ω λbI bl bJ aW=>?_;have e:(M++[x]).set M.length (x.1++[b],x.2)=M++[(x.1++[b],x.2)]:=by
     rw[U6 _ _ (o8 _),W7];rfl
    rw[e] at aW;refine aM _ _ _ _ _ ⟨(aO.trans aG).then bl (λr af he=>by have:=aR r he;omega),bb,_,V,x.1++[b],true,rfl,aW,by rw[Z4,be];rfl,λ_=>?_,by simp at bf ⊢;omega,?_,aR⟩
    .rw[r8,aE];cases op with
     |true=>rw[if_pos rfl];have:=aK rfl;simp;omega
     |false=>simp
    .rw[<-W,aE];cases op with
     |true=>rfl
     |false=>rfl
   .intro az X;cases op with
    |true=>
     rw[bg,Y1,aQ];rw[if_pos rfl] at Y;have aC:L.length=V.length+1:=by have:=congrArg S9 Y;simpa using this
     obtain⟨M,x,rfl⟩:∃M x,L=M++[x]:=by
      have:L≠[]:=λh=>by rw[h] at aC;simp at aC
      exact⟨L.dropLast,L.getLast this,(List.dropLast_concat_getLast this).symm⟩
     rw[Z4] at Y;obtain⟨bm,aH⟩:=List.append_inj' Y Ξ;refine X _ _ ⟨ah,g,M,x,ag,bm,?_,Ω,ai⟩;rw[if_pos rfl];have aH:[x.1]=[ae]:=aH;exact (List.cons.inj aH).1
    |false=>
     rw[bg,X4,bO];rw[if_neg Ξ] at Y;rw[cR (cs:=#[bw [],Δ (i:Int)]) Ψ];refine fM (f:=e6) (a:=(([],(i:Int)):gj)) eP.u ca.i Ω rfl rfl λv9 bK bL bM aJ bn=>?_;have bo:=ag.ext aJ;refine gd (f:=e6) (a:=(([],(i:Int)):gj)) eP.u ca.i rfl bo (by simpa using bn.sl) (uo _) Ω Ω λam bp bN bq br bt=>?_;have bQ:=ah.size;have z9:=aJ.size;refine X _ _ ⟨(ah.trans aJ).then bt (λr af he=>by have:=ai r he;omega),bp,L,_,bq,Y,rfl,Θ,λr af=>?_⟩;rcases br r af with h|h
     .exact ai r h
     .omega
structure ur where
 v:x1
 t:List Int
 c:Int
def mr (y:ur):List x1:=[y.v,Δ y.c]
def je (w:x2) (g:Nat) (v:x1) (l:List (List Int×Int)):Prop:=∃L:List ur,a6 mr 2 b2 w g v L/\(∀y∈L,∃I,aq .i64 an w I y.v y.t)/\L.map (λy=>(y.t,y.c))=l
structure hQ where
 ay:x1
 au:x1
 o:Int
 bV:x1
def ey (h:hQ):List x1:=[h.ay,h.au,Δ h.o,h.bV]
def fT (w:x2) (h:hQ) (x:cd):Prop:=(∃g,aq .i64 an w g h.ay x.scope)/\(∃g,aq .i64 an w g h.au x.sizes)/\h.o=x.other/\ ∃g,je w g h.bV x.lines
def gk (w:x2) (r:Nat):Prop:=∃e c,ae w r e c/\e≠an/\e≠b2
theorem ed {g:Nat} (h:aq .i64 an w g v l) (U:af S w w') (V:∀r,S r->gk w r\/w.heap.size<=r):aq .i64 an w' g v l:=bb h U λr J I=>by
 rcases V r I with⟨e,c,W,X,_⟩|Y
 .exact bU h W (λhe=>X he.symm) J rfl
 .obtain⟨aa,ab⟩:=bA h J;omega
theorem ut {α:Type} {f:α->List x1} {k:Nat} {g:Nat} {L:List α} (h:a6 f k e w g v L) (W:af S w w') (X:∀r,S r->(∃J c,ae w r J c/\J≠e)\/w.heap.size<=r):a6 f k e w' g v L:=h.V W λr U I=>by
 rcases X r I with⟨J,c,Y,aa⟩|ab
 .exact b7 h Y (λhe=>aa he.symm) U
 .obtain⟨ac,ad⟩:=h.leads U;omega
theorem je.dq {g:Nat} {l:List (List Int×Int)} (h:je w g v l) (I:af S w w') (J:∀r,S r->gk w r\/w.heap.size<=r):je w' g v l:=by
 obtain⟨L,h1,U,V⟩:=h;refine⟨L,ut h1 I λr W=>(J r W).imp (λ⟨e,c,X,_,Y⟩=>⟨e,c,X,Y⟩) id,λy aa=>?_,V⟩;obtain⟨ab,hm⟩:=U y aa;exact⟨ab,ed hm I J⟩
theorem fT.dq {h:hQ} {x:cd} (aH:fT w h x) (I:af S w w') (J:∀r,S r->gk w r\/w.heap.size<=r):fT w' h x:=by
 obtain⟨⟨U,h1⟩,⟨V,W⟩,X,Y,aa⟩:=aH;exact⟨⟨U,ed h1 I J⟩,⟨V,ed W I J⟩,X,Y,aa.dq I J⟩
theorem fT.ext {h:hQ} {x:cd} (aH:fT w h x) (I:Ext w w'):fT w' h x:=aH.dq (I.V λ_=>False) λ_ h=>h.elim
theorem fT.one {h:hQ} {x:cd} (aH:fT w h x):∀u∈ey h,u.oneCell'=true:=by
 obtain⟨⟨U,h1⟩,⟨V,I⟩,W,X,L,J,_⟩:=aH;intro u hu;simp[ey] at hu;rcases hu with rfl|rfl|rfl|rfl
 .exact h1.ls.cells.2
 .exact I.ls.cells.2
 .rfl
 .exact (cP J.sl).2
def kJ (w:x2) (I:x1) (U:List gj) (gs:Nat) (sv:x1) (L:List hQ) (J:List cd):Prop:=(hP w I U/\ ∀r,leadsTo I r-> ∃c,ae w r ca c)/\a6 ey 4 aW w gs sv L/\J.length=L.length/\ ∀ (i:Nat) h x,L[i]? =σ h->J[i]? =σ x->fT w h x
theorem kJ.dq {X:x1} {ab:List gj} {gs:Nat} {L:List hQ} {ac:List cd} (h:kJ w X ab gs sv L ac) (W:af S w w') (Y:∀r,S r->(∃e c,ae w r e c/\e≠an/\e≠b2/\e≠ca/\¬leadsTo sv r)\/w.heap.size<=r):kJ w' X ab gs sv L ac:=by
 obtain⟨⟨h1,ad⟩,ag,ai,aj⟩:=h;have hw:∀r,leadsTo X r->¬S r:=λr J I=>by
  obtain⟨c,U⟩:=ad r J;rcases Y r I with⟨e,ak,ah,_,_,aa,_⟩|al
  .exact aa (eu ah U)
  .have:=U.lt;omega
 refine⟨⟨h1.V W hw,λr J=>?_⟩,ag.V W λr J I=>?_,ai,λi aH x hi am=>(aj i aH x hi am).dq W λr J=>(Y r J).imp (λ⟨e,c,U,ao,ap,_⟩=>⟨e,c,U,ao,ap⟩) id⟩
 .obtain⟨c,U⟩:=ad r J;exact⟨c,U.V W (hw r J)⟩
 .rcases Y r I with⟨e,ak,ah,_,_,_,aa⟩|al
  .exact aa J
  .obtain⟨aq,au⟩:=ag.leads J;omega
def fA (I:x1) (J U bad V big W told:Int) (sv:x1):List x1:=[I,Δ J,Δ U,Δ bad,Δ V,Δ big,Δ W,Δ told,sv]
def J3 (N:Nat) (so:Option aG) (I:List gj) (J bad big told:Int) (L:List hQ) (U:List cd):Prop:=match so with
 |some s=>bad=0/\J≠0/\(big≠0↔s.big=true)/\(s.big=false->told=s.told)/\True/\I.map (·.1)=s.toks/\(∀t∈s.toks,Bytes t/\t.length<=65536)/\U.map (λx=>(x.sizes,x.lines))=s.shared/\L.length+I.length<=100000
 |none=>bad≠0/\L.length<=N
def bE (w:x2) (g B:Nat) (H:ai) (N:Nat) (so:Option aG):Prop:=100000<=N/\ ∃w0 I J gs sv L U,∃ (W V bad X big Y told:Int),w0.heap.size=B/\af (λr=>r=g) w0 w/\(∃c,ae w0 g bm c)/\ae w g bm (fA I W V bad X big Y told sv)/\kJ w0 I J gs sv L U/\(∀r,leadsTo sv r->H r)/\J3 N so J V bad big told L U
theorem kJ.g {g:Nat} {J:x1} {U:List gj} {gs:Nat} {L:List hQ} {V:List cd} (h:kJ w J U gs sv L V) (X:af (λr=>r=g) w w') (Y:∃c,ae w g bm c):kJ w' J U gs sv L V:=
 h.dq X λr I=>.inl (by
  have I:r=g:=I;subst I;obtain⟨c,W⟩:=Y;exact⟨_,c,W,Φ,Φ,Φ,λaa=>b7 h.2.1 W Φ aa⟩)
theorem bE.new {g:Nat} {H:ai} {so:Option aG} (h:bE w g B H N so) (J:af S w w') (U:∀r,S r->B<=r):bE w' g B H N so:=by
 obtain⟨ab,w0,ac,ad,gs,sv,L,ae,ag,ah,bad,aj,big,ak,told,h1,W,X,al,am,an,ao⟩:=h;have Y:g<w0.heap.size:=by obtain⟨c,ap⟩:=X;exact ap.lt
 exact⟨ab,w0,ac,ad,gs,sv,L,ae,ag,ah,bad,aj,big,ak,told,h1,⟨X0 W.size J.size,λr o aa I Y=>J.a7 r o (W.a7 r o aa I Y) I λaq=>by
  have:=U r aq;have:=(j4.1 aa).1;omega⟩,X,al.V J λI=>by have:=U g I;omega,am,an,ao⟩
theorem bE.ext {g:Nat} {H:ai} {so:Option aG} (h:bE w g B H N so) (I:Ext w w'):bE w' g B H N so:=h.new (I.V λ_=>False) λ_ h=>h.elim
theorem bE.base {g:Nat} {H:ai} {so:Option aG} (h:bE w g B H N so):bE w g w.heap.size H N so:=by
 obtain⟨J,w0,U,V,gs,sv,L,W,X,Y,bad,aa,big,ab,told,h1,ac,ad,I,ae,ag,ah⟩:=h;exact⟨J,w,U,V,gs,sv,L,W,X,Y,bad,aa,big,ab,told,rfl,af.refl _ _,⟨_,I⟩,I,ae.g ac ad,ag,ah⟩
theorem bE.dq {g:Nat} {H:ai} {so:Option aG} (h:bE w g B H N so) (W:af S w w') (X:∀r,S r->(∃e c,ae w r e c/\e≠an/\e≠b2/\e≠ca/\e≠bm/\¬H r)\/w.heap.size<=r):bE w' g w'.heap.size H N so:=by
 obtain⟨ad,w0,Y,aa,gs,sv,L,ab,ag,ah,bad,aj,big,ak,told,h1,al,am,U,ao,ac,ap⟩:=h.base;have aq:kJ w Y aa gs sv L ab:=ao.g al am;have J:=U.V W λI=>by
  rcases X g I with⟨e,c,J,_,_,_,au,_⟩|aB
  .exact au (eu J U)
  .have:=U.lt;omega
 refine⟨ad,w',Y,aa,gs,sv,L,ab,ag,ah,bad,aj,big,ak,told,rfl,af.refl _ _,⟨_,J⟩,J,aq.dq W λr av=>(X r av).imp (λ⟨e,c,J,aw,ax,ay,_,az⟩=>⟨e,c,J,aw,ax,ay,λaA=>az (ac r aA)⟩) id,ac,ap⟩
theorem bE.lt {g:Nat} {H:ai} {so:Option aG} (h:bE w g B H N so):g<B/\B<=w.heap.size:=by
 obtain⟨U,w0,V,W,gs,sv,L,X,Y,aa,bad,ab,big,ac,told,h1,I,⟨c,J⟩,_⟩:=h;have:=J.lt;have:=I.size;omega
theorem gS {g:Nat} {H:ai} {so:Option aG} (h:bE w g B H N so):∃I,∃ (J U bad V big W told:Int),∃sv,ae w g bm (fA I J U bad V big W told sv)/\(so.isSome=true↔bad=0):=by
 obtain⟨aa,w0,I,ab,gs,sv,L,ac,J,U,bad,V,big,W,told,h1,ad,af,Y,ag,ah,X⟩:=h;refine⟨I,J,U,bad,V,big,W,told,sv,Y,?_⟩;cases so with
 |none=>exact⟨(λh=>by cases h),λh=>absurd h X.1⟩
 |some s=>exact⟨λ_=>X.1,λ_=>rfl⟩
theorem jP {g:Nat} {H:ai} {so:Option aG} (h:bE w g B H N so):J x3 (aX (Γ g)) w (λI=>J x3 (x7 bm I 3) w λt45=>J x3 (x5 ab t45) w λt46=>J x3 (aB .eql ab false true t46 (Δ 0)) w K)=K (.bool so.isSome):=by
 obtain⟨V,W,X,bad,Y,big,ad,told,sv,U,hi⟩:=gS h;rw[aw,aa bm.p rfl,ac Ψ (U.cell (o:=0+3) rfl),bi];congr 2;rw[V8,decide_eq_true_eq];exact hi.symm
theorem pu {g:Nat} {H:ai} {so:Option aG} (h:bE w g B H N so):J x3 (aX (Γ g)) w (λV=>J x3 (x7 bm V 3) w λt45=>J x3 (x5 ab t45) w λt46=>J x3 (aB .neq ab false true t46 (Δ 0)) w K)=K (.bool (!so.isSome)):=by
 obtain⟨X,Y,ad,bad,ae,big,af,told,sv,W,hi⟩:=gS h;rw[aw,aa bm.p rfl,ac Ψ (W.cell (o:=0+3) rfl),bB];congr 2;cases U:so.isSome with
 |true=>have I:=hi.1 U;simp[I]
 |false=>
  have I:bad≠0:=λI=>by rw[hi.2 I] at U;cases U
  simp[I]
def nO (w:x2) (g B:Nat) (H:ai) (N:Nat) (so:Option aG) (w':x2):Prop:=af (λr=>r=g) w w'/\bE w' g B H N so
theorem mu {g:Nat} {H:ai} {so:Option aG} {e at_:Int} (h:bE w g B H N so) (he:e≠0):aj x3 lK [Γ g,Δ e,Δ at_] w λ_ w'=>nO w g B H N ν w':=by
 refine aA func161 ?_;rw[jP h];cases so with
 |none=>rw[Option.isSome_none,aQ];exact⟨af.refl _ _,h⟩
 |some s=>
  rw[Option.isSome_some,bO];obtain⟨ac,w0,J,ad,gs,sv,L,ag,V,W,bad,ax,big,X,told,h1,ah,ak,al,am,an,ao⟩:=h;rw[aw,aa bm.p rfl];refine bj (g:=g) (o:=3) ab.i rfl rfl al (by simp[fA]) λU ap ay aq=>?_;rw[aw,aa bm.p rfl];refine bj (g:=g) (o:=4) ab.i rfl rfl aq (by simp[fA]) λau av az I=>?_;have I:ae au g bm (fA J V W e at_ big X told sv):=I;have Y:=ap.trans av;obtain⟨_,_,_,_,_,_,_,_,aB⟩:=ao;exact⟨Y,ac,w0,J,ad,gs,sv,L,ag,V,W,e,at_,big,X,told,h1,ah.trans Y,ak,I,am,an,he,Ω⟩
theorem ln {g:Nat} {H:ai} {so:Option aG} {b:Bool} {at_:Int} (h:bE w g B H N so):aj x3 qm [Γ g,.bool b,Δ at_] w λ_ w'=>nO w g B H N (so.map (a1 b)) w':=by
 refine aA func158 ?_;obtain⟨ap,w0,J,aq,gs,sv,L,au,V,W,bad,X,big,aE,told,h1,av,ax,Y,ay,az,ag⟩:=id h;refine aP (λv U=>w=U/\v= .bool (b&&decide (big=0)&&so.isSome)) ?_ ?_
 .rintro _ _ ⟨rfl,rfl⟩;rw[bH];refine⟨λaB=>?_,λaF=>⟨af.refl _ _,ap,w0,J,aq,gs,sv,L,au,V,W,bad,X,big,aE,told,h1,av,ax,Y,ay,az,?_⟩⟩
  .rw[U1,U1] at aB;obtain⟨⟨aI,aO⟩,aJ⟩:=aB;rw[aw,aa bm.p rfl];refine bj (g:=g) (o:=5) ab.i rfl rfl Y (by simp[fA]) λU aK aR aL=>?_;rw[aw,aa bm.p rfl];refine bj (g:=g) (o:=6) ab.i rfl rfl aL (by simp[fA]) λaM aN aS ah=>?_;have ah:ae aM g bm (fA J V W bad X 5 at_ told sv):=ah;have aC:=aK.trans aN;refine⟨aC,ap,w0,J,aq,gs,sv,L,au,V,W,bad,X,5,at_,told,h1,av.trans aC,ax,ah,ay,az,?_⟩;cases so with
   |none=>cases aJ
   |some s=>
    obtain⟨ak,al,aD,am,an⟩:=ag;exact⟨ak,al,⟨λ_=>by show (s.big||b)=true;rw[aI,Bool.or_true],λ_=>Ω⟩,λaH=>am (S0.1 aH).1,an⟩
  .cases so with
   |none=>exact ag
   |some s=>
    obtain⟨ak,al,aD,am,an⟩:=ag;refine⟨ak,al,?_,λaH=>am (S0.1 aH).1,an⟩;show big≠0↔(s.big||b)=true;cases b with
    |false=>rw[Bool.or_false];exact aD
    |true=>
     have I:big≠0:=by simpa using aF
     simp[I]
 .intro aT ao;cases b with
  |false=>rw[aQ];exact ao _ _ ⟨rfl,Ξ⟩
  |true=>
   rw[bO,aw,aa bm.p rfl,ac Ψ (Y.cell (o:=0+5) rfl),bi,ad];refine⟨λI=>?_,λI=>ao _ _ ⟨rfl,by rw[decide_eq_false I];simp⟩⟩;rw[jP h];exact ao _ _ ⟨rfl,by rw[decide_eq_true I];simp⟩
def h9 (so:Option aG):Option (List Int×aG):=so.bind dv
theorem AG {g:Nat} {H:ai} {so:Option aG} (h:bE w g B H N so):aj x3 Dx [Γ g] w λv w'=>nO w g B H N ((h9 so).map (·.2)) w'/\ ∃ (t:List Int) (n:Int),v= .agg #[bw t,Δ n]/\Bytes t/\t.length<=65536/\ ∀q,h9 so=σ q->t=q.1:=by
 have a6:=h.lt;refine aA func157 ?_;refine bt ca.i λI U bP ab ag=>?_;have h1:=h.ext ab;have zero:∀ {X:x2},nO U g B H N ν X->ae X I ca [.string ⟨#[]⟩,Δ 0]->h9 so=ν->(J x3 (Instr.build ca #[]) X λt9=>
   az x3 (o4 ca (Γ I) t9) X λ(_:Unit) aF=>
   J x3 (do loadVar ca (<-asAddr (Γ I))) aF λa7=>(λv w'=>nO w g B H N ((h9 so).map (·.2)) w'/\ ∃ (t:List Int) (n:Int),v= .agg #[bw t,Δ n]/\Bytes t/\t.length<=65536/\ ∀q,h9 so=σ q->t=q.1) a7 aF):=by
  intro X Y an av;rw[cR (cs:=#[.string ⟨#[]⟩,Δ 0]) Ψ];refine bJ (vs:=[.string ⟨#[]⟩,Δ 0]) ca.i rfl rfl (by intro v aH;simp at aH;rcases aH with rfl|rfl <;> rfl) an λa8 aI bQ ba=>?_;rw[eJ ca.p ca.i rfl ba.range,av];have bb:=ab.size;have bR:=a6;refine⟨⟨gb ((ab.V _).trans Y.1) aI λr W he=>?_,Y.2.new aI λr W=>?_⟩,[],0,rfl,(λb bc=>by cases bc),Ξ,λq ax=>by cases ax⟩
  .have he:r=I:=he;omega
  .have W:r=I:=W;omega
 rw[pu h1];cases so with
 |none=>
  rw[Option.isSome_none,X4,bO];exact zero ⟨af.refl _ _,h1⟩ ag rfl
 |some s=>
 rw[Option.isSome_some,Y1,aQ];obtain⟨bd,w0,bS,ay,gs,sv,L,aJ,aK,aL,bad,aM,big,aN,told,be,aO,aP,ah,ao,bf,bg⟩:=id h1;have bh:=ao.g aO aP;obtain⟨⟨ap,bT⟩,_⟩:=id bh;obtain⟨bk,aR,bl,bo,bp,aS,aT,bq,br⟩:=id bg;rw[aw,aa bm.p rfl,ac Ψ (ah.cell (o:=0+0) rfl),AE ap,bi,ad];refine⟨λaU=>?_,λaU=>?_⟩
 .have bu:ay=[]:=Z2 Ω;have ak:s.toks=[]:=by rw[<-aS,bu];rfl
  have av:h9 (σ s)=ν:=by show dv s=ν;unfold dv;rw[ak]
  intro X aq _ _;have an:=ah.ext aq;rw[aw,aa bm.p rfl,ac Ψ (an.cell (o:=0+2) rfl),aw,aa bm.p rfl,ac Ψ (an.cell (o:=0+1) rfl)];refine (mu (h1.ext aq) aR).mono ?_;rintro _ a8 _ Y;have bx:=ag.lt;exact zero ⟨(aq.V _).trans Y.1,Y.2⟩ ((ag.ext aq).V Y.1 λhe=>by have he:I=g:=he;omega) av
 .obtain⟨x,al,rfl⟩:∃x l,ay=x::l:=by
   cases ay with
   |nil=>exact absurd rfl aU
   |cons x l=>exact⟨x,l,rfl⟩
  have ak:s.toks=x.1::al.map (·.1):=by rw[<-aS];rfl
  have bz:h9 (σ s)=σ (x.1,{s with toks:=al.map (·.1)}):=by show dv s=_;unfold dv;rw[ak]
  have aV:=aT x.1 (by rw[ak];exact .head _);rw[aw,aa bm.p rfl,ac Ψ (ah.cell (o:=0+0) rfl)];refine AF ap λb o bA=>?_;rw[bn ca.p ca.i rfl bA];refine bt ca.i λaB bU bV bB bC=>?_;refine bJ (vs:=e6 x) ca.i rfl rfl (uo x) bC λbD bF bW aW=>?_;have au:Ext U bD:=bB.then bF λr W he=>by have he:r=aB:=he;omega
  have aX:=ah.ext au;rw[aw,aa bm.p rfl,ac Ψ (aX.cell (o:=0+0) rfl)];refine JZ (ap.V (au.V λ_=>False) λ_ _ h=>h) λaC aY bG=>?_;have aZ:=aY U ap;rw[aw,aa bm.p rfl];refine bj (g:=g) (o:=0) eP.i (cP aZ).1 (cP aZ).2 aX (by simp[fA]) λam aD bX aE=>?_;have aE:ae am g bm (fA aC aK aL bad aM big aN told sv):=aE;have bx:=ah.lt;have bY:=aW.lt;have bZ:=ag.lt;have bb:=ab.size;have bH:ae am aB ca (e6 x):=aW.V aD λhe=>by have he:aB=g:=he;omega
  rw[bn ca.p ca.i rfl bH.range];have bI:ae am I ca [.string ⟨#[]⟩,Δ 0]:=(ae.ext ag au).V aD λhe=>by have he:I=g:=he;omega
  refine bJ (vs:=e6 x) ca.i rfl rfl (uo x) bI λb0 a1 b1 bK=>?_;rw[eJ ca.p ca.i rfl bK.range];have a2:af (λr=>r=g) U am:=(au.V _).trans aD;rw[bz];refine⟨⟨gb ((ab.V _).trans a2) a1 λr W he=>?_,?_⟩,x.1,x.2,rfl,aV.1,aV.2,λq ax=>by cases ax;rfl⟩
  .have he:r=I:=he;omega
  .have bL:kJ w0 aC al gs sv L aJ:=⟨⟨aY w0 ao.1.1,λr W=>ao.1.2 r (bG r W)⟩,ao.2⟩;have bM:bE am g B H N (σ {s with toks:=al.map (·.1)}):=⟨bd,w0,aC,al,gs,sv,L,aJ,aK,aL,bad,aM,big,aN,told,be,aO.trans a2,aP,aE,bL,bf,bk,aR,bl,bo,bp,rfl,λt bN=>aT t (by rw[ak];exact .tail _ bN),bq,by simp at br;omega⟩;refine bM.new a1 λr W=>?_;have W:r=I:=W;omega
theorem J4 {lo hi:Int} {so:Option aG}:aZ lo hi so=match h9 so with
  |none=>ν
  |some (w,s)=>match fu w with
   |none=>ν
   |some n=>if lo<=n/\n<=hi then σ (n,s) else ν:=by
 cases so with
 |none=>rfl
 |some s=>rfl
theorem jf {g:Nat} {H:ai} {so:Option aG} {lo hi:Int} (h:bE w g B H N so):aj x3 kd [Γ g,Δ lo,Δ hi] w λv w'=>nO w g B H N ((aZ lo hi so).map (·.2)) w'/\ ∃n at_:Int,v= .tuple #[Δ n,Δ at_]/\(∀q,aZ lo hi so=σ q->n=q.1)/\(aZ lo hi so=ν->n=0):=by
 have a1:=h.lt;refine aA func159 ?_;refine (AG h).mono ?_;rintro _ U _ ⟨⟨au,h1⟩,t,at_,rfl,aE,a2,av⟩;have a6:=h1.lt;refine bt ca.i λaw a7 a8 aF aI=>?_;refine bJ (vs:=[bw t,Δ at_]) ca.i rfl rfl (by intro v ax;simp at ax;rcases ax with rfl|rfl <;> rfl) aI λaJ aL ba ay=>?_;have az:Ext U aJ:=aF.then aL λr bb he=>by have he:r=aw:=he;omega
 have aM:=h1.ext az;rw[aa ca.p rfl,ac Ψ (ay.cell (o:=0+0) rfl)];refine (JW aE Ω).mono ?_;rintro _ ah _ ⟨rfl,ak⟩;have al:=aM.ext ak;have aB:=ay.ext ak;have aN:=az.trans ak;have bc:=au.size;obtain⟨n,e,aO,am,aR⟩:∃n e:Int,iW t= .tuple #[Δ n,Δ e]/\(∀m,fu t=σ m->n=m/\e=0)/\(fu t=ν->e≠0):=by
  unfold iW;cases fu t with
  |none=>exact⟨0,4,rfl,(λm hm=>by cases hm),λ_=>Ω⟩
  |some m=>exact⟨m,0,rfl,(λm hm=>by cases hm;exact⟨rfl,rfl⟩),λh=>by cases h⟩
 rw[aO,aK (v:=Δ n) rfl,aK (v:=Δ e) rfl];have I:=J4 (lo:=lo) (hi:=hi) (so:=so);have aC:af (λr=>r=g) w ah:=au.trans (aN.V _);refine dt (λY=>af (λr=>r=g) ah Y/\bE Y g B H N ((aZ lo hi so).map (·.2))) ?_ ?_
 .rintro Y ⟨ab,X⟩;rw[pu X];cases ae:aZ lo hi so with
  |none=>
   rw[ae] at X;rw[Option.map_none,Option.isSome_none,X4,bO];exact⟨⟨aC.trans ab,X⟩,0,0,rfl,(λq ae=>by cases ae),λ_=>rfl⟩
  |some q=>
   rw[ae] at X I;rw[Y0,Option.isSome_some,Y1,aQ];intro bd an _ _;have aS:=(aB.V ab λhe=>by have he:aw=g:=he;omega).ext an;rw[aa ca.p rfl,ac Ψ (aS.cell (o:=0+1) rfl)];refine⟨⟨(aC.trans ab).trans (an.V _),X.ext an⟩,n,at_,rfl,λbe aT=>?_,λh=>by cases h⟩;cases aT;cases W:h9 so with
   |none=>rw[W] at I;cases I
   |some p=>
    obtain⟨ap,s1⟩:=p;have aq:=av (ap,s1) W;subst aq;rw[W] at I;simp only at I;cases J:fu t with
    |none=>rw[J] at I;cases I
    |some m=>
     rw[J] at I;simp only at I;split at I
     .cases I;exact (am m J).1
     .cases I
 .intro bf aD;refine aP (λv Y=>ah=Y/\ ∃c:Bool,v= .bool c/\(c=true->aZ lo hi so=ν)/\(c=false->(aZ lo hi so).map (·.2)=(h9 so).map (·.2))) ?_ ?_
  .rintro _ _ ⟨rfl,c,rfl,aU,aV⟩;rw[bH];refine⟨λh=>?_,λh=>aD _ ⟨af.refl _ _,by rw[aV h];exact al⟩⟩;rw[aa ca.p rfl,ac Ψ (aB.cell (o:=0+1) rfl)];refine (mu al Ω).mono ?_;rintro _ Y _ ⟨ab,X⟩;exact aD _ ⟨ab,by rw[aU h];exact X⟩
  .intro bg ag;rw[jP al];cases W:h9 so with
   |none=>
    rw[W] at I;simp only at I;rw[Option.map_none,Option.isSome_none,aQ];exact ag _ _ ⟨rfl,false,rfl,(λh=>by cases h),λ_=>by rw[I,W];rfl⟩
   |some p=>
    obtain⟨ap,s1⟩:=p;have aq:=av (ap,s1) W;subst aq;rw[W] at I;simp only at I;rw[Y0,Option.isSome_some,bO,bB,ad];refine⟨λhe=>?_,λhe=>?_⟩
    .refine ag _ _ ⟨rfl,true,rfl,λ_=>?_,λh=>by cases h⟩;cases J:fu t with
     |none=>rw[I,J]
     |some m=>exact absurd (am m J).2 he
    .have aW:e=0:=X2.1 he;cases J:fu t with
     |none=>exact absurd aW (aR J)
     |some m=>
      rw[J] at I;simp only at I;have aX:=(am m J).1;subst aX;rw[ao,ad];refine⟨λaY=>ag _ _ ⟨rfl,true,rfl,λ_=>by rw[I,if_neg Ω],λh=>by cases h⟩,λaY=>?_⟩;rw[bP];refine ag _ _ ⟨rfl,_,rfl,λaH=>?_,λaH=>?_⟩
      .rw[I,if_neg (by have:=of_decide_eq_true aH;omega)]
      .rw[I,if_pos (by have:=of_decide_eq_false aH;omega),W];rfl
theorem uu {db bv:x1} {a b:List Int} (I:aI .i64 w db a) (aa:aI .i64 w bv b):aj x3 qo [db,bv] w λv w'=>v= .bool (decide (a=b))/\Ext w w':=by
 refine aA func208 ?_;rw[aS ax.u I,aS ax.u aa,bB,ad];refine⟨λh=>⟨by rw[decide_eq_false];intro he;rw[he] at h;exact h rfl,Ext.refl _⟩,λh=>?_⟩;have ab:a.length=b.length:=by have:=X2.1 h;omega
 rw[aS ax.u I];refine bC.range a.length (λi _ U=>Ext w U/\a.take i=b.take i) I.le ⟨Ext.refl _,rfl⟩ ?_ ?_
 .rintro i _ U k hi ⟨X,J⟩ ac;obtain⟨x,V⟩:∃x,a[i]? =σ x:=⟨_,y0 hi⟩;obtain⟨y,Y⟩:∃y,b[i]? =σ y:=⟨_,y0 Ω⟩;rw[ao,ad];refine⟨λ_=>?_,λh=>Ω⟩;intro ag ae _ _;have W:=X.trans ae;rw[bc ax.u an.i Ψ (I.ext W) V,bc ax.u an.i Ψ (aa.ext W) Y,bB,ad];refine⟨λaf=>⟨by rw[decide_eq_false];intro he;rw[he,Y] at V;exact af (Z6 V).symm,W⟩,λhe=>?_⟩;rw[aN];refine ac _ _ ⟨W,?_⟩;rw[r9,r9,J,V,Y,X2.1 he]
 .rintro _ U k ⟨X,J⟩;rw[ao,ad];refine⟨λh=>Ω,λ_=>⟨?_,X⟩⟩;rw[o9,ab,o9] at J;rw[decide_eq_true J]
def gl (w:x2) (B I:Nat) (x:cd):Prop:=∃ay au bV J U V,ae w I aW [ay,au,Δ x.other,bV]/\aq .i64 an w J ay x.scope/\aq .i64 an w U au x.sizes/\je w V bV x.lines/\(∀r,leads ay r\/leads au r->B<=r)/\(∀r,leads ay r->¬leads au r)/\B<=I
def AH (w:x2) (r:Nat):Prop:=(∃e c,ae w r e c/\e≠an/\e≠b2/\e≠aW)\/w.heap.size<=r
theorem gl.dq {U:Nat} {x:cd} (h:gl w B U x) (J:af S w w') (Y:∀r,S r->AH w r):gl w' B U x:=by
 obtain⟨ay,au,bV,aa,ab,ac,h1,ad,ae,ag,ah,ai,aj⟩:=h;have W:∀r,S r->gk w r\/w.heap.size<=r:=λr ak=>(Y r ak).imp (λ⟨e,c,X,al,am,_⟩=>⟨e,c,X,al,am⟩) id;refine⟨ay,au,bV,aa,ab,ac,h1.V J λI=>?_,ed ad J W,ed ae J W,ag.dq J W,ah,ai,aj⟩;rcases Y U I with⟨e,c,X,_,_,an⟩|ao
 .exact an (eu X h1)
 .have:=h1.lt;omega
theorem gl.ext {x:cd} (h:gl w B I x) (J:Ext w w'):gl w' B I x:=h.dq (J.V λ_=>False) λ_ h=>h.elim
theorem jg {g:Nat} {H:ai} {so:Option aG} (h:bE w g B H N so):∀r,r=g->AH w r:=λr I=>by
 subst I;obtain⟨U,V,W,bad,X,big,Y,told,sv,J,_⟩:=gS h;exact .inl ⟨_,_,J,Φ,Φ,Φ⟩
def fU (g B:Nat):ai:=λr=>r=g\/B<=r
theorem J5 {n:Int} {k:Nat} {acc:List Int} {s:aG}:cz (λacc s=>match ba 0 (n-1) s with
 |none=>ν
 |some (v,s)=>if v∈acc then ν else σ (v,s)) (k+1) acc s=match ba 0 (n-1) s with
  |none=>ν
  |some (v,s')=>if v∈acc then ν else cz (λacc s=>match ba 0 (n-1) s with
 |none=>ν
 |some (v,s)=>if v∈acc then ν else σ (v,s)) k (acc++[v]) s':=by
 rw[cz];cases ba 0 (n-1) s with
 |none=>rfl
 |some q=>
  obtain⟨v,s'⟩:=q;simp only;by_cases I:v∈acc
  .rw[if_pos I,if_pos I]
  .rw[if_neg I,if_neg I]
def AI (n:Int) (k:Nat) (acc:List Int) (s:aG):Option (List Int×aG):=cz (λacc s=>match ba 0 (n-1) s with
 |none=>ν
 |some (v,s)=>if v∈acc then ν else σ (v,s)) k acc s
theorem AJ {g b1 ar:Nat} {H:ai} {s:aG} {so:Option aG} {aO:x1} {bo bp:x2->Prop} (aH:bE w g B H N so) (cq:so=σ s\/(so=ν/\ar=0)) (cr:gl w B X ⟨[],[],0,[]⟩) (ct:∀c,ae w X aW c->c[3]? =σ (.slice ν 0 0)) (b2:aq .i64 an w b1 aO all) (cu:∀r,leads aO r->r<B) (dF:all.length<=100001) (dG:ar<=4611686018427387904) (bq:so=σ s->s.toks.length<=100000)
  (a2:so=σ s-> ∀w' x,af (fU g B) w w'->eE all.length ar s=ν->bE w' g B H N ν->gl w' B X x->bo w')
  (cw:so=ν->bp w)
  (br:so=σ s-> ∀w' scope s',af (fU g B) w w'->eE all.length ar s=σ (scope,s')->bE w' g B H N (σ s')->gl w' B X ⟨scope,scope.map λv=>all.getD v.toNat 0,0,[]⟩->(∀c,ae w' X aW c->c[3]? =σ (.slice ν 0 0))->bp w'):
  bZ (Δ 0) w λi Y k=>
   bx (α:=x1->x2->Prop) (λ(cz:x1) (av:x2)=>
    Split cz (J x3 (Y3 #[ax] ab #[aO]) av λt53=>
   J x3 (aB .sub an false true t53 (Δ 1)) av λcA=>
   aj x3 kd [Γ g,(Δ 0),cA] av λt55 ag=>
   J x3 (Z8 t55 0) ag λbt=>
   J x3 (Z8 t55 1) ag λcB=>
   J x3 (aX (Γ g)) ag λcC=>
   J x3 (x7 bm cC 3) ag λcD=>
   J x3 (x5 ab cD) ag λcE=>
   J x3 (aB .neq ab false true cE (Δ 0)) ag λcF=>
   Split cF (bo ag)
    (J x3 (x7 aW (Γ X) 0) ag λcG=>
   J x3 (x5 ax cG) ag λb3=>
   J x3 (Y3 #[ax] ab #[b3]) ag λt66=>
   bZ (Δ 0) ag λbu ak cH=>
    J x3 (aB .lss ab false false bu t66) ak λcI=>
    Split cI (J x3 (n0 ax b3 bu) ak λcJ=>
    J x3 (x5 an cJ) ak λt70=>
    J x3 (aB .eql an false false t70 bt) ak λcK=>
    Split cK (aj x3 lK [Γ g,(Δ 4),cB] ak λt76 bw=>bo bw)
     (J x3 (aB .add ab false true bu (Δ 1)) ak λcL=>
    cH cL ak))
     (J x3 (x7 aW (Γ X) 0) ak λcM=>
   J x3 (x5 ax cM) ak λcN=>
   az x3 (Z7 ax 1 #[(0,bt)]) ak λcO aR=>
   az x3 (l7 #[ax,ax] ax #[cN,cO]) aR λcP bz=>
   J x3 (x7 aW (Γ X) 0) bz λcQ=>
   az x3 (o4 ax cQ cP) bz λ(_:Unit) aC=>
   cj aC λaE=>
   J x3 (x7 aW (Γ X) 1) aE λbB=>
   J x3 (x5 ax bB) aE λb4=>
   J x3 (n0 ax aO bt) aE λcR=>
   J x3 (x5 an cR) aE λcS=>
   az x3 (Z7 ax 1 #[(0,cS)]) aE λcT aM=>
    (Ext aE aM\/bk x3 (x5 ax bB) b4 aM/\bk x3 (x7 aW (Γ X) 1) bB aM/\True)/\
   az x3 (l7 #[ax,ax] ax #[b4,cT]) aM λcU bC=>
    J x3 (x7 aW (Γ X) 1) bC λcV=>
    az x3 (o4 ax cV cU) bC λ(_:Unit) aF=>
     J x3 (aB .add an false true i (Δ 1)) aF λcW=>
   k cW aF)))
     (bp av)) λb5=>
   J x3 (aB .lss an false false i (Δ (ar:Int))) Y λcY=>
   Split cY (J x3 (aX (Γ g)) Y λcZ=>
   J x3 (x7 bm cZ 3) Y λc0=>
   J x3 (x5 ab c0) Y λt45=>
   J x3 (aB .eql ab false true t45 (Δ 0)) Y λt46=>
   b5 t46 Y)
    (b5 (.bool false) Y):=by
 have dH:=aH.lt;rcases cq with rfl|⟨rfl,rfl⟩
 rotate_left
 .refine bZ.range 0 (λ_ U=>w=U) Ω rfl (λi U k hi=>Ω) ?_;rintro _ k rfl;refine aP (λv av=>w=av/\v= .bool false) ?_ ?_
  .rintro _ _ ⟨rfl,rfl⟩;rw[aQ];exact cw rfl
  .intro b6 aT;rw[ao,ad];exact⟨λh=>Ω,λ_=>aT _ _ ⟨rfl,rfl⟩⟩
 have h:=aH;have bq:=bq rfl;have a2:=a2 rfl;have br:=br rfl;refine bZ.range ar (λi Y=>∃scope aw,af (fU g B) w Y/\bE Y g B H N (σ aw)/\gl Y B X ⟨scope,scope.map λv=>all.getD v.toNat 0,0,[]⟩/\scope.length=i/\scope.length+aw.toks.length<=100000/\eE all.length ar s=AI all.length (ar-i) scope aw/\ ∀c,ae Y X aW c->c[3]? =σ (.slice ν 0 0)) Ω ⟨[],s,af.refl _ _,h,cr,rfl,by simpa using bq,rfl,ct⟩ ?_ ?_
 rotate_left
 .rintro Y k ⟨scope,aw,a6,aD,a7,b8,c1,ah,bD⟩;refine aP (λv av=>Y=av/\v= .bool false) ?_ ?_
  .rintro _ _ ⟨rfl,rfl⟩;rw[aQ];rw[W7] at ah;exact br Y scope aw a6 ah aD a7 bD
  .intro b6 aT;rw[ao,ad];exact⟨λh=>Ω,λ_=>aT _ _ ⟨rfl,rfl⟩⟩
 rintro i Y k hi ⟨scope,aw,a6,aD,a7,b8,c1,ah,bD⟩ c2;refine aP (λv av=>Y=av/\v= .bool true) ?_ ?_
 rotate_left
 .intro b6 aT;rw[ao,ad];refine⟨λ_=>?_,λh=>Ω⟩;rw[jP aD];exact aT _ _ ⟨rfl,rfl⟩
 rintro _ _ ⟨rfl,rfl⟩;rw[bO];have b9:∀ {w':x2},af (fU g B) w w'->aq .i64 an w' b1 aO all:=λc3=>bb b2 c3 λr W I=>by
  rcases I with rfl|I
  .obtain⟨c4,al,aU,bad,c5,big,c6,told,sv,am,_⟩:=gS h;exact bU b2 am Φ W rfl
  .have:=cu r W;omega
 rw[aS ax.u (b9 a6).ls,cX,wrap_i64 Ω Ω];refine (jf aD).mono ?_;rintro _ ag _ ⟨⟨bF,ap⟩,n,at_,rfl,bG,c7⟩;rw[aK (v:=Δ n) rfl,aK (v:=Δ at_) rfl,pu ap];have bH:=a7.dq bF (jg aD);have bI:af (fU g B) w ag:=a6.trans (bF.mono λr _ h=>.inl h);have c8:=J5 (n:=(all.length:Int)) (k:=ar-(i+1)) (acc:=scope) (s:=aw);have c9:ar-i=(ar-(i+1))+1:=Ω
 rw[c9] at ah;unfold AI at ah;rw[c8] at ah;have da:aZ 0 ((all.length:Int)-1) (σ aw)=ba 0 ((all.length:Int)-1) aw:=rfl;rw[da] at ap bG c7 ⊢;cases a8:ba 0 ((all.length:Int)-1) aw with
 |none=>
  rw[a8] at ap ah;rw[Option.map_none,Option.isSome_none,X4,bO];exact a2 ag _ bI ah ap bH
 |some q=>
  obtain⟨v,bJ⟩:=q;rw[a8] at ap ah bG;have db:n=v:=bG _ rfl;subst db;have dI:=(gN a8).1;have dK:=(dh a8).1;simp only at ah;rw[Y0,Option.isSome_some,Y1,aQ];have ap:bE ag g B H N (σ bJ):=ap;obtain⟨ay,au,bV,dL,dc,bK,f1,f2,f3,f4,f5,f6,f7⟩:=id bH;rw[aa aW.p rfl,ac Ψ (f1.cell (o:=0+0) rfl),aS ax.u f2.ls];have dM:scope.length<=100000:=Ω
  refine bZ.range scope.length (λj ak=>ag=ak/\n∉scope.take j) Ω ⟨rfl,Ξ⟩ ?_ ?_
  .rintro j _ dd de ⟨rfl,bd⟩ df;obtain⟨u,hu⟩:∃u,scope[j]? =σ u:=⟨_,y0 de⟩;rw[ao,ad];refine⟨λ_=>?_,λh=>by simp only at h;omega⟩;rw[bc ax.u an.i Ψ f2.ls hu,bi,ad];refine⟨λhe=>?_,λdg=>?_⟩
   .refine (mu ap Ω).mono ?_;rintro _ bw _ ⟨ca,di⟩;rw[if_pos (by rw[<-he];exact x6 hu)] at ah;exact a2 bw _ (bI.trans (ca.mono λr _ h=>.inl h)) ah di (bH.dq ca (jg ap))
   .rw[aN];refine df _ ⟨rfl,?_⟩;rw[r9,hu];intro hm;rcases n9.1 hm with hm|hm
    .exact bd hm
    .simp at hm;exact dg hm.symm
  .rintro _ dd ⟨rfl,bd⟩;rw[o9] at bd;rw[ao,ad];refine⟨λh=>by simp only at h;omega,λ_=>?_⟩;rw[if_neg bd] at ah;rw[aa aW.p rfl,ac Ψ (f1.cell (o:=0+0) rfl)];refine dJ ax.u an.i rfl λdN dO aR dP aA dj=>?_;have dQ:=ap.lt;refine fz ax.u an.i rfl (f2.ext aA) dj.ls Θ Θ λaI bL bz be dk cb=>?_;have bf:=f1.ext aA;have f113:=bf.V cb λhe=>bU (f2.ext aA) bf Φ he rfl;rw[aa aW.p rfl];refine bj (g:=X) (o:=0) ax.i be.ls.cells.1 be.ls.cells.2 f113 Ξ λaC cc dR bg=>?_;have bg:ae aC X aW [aI,au,Δ 0,bV]:=bg;intro aE bM _ _;have aV:af (λr=>leads ay r\/r=X) aR aC:=(cb.mono λr _ h=>.inl h).trans (cc.mono λr _ h=>.inr h);have cd:∀r,(leads ay r\/r=X)->fU g B r:=λr W=>.inr (W.elim (λW=>f5 r (.inl W)) λW=>W▸f7);have ce:af (fU g B) w aC:=(bI.trans (aA.V _)).trans (aV.mono λr _ W=>cd r W);have dl:af (fU g B) w aE:=ce.trans (bM.V _);have dm:aq .i64 an aC dc au _:=bb (f3.ext aA) aV λr W I=>by
    rcases I with I|rfl
    .exact f6 r I W
    .exact bU (f3.ext aA) bf Φ W rfl
   have dn:aq .i64 an aC bL aI (scope++[n]):=bb be cc λr W he=>by
    have he:r=X:=he;subst he;exact bU be f113 Φ W rfl
   have dp:∀r,(leads ay r\/r=X)->(∃c,ae aR r an c)\/ ∃c,ae aR r aW c:=λr W=>by
    rcases W with W|rfl
    .obtain⟨al,_⟩:=bA f2 W;obtain⟨_,⟨aY,_⟩|⟨_,cs,aY,am,_⟩⟩:=f2.ext aA
     .rw[aY] at W;obtain⟨a,dr,c,al,aU⟩:=W;cases al
     .exact .inl ⟨cs,al▸am⟩
    .exact .inr ⟨_,bf⟩
   have ds:je aC bK bV []:=by
    obtain⟨L,aJ,dt,bN⟩:=f4.dq (aA.V λ_=>False) λ_ h=>h.elim;have bP:L=[]:=List.map_eq_nil_iff.1 bN;subst bP;refine⟨[],aJ.V aV λr W I=>?_,λy bQ=>(by cases bQ),rfl⟩;rcases dp r I with⟨c,am⟩|⟨c,am⟩
    .exact b7 aJ am Φ W
    .exact b7 aJ am Φ W
   have du:bE aC g B H N (σ bJ):=(ap.ext aA).new aV λr W=>by
    rcases cd r W with rfl|h
    .rcases W with W|W
     .exact f5 _ (.inl W)
     .exact W▸f7
    .exact h
   rw[aa aW.p rfl,ac Ψ ((bg.ext bM).cell (o:=0+1) rfl)];have dv:all[n.toNat]? =σ (all.getD n.toNat 0):=by rw[u4,y0 Ω];rfl
   rw[dZ (y:=n) (i:=n.toNat) Ω ax.u an.i Ψ (b9 dl).ls dv];refine dJ ax.u an.i rfl λdS dT aM dU cg dw=>?_;refine⟨.inl cg,?_⟩;have aL:=bM.trans cg;have f316:=dm.ext aL;have ch:(scope.map λv=>all.getD v.toNat 0).length=scope.length:=u5 _;refine fz ax.u an.i rfl f316 dw.ls (by simp at ch ⊢;omega) (by simp at ch ⊢;omega) λbR dx bC bh ci ck=>?_;have bl:=bg.ext aL;have cl:=bl.V ck λhe=>bU f316 bl Φ he rfl;rw[aa aW.p rfl];refine bj (g:=X) (o:=1) ax.i bh.ls.cells.1 bh.ls.cells.2 cl Ξ λaF cm dV a1=>?_;have a1:ae aF X aW [aI,bR,Δ 0,bV]:=a1;rw[aN];have bn:af (λr=>leads au r\/r=X) aM aF:=(ck.mono λr _ h=>.inl h).trans (cm.mono λr _ h=>.inr h);have cn:∀r,(leads au r\/r=X)->B<=r:=λr W=>W.elim (λW=>f5 r (.inr W)) λW=>W▸f7;have bS:=dn.ext aL;have dW:=aA.size;have dX:=aV.size;have bT:∀r,leads aI r->B<=r/\¬leads au r:=λr W=>by
    rcases dk r W with h|h
    .exact⟨f5 r (.inl h),f6 r h⟩
    .exact⟨Ω,λbW=>by obtain⟨al,aU⟩:=bA f3 bW;omega⟩
   have dy:aq .i64 an aF bL aI (scope++[n]):=bb bS bn λr W I=>by
    rcases I with I|rfl
    .exact (bT r W).2 I
    .exact bU bS bl Φ W rfl
   have dz:=bb bh cm λr W he=>by
    have he:r=X:=he;subst he;exact bU bh cl Φ W rfl
   have dA:je aF bK bV []:=by
    obtain⟨L,aJ,dt,bN⟩:=ds.dq (aL.V λ_=>False) λ_ h=>h.elim;have bP:L=[]:=List.map_eq_nil_iff.1 bN;subst bP;refine⟨[],aJ.V bn λr W I=>?_,λy bQ=>(by cases bQ),rfl⟩;rcases I with I|rfl
    .obtain⟨al,_⟩:=bA f316 I;obtain⟨_,⟨aY,_⟩|⟨_,cs,aY,am,_⟩⟩:=f316
     .rw[aY] at I;obtain⟨a,dr,c,al,aU⟩:=I;cases al
     .exact b7 aJ (al▸am) Φ W
    .exact b7 aJ bl Φ W
   refine c2 _ ⟨scope++[n],bJ,((ce.trans (aL.V _)).trans (bn.mono λr _ W=>.inr (cn r W))),(du.ext aL).new bn cn,⟨aI,bR,bV,bL,dx,bK,a1,dy,by rw[Z4];exact dz,dA,λr W=>?_,λr W bW=>?_,f7⟩,by rw[r8,b8];rfl,by rw[r8];simp;omega,ah,λc bX=>?_⟩
   .rcases W with W|W
    .exact (bT r W).1
    .rcases ci r W with h|h
     .exact f5 r (.inr h)
     .have:=aL.size;omega
   .rcases ci r bW with h|h
    .exact (bT r W).2 h
    .obtain⟨al,aU⟩:=bA bS W;omega
   .have dC:c=[aI,bR,Δ 0,bV]:=by
     unfold ae at bX a1;rw[a1] at bX;have:=(Obj.cells.inj (Z6 bX)).1;exact (Array.toList_inj.2 this).symm
    have dD:bV= .slice ν 0 0:=by
     obtain⟨dY,ea,eb,_,_,_,bY,_⟩:=a7;have cp:=bD _ bY;have b0:=bY.V bF λhe=>by
      have he:X=g:=he;obtain⟨c4,al,aU,bad,c5,big,c6,told,sv,am,_⟩:=gS aD;subst he;exact absurd (eu am bY) Φ
     unfold ae at b0 f1;rw[f1] at b0;have dE:=Array.toList_inj.2 (Obj.cells.inj (Z6 b0)).1;have aD:=congrArg (λl=>l[3]?) dE;simp at aD;simp at cp;rw[aD,cp]
    rw[dC,dD];rfl
theorem J6 {ae:x1->x2->Prop} (h:aI .i64 w sv l) (h1:∀z∈l,1<=z) (am:∀c:Int,(4096<c↔c6 l=true)->ae (Δ c) w):
  bC (Δ 1) (Δ 0) w λcount X I ap=>
   J x3 (aB .lss ab false false X (Δ (l.length:Int))) I λaq=>
   Split aq (bx (α:=x1->x2->Prop) (λ(au:x1) (af:x2)=>
    J x3 (aB .add ab false true X (Δ 1)) af λav=>
    ap au av af) λag=>
   J x3 (n0 ax sv X) I λaw=>
   J x3 (x5 an aw) I λah=>
   bx (α:=x1->x2->Prop) (λ(ay:x1) (V:x2)=>
    J x3 (aB .mul an false false count ay) V λai=>
    J x3 (aB .gtr an false true ai (Δ 4096)) V λaz=>
    Split az (ag (Δ 4097) V)
     (ag ai V)) λaj=>
   J x3 (aB .gtr an false true ah (Δ 4096)) I λaA=>
   Split aA (aj (Δ 4097) I)
    (aj ah I))
    (ae count I):=by
 refine bC.range l.length (λi c U=>w=U/\ ∃p:Int,p=aL ((l.take i).map λk=>min k 4097)/\1<=p/\c=Δ (if 4096<p then 4097 else p)) h.le ⟨rfl,1,by simp[aL],Ω,by rw[if_neg Ω]⟩ ?_ ?_
 .rintro i _ _ aC hi ⟨rfl,p,W,aD,rfl⟩ aE;obtain⟨z,Y⟩:∃z,l[i]? =σ z:=⟨_,y0 hi⟩;have aG:=h1 z (x6 Y);have e:aL ((l.take (i+1)).map λk=>min k 4097)=p*min z 4097:=by
   rw[W,r9,Y,Z9,Z4,S2,List.map_nil,qW]
  have aJ:p*1<=p*min z 4097:=Int.mul_le_mul_of_nonneg_left Ω Ω;rw[ao,ad];refine⟨λ_=>?_,λh=>Ω⟩;refine aP (λv aa=>w=aa/\v=Δ (if 4096<p*min z 4097 then 4097 else p*min z 4097)) ?_ ?_
  .rintro _ _ ⟨rfl,rfl⟩;rw[aN];exact aE _ _ ⟨rfl,_,e.symm,Ω,rfl⟩
  intro aK ac;rw[bc ax.u an.i Ψ h Y];refine aP (λv aa=>w=aa/\v=Δ (min z 4097)) ?_ ?_
  .rintro _ _ ⟨rfl,rfl⟩;rw[fp];by_cases ak:4096<p
   .rw[if_pos ak];have aF:(4097:Int)*1<=4097*min z 4097:=Int.mul_le_mul_of_nonneg_left Ω Ω;rw[wrap_i64 Ω Ω,bP,ad];refine⟨λ_=>ac _ _ ⟨rfl,by rw[if_pos Ω]⟩,λaM=>Ω⟩
   .rw[if_neg ak];have aF:p*min z 4097<=4096*4097:=by
     have aO:=Int.mul_le_mul_of_nonneg_right (show p<=4096 by omega) (show 0<=min z 4097 by omega);have aQ:=Int.mul_le_mul_of_nonneg_left (show min z 4097<=4097 by omega) (show (0:Int)<=4096 by omega);omega
    rw[wrap_i64 Ω Ω,bP,ad];exact⟨λaH=>ac _ _ ⟨rfl,by rw[if_pos aH]⟩,λaH=>ac _ _ ⟨rfl,by rw[if_neg aH]⟩⟩
  .intro aR al;rw[bP,ad];exact⟨λaH=>al _ _ ⟨rfl,by congr 1;omega⟩,λaH=>al _ _ ⟨rfl,by congr 1;omega⟩⟩
 .rintro _ _ aC ⟨rfl,p,W,aD,rfl⟩;rw[o9] at W;rw[ao,ad];refine⟨λh=>Ω,λ_=>am _ ?_⟩;unfold c6;rw[<-W,decide_eq_true_eq];split
  .exact⟨λ_=>Ω,λ_=>Ω⟩
  .exact Iff.rfl
theorem J7 {g am aR:Nat} {H:ai} {so:Option aG} {au:x1} {aS:x2->Prop} (h:bE w g B H N so) (ap:aq .i64 an w aR au sizes) (bf:∀z∈sizes,1<=z/\z<=av) (bS:sizes.length<=100001)
  (aL:ae w am b2 [.slice ν 0 0,Δ 0]) (bg:B<=am)
  (aT:∀t w' aD X,t.length=sizes.length->af (λr=>r=g\/r=am\/w.heap.size<=r) w w'->ae w' am b2 [aD,Δ 0]->aq .i64 an w' X aD t->(∀r,leads aD r->w.heap.size<=r)->bE w' g B H N ((eG sizes [] so).map (·.2))->(∀q,eG sizes [] so=σ q->t=q.1)->aS w'):
  bZ (Δ 0) w λaM ag bh=>
      J x3 (aB .lss ab false false aM (Δ (sizes.length:Int))) ag λbi=>
      Split bi (J x3 (n0 ax au aM) ag λbk=>
      J x3 (x5 an bk) ag λbl=>
      J x3 (aB .sub an false true bl (Δ 1)) ag λbn=>
      aj x3 kd [Γ g,(Δ 0),bn] ag λaU aw=>
      J x3 (Z8 aU 0) aw λbo=>
      J x3 (Z8 aU 1) aw λbT=>
      J x3 (x7 b2 (Γ am) 0) aw λbp=>
      J x3 (x5 ax bp) aw λbq=>
      az x3 (Z7 ax 1 #[(0,bo)]) aw λbr bt=>
      az x3 (l7 #[ax,ax] ax #[bq,br]) bt λbu aV=>
      J x3 (x7 b2 (Γ am) 0) aV λbw=>
      az x3 (o4 ax bw bu) aV λ(_:Unit) aW=>
      J x3 (aB .add ab false true aM (Δ 1)) aW λbx=>
      bh bx aW)
       (aS ag):=by
 have bV:=aL.lt;have bW:=h.lt;refine bZ.range sizes.length (λj U=>∃t aD X s1,t.length=j/\af (λr=>r=g\/r=am\/w.heap.size<=r) w U/\ae U am b2 [aD,Δ 0]/\aq .i64 an U X aD t/\(∀r,leads aD r->w.heap.size<=r)/\bE U g B H N s1/\eG sizes [] so=eG (sizes.drop j) t s1) ap.ls.le
  ⟨[],_,0,so,rfl,af.refl _ _,aL,aq.nil _ _ _ _,(λr W=>by obtain⟨a,n,c,aE,aO⟩:=W;cases aE),h,rfl⟩ ?_ ?_
 rotate_left
 .rintro U bz ⟨t,aD,X,s1,aF,ah,aH,ay,ak,aA,he⟩;rw[ao,ad];refine⟨λh=>Ω,λ_=>?_⟩;rw[List.drop_length] at he;cases s1 with
  |none=>
   have he:eG sizes [] so=ν:=he;exact aT t U aD X aF ah aH ay ak (by rw[he];exact aA) (λq Y=>by rw[he] at Y;cases Y)
  |some s1=>
   have he:eG sizes [] so=σ (t,s1):=he;exact aT t U aD X aF ah aH ay ak (by rw[he];exact aA) (λq Y=>by rw[he] at Y;cases Y;rfl)
 rintro j U bz aX ⟨t,aD,X,s1,aF,ah,aH,ay,ak,aA,he⟩ bB;obtain⟨z,aP⟩:∃z,sizes[j]? =σ z:=⟨_,y0 aX⟩;have bC:=bf z (x6 aP);have bX:z<=4611686018427387904:=bC.2;have bD:aq .i64 an U aR au sizes:=bb ap ah λr W I=>by
  rcases I with rfl|rfl|I
  .obtain⟨bF,aE,aO,bad,bG,big,bH,told,sv,aC,_⟩:=gS h;exact bU ap aC Φ W rfl
  .exact bU ap aL Φ W rfl
  .obtain⟨aE,aO⟩:=bA ap W;omega
 rw[ao,ad];refine⟨λ_=>?_,λh=>Ω⟩;rw[bc ax.u an.i Ψ bD.ls aP,cX,wrap_i64 Ω Ω];refine (jf aA).mono ?_;rintro _ bI _ ⟨⟨aI,bJ⟩,n,at_,rfl,bK,bY⟩;rw[aK (v:=Δ n) rfl,aK (v:=Δ at_) rfl];have bL:am≠g:=Ω
 have aY:=aH.V aI λhe=>bL he;have bM:∃c,ae U g bm c:=by obtain⟨bF,aE,aO,bad,bG,big,bH,told,sv,aC,_⟩:=gS aA;exact⟨_,aC⟩
 have a1:aq .i64 an bI X aD t:=bb ay aI λr W he=>by
  have he:r=g:=he;obtain⟨c,aC⟩:=bM;exact bU ay aC Φ W he
 rw[aa b2.p rfl,ac Ψ (aY.cell (o:=0+0) rfl)];refine dJ ax.u an.i rfl λa3 b0 bN b1 al bO=>?_;refine fz ax.u an.i rfl (a1.ext al) bO.ls Θ Θ λa2 bP b3 aJ bQ a6=>?_;have a7:=aY.ext al;have a8:=a7.V a6 λhe=>bU (a1.ext al) a7 Φ he rfl;rw[aa b2.p rfl];refine bj (g:=am) (o:=0) ax.i aJ.ls.cells.1 aJ.ls.cells.2 a8 Ξ λba bd b4 aQ=>?_;have aQ:ae ba am b2 [a2,Δ 0]:=aQ;rw[aN];have be:af (λr=>leads aD r\/r=am) bN ba:=(a6.mono λr _ h=>.inl h).trans (bd.mono λr _ h=>.inr h);have b5:=ah.size;have b6:=aI.size;have z3:=al.size;refine bB _ ⟨t++[n],a2,bP,(aZ 0 (z-1) s1).map (·.2),by simp[aF],?_,aQ,bb aJ bd λr W he=>?_,λr W=>?_,?_,?_⟩
 .refine (ah.trans (aI.mono λr _ h=>.inl h)).trans ((al.V _).trans (be.mono λr _ h=>?_));exact h.elim (λh=>.inr (.inr (ak r h))) λh=>.inr (.inl h)
 .have he:r=am:=he;subst he;exact bU aJ a8 Φ W rfl
 .rcases bQ r W with h|h
  .exact ak r h
  .omega
 .refine (bJ.ext al).new be λr W=>?_;rcases W with W|rfl
  .have:=ak r W;omega
  .exact bg
 .rw[he];have bR:sizes.drop j=z::sizes.drop (j+1):=by rw[W8 aX,(x4.1 aP).2]
  rw[bR,zf];cases Y:aZ 0 (z-1) s1 with
  |none=>rfl
  |some q=>
   obtain⟨v,b7⟩:=q;have:=bK _ Y;subst this;rfl
theorem uv {g:Nat} {c:Int} (h:aq .i64 an w g v t):∀u∈mr ⟨v,t,c⟩,u.oneCell'=true:=by
 intro u hu;simp[mr] at hu;rcases hu with rfl|rfl
 .exact h.ls.cells.2
 .rfl
def J8 (sizes:List Int) (cnt i:Nat) (s0:aG) (A:List (List Int×Int)) (so:Option aG):Prop:=(∃s,so=σ s/\cz (dw sizes) cnt [] s0=cz (dw sizes) (cnt-i) A s/\A.length+s.toks.length<=100000)\/(so=ν/\cz (dw sizes) cnt [] s0=ν)
theorem J9 {g bp bq aE:Nat} {H:ai} {s0:aG} {ay au bV:x1} {scope:List Int} {o n:Int} {a2:List (List Int×Int)} {ce:x2->Prop} (h:bE w g B H N (σ s0)) (f1:ae w ag aW [ay,au,Δ o,bV]) (f2:aq .i64 an w bp ay scope) (f3:aq .i64 an w bq au sizes) (f4:je w aE bV a2)
  (f5:∀r,leads ay r\/leads au r->B<=r) (f6:∀r,leads ay r->¬leads au r) (f7:B<=ag) (c5:∀z∈sizes,1<=z/\z<=av) (c6:sizes.length<=100001) (e5:n<=4611686018427387904) (bK:0<n->a2=[]/\ ∀r,¬leadsTo bV r) (c7:s0.toks.length<=100000)
  (cg:∀w' A bL,af (fU g B) w w'->gl w' B ag ⟨scope,sizes,o,A⟩->bE w' g B H N bL->(n<=0->A=a2/\bL=σ s0)->(0<n->bL=(cz (dw sizes) n.toNat [] s0).map (·.2)/\ ∀q,cz (dw sizes) n.toNat [] s0=σ q->A=q.1)->ce w'):
  bZ (Δ 0) w λch aJ c8=>
     bx (α:=x1->x2->Prop) (λ(c9:x1) (ci:x2)=>
      Split c9 (az x3 (S6 b2 true (.tuple #[])) ci λx aF=>
     J x3 (x7 aW (Γ ag) 1) aF λda=>
     J x3 (x5 ax da) aF λcj=>
     J x3 (Y3 #[ax] ab #[cj]) aF λdb=>
     bZ (Δ 0) aF λbM aL dd=>
      J x3 (aB .lss ab false false bM db) aL λde=>
      Split de (J x3 (n0 ax cj bM) aL λdf=>
      J x3 (x5 an df) aL λdg=>
      J x3 (aB .sub an false true dg (Δ 1)) aL λdj=>
      aj x3 kd [Γ g,(Δ 0),dj] aL λck a6=>
      J x3 (Z8 ck 0) a6 λdk=>
      J x3 (Z8 ck 1) a6 λe6=>
      J x3 (x7 b2 x 0) a6 λdl=>
      J x3 (x5 ax dl) a6 λdm=>
      az x3 (Z7 ax 1 #[(0,dk)]) a6 λdn dp=>
      az x3 (l7 #[ax,ax] ax #[dm,dn]) dp λdr cl=>
      J x3 (x7 b2 x 0) cl λds=>
      az x3 (o4 ax ds dr) cl λ(_:Unit) cm=>
      J x3 (aB .add ab false true bM (Δ 1)) cm λdu=>
      dd du cm)
       (aj x3 kd [Γ g,(Δ 0),(Δ 4611686018427387904)] aL λcn X=>
     J x3 (Z8 cn 0) X λdv=>
     J x3 (Z8 cn 1) X λdx=>
     J x3 (x7 aW (Γ ag) 3) X λdy=>
     J x3 (x5 dG dy) X λcp=>
     J x3 (Y3 #[dG] ab #[cp]) X λdz=>
     bZ (Δ 0) X λbN ah dA=>
      J x3 (aB .lss ab false false bN dz) ah λdC=>
      Split dC (bx (α:=x2->Prop) (λ(aV:x2)=>
       J x3 (aB .add ab false true bN (Δ 1)) aV λdD=>
       dA dD aV) λcq=>
      J x3 (n0 dG cp bN) ah λdE=>
      J x3 (x5 b2 dE) ah λdF=>
      az x3 (S6 b2 true (.tuple #[])) ah λy cr=>
      az x3 (o4 b2 y dF) cr λ(_:Unit) ak=>
      bx (α:=x1->x2->Prop) (λ(dH:x1) (a7:x2)=>
       Split dH (aj x3 lK [Γ g,(Δ 4),dx] a7 λe7 ct=>
        cq ct)
        (cq a7)) λcu=>
      J x3 (aX (Γ g)) ak λdI=>
      J x3 (x7 bm dI 3) ak λdJ=>
      J x3 (x5 ab dJ) ak λdK=>
      J x3 (aB .eql ab false true dK (Δ 0)) ak λdL=>
      Split dL (J x3 (x7 b2 x 0) ak λdM=>
       J x3 (x5 ax dM) ak λdN=>
      J x3 (x7 b2 y 0) ak λdO=>
      J x3 (x5 ax dO) ak λdP=>
      aj x3 qo [dN,dP] ak λdQ cw=>
      cu dQ cw)
       (cu (.bool false) ak))
       (J x3 (x7 b2 x 1) ah λdR=>
     az x3 (o4 an dR dv) ah λ(_:Unit) aH=>
     J x3 (x7 aW (Γ ag) 3) aH λdS=>
     J x3 (x5 dG dS) aH λdT=>
     J x3 (x5 b2 x) aH λdU=>
     az x3 (Z7 dG 1 #[(0,dU)]) aH λdV br=>
     az x3 (l7 #[dG,dG] dG #[dT,dV]) br λdW bP=>
     J x3 (x7 aW (Γ ag) 3) bP λdX=>
     az x3 (o4 dG dX dW) bP λ(_:Unit) aI=>
     J x3 (aB .add an false true ch (Δ 1)) aI λdY=>
     c8 dY aI)))
       (ce ci)) λcA=>
     J x3 (aB .lss an false false ch (Δ n)) aJ λdZ=>
     Split dZ (J x3 (aX (Γ g)) aJ λea=>
     J x3 (x7 bm ea 3) aJ λeb=>
     J x3 (x5 ab eb) aJ λec=>
     J x3 (aB .eql ab false true ec (Δ 0)) aJ λee=>
     cA ee aJ)
      (cA (.bool false) aJ):=by
 have ef:=h.lt;refine bZ.range n.toNat (λi U=>∃A so bV aE,af (fU g B) w U/\ae U ag aW [ay,au,Δ o,bV]/\aq .i64 an U bp ay scope/\aq .i64 an U bq au sizes/\je U aE bV A/\(0<n-> ∀r,leadsTo bV r->B<=r)/\bE U g B H N so/\(n<=0->A=a2/\so=σ s0)/\(0<n->J8 sizes n.toNat i s0 A so)) Ω
  ⟨a2,σ s0,bV,aE,af.refl _ _,f1,f2,f3,f4,λaA r W=>absurd W ((bK aA).2 r),h,λ_=>⟨rfl,rfl⟩,λaA=>.inl ⟨s0,rfl,by rw[(bK aA).1];rfl,by rw[(bK aA).1];simpa using c7⟩⟩ ?_ ?_
 rotate_left
 .rintro U k ⟨A,so,bV,aE,a8,aY,bu,bc,bd,bQ,aM,cB,Y⟩;refine aP (λv bR=>U=bR/\v= .bool false) ?_ ?_
  .rintro _ _ ⟨rfl,rfl⟩;rw[aQ];refine cg U A so a8 ⟨ay,au,bV,bp,bq,aE,aY,bu,bc,bd,f5,f6,f7⟩ aM cB λaA=>?_;rcases Y aA with⟨s,rfl,he,_⟩|⟨rfl,he⟩
   .rw[W7] at he;rw[he];exact⟨rfl,λq al=>by cases al;rfl⟩
   .rw[he];exact⟨rfl,λq al=>by cases al⟩
  .intro eg bS;rw[ao,ad];exact⟨λh=>Ω,λ_=>bS _ _ ⟨rfl,rfl⟩⟩
 rintro i U k hi ⟨A,so,bV,aE,a8,aY,bu,bc,bd,bQ,aM,cB,Y⟩ eh;have aA:0<n:=Ω
 refine aP (λv bR=>U=bR/\v= .bool so.isSome) ?_ ?_
 rotate_left
 .intro eg bS;rw[ao,ad];refine⟨λ_=>?_,λh=>Ω⟩;rw[jP aM];exact bS _ _ ⟨rfl,rfl⟩
 rintro _ _ ⟨rfl,rfl⟩;rcases Y aA with⟨cc,rfl,he,e8⟩|⟨rfl,he⟩
 rotate_left
 .rw[Option.isSome_none,aQ];refine cg U A ν a8 ⟨ay,au,bV,bp,bq,aE,aY,bu,bc,bd,f5,f6,f7⟩ aM (λh=>Ω) λ_=>?_;rw[he];exact⟨rfl,λq al=>by cases al⟩
 rw[Option.isSome_some,bO];have e9:=aM.lt;refine bt b2.i λam aF fa be bT=>?_;have bT:ae aF am b2 [.slice ν 0 0,Δ 0]:=bT;have ei:=aY.ext be;have cC:=bc.ext be;have fb:=be.size;have fc:=aY.lt;rw[aa aW.p rfl,ac Ψ (ei.cell (o:=0+1) rfl),aS ax.u cC.ls];refine J7 (aM.ext be) cC c5 c6 bT Ω λt aL aD cD fd ej ek em en eo ep=>?_;refine (jf eo).mono ?_;rintro _ X _ ⟨⟨bW,bw⟩,c,at_,rfl,er,fe⟩;rw[aK (v:=Δ c) rfl,aK (v:=Δ at_) rfl];have bX:am≠g:=Ω
 have cE:ag≠g:=by have:=h.lt;omega
 have es:af (λr=>r=g\/r=am\/aF.heap.size<=r) aF X:=ej.trans (bW.mono λr _ h=>.inl h);have cF:∀ {S:Nat->Prop},(∀r,S r->r=g\/U.heap.size<=r)-> ∀r,S r->gk U r\/U.heap.size<=r:=λet r W=>(et r W).imp (λhe=>by
  subst he;obtain⟨cG,bf,bg,bad,cH,big,cI,told,sv,Y,_⟩:=gS aM;exact⟨_,_,Y,Φ,Φ⟩) id
 have bz:af (λr=>r=g\/U.heap.size<=r) U X:=(be.V _).trans (es.mono λr _ h=>h.elim .inl λh=>h.elim (λh=>.inr Ω) λh=>.inr Ω);have cJ:ae X ag aW [ay,au,Δ o,bV]:=aY.V bz λh=>h.elim cE λh=>Ω
 obtain⟨L,bA,cK,bY⟩:=bd.dq bz (cF λr W=>W);have cL:ae X am b2 [aD,Δ 0]:=ek.V bW λhe=>bX he;have cM:aq .i64 an X cD aD t:=bb em bW λr W he=>by
  have he:r=g:=he;have:=en r W;omega
 have ff:L.length=A.length:=by rw[<-bY,u5]
 rw[aa aW.p rfl,ac Ψ (cJ.cell (o:=0+3) rfl),dc dG.u bA];generalize cN:(aZ 0 4611686018427387904 (V7 (λx=>x.snd) (eG sizes [] (σ cc)))).map (·.2)=aO at bw;have fg:=bz.size;refine bZ.range L.length (λj ah=>af (λr=>r=g) X ah/\bE ah g B H N (if t∈(L.take j).map (·.t) then ν else aO)) bA.le ⟨af.refl _ _,by simpa using bw⟩ ?_ ?_
 .rintro j ah eu cQ ⟨ap,bh⟩ ev;obtain⟨y,aw⟩:∃y,L[j]? =σ y:=⟨_,y0 cQ⟩;have b0:∃c,ae X g bm c:=by obtain⟨cG,bf,bg,bad,cH,big,cI,told,sv,Y,_⟩:=gS bw;exact⟨_,Y⟩
  have aR:∀r,r=g->gk X r\/X.heap.size<=r:=λr W=>by
   subst W;obtain⟨c,Y⟩:=b0;exact .inl ⟨_,c,Y,Φ,Φ⟩
  have bB:=ut bA ap λr W=>(aR r W).imp (λ⟨e,c,Y,_,bi⟩=>⟨e,c,Y,bi⟩) id;obtain⟨fh,ew⟩:=cK y (x6 aw);have cR:=ed ew ap aR;have b1:=ed cM ap aR;have bC:=cL.V ap λhe=>bX he;rw[ao,ad];refine⟨λ_=>?_,λh=>Ω⟩;have b3:t∈(L.take (j+1)).map (·.t)↔t∈(L.take j).map (·.t)\/t=y.t:=by
   rw[r9,aw,Z9,Z4,n9];simp
  refine dt (λaV=>af (λr=>r=g) X aV/\bE aV g B H N (if t∈(L.take (j+1)).map (·.t) then ν else aO)) ?_ ?_
  .rintro aV ey;rw[aN];exact ev _ ey
  intro fi cS;rw[cO rfl dG.u b2.i bB cQ,bn b2.p b2.i rfl (bB.range aw)];refine bt b2.i λaT cr fj ez eA=>?_;refine bJ (vs:=mr y) b2.i rfl rfl (uv cR) eA λak eB fk eC=>?_;have bk:Ext ah ak:=ez.then eB λr W he=>by have he:r=aT:=he;omega
  have cT:=bh.ext bk;have cU:af (λr=>r=g) X ak:=ap.trans (bk.V _);refine aP (λv a7=>∃b:Bool,v= .bool b/\Ext ak a7/\(b=true->t=y.t)/\(b=false->t≠y.t\/(if t∈(L.take j).map (·.t) then ν else aO)=ν)) ?_ ?_
  .rintro _ a7 ⟨b,rfl,b4,eD,eE⟩;have aU:=cT.ext b4;cases b with
   |true=>
    rw[bO];refine (mu aU Ω).mono ?_;rintro _ ct _ ⟨eF,eH⟩;refine cS _ ⟨(cU.trans (b4.V _)).trans eF,?_⟩;rw[if_pos (b3.2 (.inr (eD rfl)))];exact eH
   |false=>
    rw[aQ];refine cS _ ⟨cU.trans (b4.V _),?_⟩;by_cases hm:t∈(L.take j).map (·.t)
    .rw[if_pos (b3.2 (.inl hm))];rw[if_pos hm] at aU;exact aU
    .rw[if_neg hm] at aU;rcases eE rfl with bi|cV
     .rw[if_neg (λh=>(b3.1 h).elim hm bi)];exact aU
     .rw[if_neg hm] at cV;rw[cV] at aU ⊢;split <;> exact aU
  .intro fm cW;rw[jP cT];cases bl:(if t∈(L.take j).map (·.t) then ν else aO) with
   |none=>
    rw[Option.isSome_none,aQ];exact cW _ _ ⟨false,rfl,Ext.refl _,(λh=>by cases h),λ_=>.inr bl⟩
   |some fo=>
    rw[Option.isSome_some,bO];have eI:=bC.ext bk;rw[aa b2.p rfl,ac Ψ (eI.cell (o:=0+0) rfl),aa b2.p rfl,ac Ψ (eC.cell (o:=0+0) rfl)];refine (uu (b1.ls.ext bk) (cR.ls.ext bk)).mono ?_;rintro _ cw _ ⟨rfl,eJ⟩;exact cW _ _ ⟨_,rfl,eJ,λh=>of_decide_eq_true h,λh=>.inl (of_decide_eq_false h)⟩
 .rintro ah eu ⟨ap,bh⟩;rw[o9] at bh;have eK:L.map (·.t)=A.map (·.1):=by rw[<-bY,List.map_map];rfl
  rw[eK] at bh;have b0:∃c,ae X g bm c:=by obtain⟨cG,bf,bg,bad,cH,big,cI,told,sv,Y,_⟩:=gS bw;exact⟨_,Y⟩
  have aR:∀r,r=g->gk X r\/X.heap.size<=r:=λr W=>by
   subst W;obtain⟨c,Y⟩:=b0;exact .inl ⟨_,c,Y,Φ,Φ⟩
  have cX:∀r,(r=g\/U.heap.size<=r)->gk U r\/U.heap.size<=r:=cF λr W=>W;have bD:af (λr=>r=g\/U.heap.size<=r) U ah:=bz.trans (ap.mono λr _ h=>.inl h);have eL:=cJ.V ap λhe=>cE he;have eM:=ed bu bD cX;have eN:=ed bc bD cX;have bB:=ut bA ap λr W=>(aR r W).imp (λ⟨e,c,Y,_,bi⟩=>⟨e,c,Y,bi⟩) id;have eO:∀y∈L,∃aT,aq .i64 an ah aT y.v y.t:=λy aw=>by
   obtain⟨aT,hm⟩:=cK y aw;exact⟨aT,ed hm ap aR⟩
  have b1:=ed cM ap aR;have bC:=cL.V ap λhe=>bX he;rw[ao,ad];refine⟨λh=>Ω,λ_=>?_⟩;rw[aa b2.p rfl];refine bj (g:=am) (o:=1) an.i rfl rfl bC Ξ λaH a1 fp b5=>?_;have b5:ae aH am b2 [aD,Δ c]:=b5;have eP:ag≠am:=Ω
  have cY:=eL.V a1 λhe=>eP he;have fq:U.heap.size<=am:=Ω
  have eQ:∀r,leadsTo bV r->r≠am:=λr W=>by obtain⟨bf,bg⟩:=bd.choose_spec.1.leads W;omega
  have eR:=bB.V a1 λr W he=>eQ r W he;rw[aa aW.p rfl,ac Ψ (cY.cell (o:=0+3) rfl),bn b2.p b2.i rfl b5.range];let a:ur:=⟨aD,t,c⟩;have bF:∀ {v:x1} {bo:Nat} {l:List Int},aq .i64 an ah bo v l->aq .i64 an aH bo v l:=λhm=>bb hm a1 λr W he=>by
   have he:r=am:=he;exact bU hm bC Φ W he
  have cZ:=bF b1;refine fM (f:=mr) (a:=a) dG.u b2.i Ω rfl rfl λv45 fs br ft aC eS=>?_;have b6:=eR.ext aC;refine gd (f:=mr) (a:=a) dG.u b2.i rfl b6 (by simpa using eS.sl) (uv (cZ.ext aC)) Ω Ω λb8 c0 bP bG eU c1=>?_;have b9:=cY.ext aC;have c2:=b9.V c1 λhe=>b7 b6 b9 Φ he;rw[aa aW.p rfl];refine bj (g:=ag) (o:=3) dG.i (cP bG.sl).1 (cP bG.sl).2 c2 Ξ λaI c3 fu ca=>?_;have ca:ae aI ag aW [ay,au,Δ o,b8]:=ca;rw[aN];have cb:af (λr=>leadsTo bV r\/r=ag) br aI:=(c1.mono λr _ h=>.inl h).trans (c3.mono λr _ h=>.inr h);have bH:∀ {v:x1} {bo:Nat} {l:List Int},aq .i64 an br bo v l->aq .i64 an aI bo v l:=λhm=>bb hm cb λr W I=>by
   rcases I with I|rfl
   .obtain⟨rfl,fv,Y⟩:=di b6 I;exact bU hm Y Φ W rfl
   .exact bU hm b9 Φ W rfl
  have c4:∀r,(leadsTo bV r\/r=ag)->B<=r:=λr W=>W.elim (λW=>bQ aA r W) λW=>W▸f7;have eV:bE aH g B H N (if t∈A.map (·.1) then ν else aO):=bh.new a1 λr W=>by
   have W:r=am:=W;omega
  have eW:=(eV.ext aC).new cb c4;have eX:af (fU g B) U aI:=((bD.mono λr _ h=>h.elim .inl λh=>.inr Ω).trans (a1.mono λr _ h=>.inr (by have h:r=am:=h;omega))).trans ((aC.V _).trans (cb.mono λr _ h=>.inr (c4 r h)));have eY:je aI c0 b8 (A++[(t,c)]):=⟨L++[a],bG.V c3 λr W he=>by
   have he:r=ag:=he;subst he;exact b7 bG c2 Φ W,λy aw=>by
   rcases n9.1 aw with aw|aw
   .obtain⟨aT,hm⟩:=eO y aw;exact⟨aT,bH ((bF hm).ext aC)⟩
   .rw[l9.1 aw];exact⟨cD,bH (cZ.ext aC)⟩,by rw[Z4,bY];rfl⟩
  refine eh _ ⟨A++[(t,c)],_,b8,c0,a8.trans eX,ca,bH ((bF eM).ext aC),bH ((bF eN).ext aC),eY,λ_ r W=>?_,eW,λh=>Ω,λ_=>?_⟩
  .rcases eU r W with h|h
   .exact bQ aA r h
   .have:=a8.size;have:=bD.size;have:=a1.size;have:=aC.size;have:=ef.2;omega
  .have eZ:n.toNat-i=(n.toNat-(i+1))+1:=Ω
   rw[eZ] at he;obtain⟨e0,e1⟩:=zj (sizes:=sizes) (acc:=A) (st:=cc) (t:=t) (c:=c) ep er;cases al:aZ 0 av ((eG sizes [] (σ cc)).map (·.2)) with
   |none=>
    have bl:aO=ν:=by rw[<-cN];show (aZ 0 av _).map _=ν;rw[al];rfl
    rw[nw (e0 al)] at he;refine .inr ⟨?_,he⟩;rw[bl];split <;> rfl
   |some q=>
    have bl:aO=σ q.2:=by rw[<-cN];show (aZ 0 av _).map _=_;rw[al];rfl
    have bI:=e1 q al;by_cases hm:t∈A.map (·.1)
    .rw[if_pos hm] at bI;rw[nw bI] at he;exact .inr ⟨by rw[if_pos hm],he⟩
    .rw[if_neg hm] at bI;rw[qX bI] at he;refine .inl ⟨q.2,by rw[if_neg hm,bl],he,?_⟩;cases cd:eG sizes [] (σ cc) with
     |none=>rw[cd] at al;cases al
     |some p=>
      rw[cd] at al;obtain⟨e2,s1⟩:=p;have bf:hB sizes [] cc=σ (e2,s1):=cd;obtain⟨u,_,_,e3⟩:=tm bf;have bg:ba 0 av s1=σ q:=al;obtain⟨fw,fx⟩:=q;have e4:=dh bg;have:=e3.1;have:=e4.1;rw[r8];simp only[T1];omega
def iD (s:aG):Prop:=s.big=false->0<=s.told/\s.told<=16384
def iE (neg:Bool) (ar:Nat) (scope sizes:List Int) (J:Option aG):Option (cd×aG):=match aZ 0 av (J.map (a1 (decide (6<ar)||c6 sizes))) with
 |none=>ν
 |some (other,U)=>match dx sizes U with
  |none=>ν
  |some (lines,I)=>σ (⟨scope,sizes,other,lines⟩,if neg=true then {I with shared:=I.shared++[(sizes,lines)]} else I)
theorem AK {s s':aG} {l:List (List Int×Int)} (h:dx sizes s=σ (l,s')):s'.toks.length+1<=s.toks.length/\s'.shared=s.shared:=by
 unfold dx at h;cases I:ba (-av) av s with
 |none=>rw[I] at h;cases h
 |some q=>
  obtain⟨n,s1⟩:=q;have U:=dh I;have aa:=U.1;have V:=U.eqs.2.2;rw[I] at h;simp only at h;split at h
  .split at h
   .cases h
   .split at h
    .cases h;exact⟨Ω,V⟩
    .cases h
  .have h':cz (dw sizes) n.toNat [] (a1 (decide (16384<min (s1.told+n) av)) {s1 with told:=min (s1.told+n) av})=σ (l,s'):=h;have:=iX (f:=dw sizes) (λ_ t=>t.toks.length<=s1.toks.length/\t.shared=s1.shared) (λacc t a ab W Y=>by
    obtain⟨_,_,_,X⟩:=nt Y;have h1:=X.1;have J:=X.eqs.2.2;exact⟨by have:=W.1;omega,J.trans W.2⟩) n.toNat [] (a1 (decide (16384<min (s1.told+n) av)) {s1 with told:=min (s1.told+n) av}) l s' ⟨o8 _,rfl⟩ h'
   obtain⟨⟨h1,J⟩,_⟩:=this;exact⟨Ω,J.trans V⟩
theorem rE {g:Nat} {H:ai} {s:aG} (h:bE w g B H N (σ s)):s.toks.length<=100000/\s.shared.length+s.toks.length<=100000:=by
 obtain⟨V,w0,W,X,gs,sv,L,Y,aa,ab,bad,ac,big,ad,told,h1,ae,af,ag,J,ah,aj,ak,al,am,an,I,ao,U,ap⟩:=h;have aq:=J.2.2.1;refine⟨by rw[<-I,u5];omega,by rw[<-I,<-U,u5,u5];omega⟩
def AL (w:x2) (g V B:Nat) (H:ai) (J:Option (cd×aG)) (v:x1) (w':x2):Prop:=∃U x I,af (λr=>r=g\/H r\/r=V\/B<=r) w w'/\v= .agg (ey U).toArray/\fT w' U x/\bE w' g w'.heap.size I 100001 (J.map (·.2))/\(∀q,J=σ q->x=q.1)/\(∀r,H r->I r)/\(∀r,I r->H r\/B<=r)/\ ∀r,I r->r<w'.heap.size
theorem AM {g Y ar:Nat} {H:ai} {aA:Option aG} {neg:Bool} {dT:Int} {scope:List Int} {Q:x1->x2->Prop}
  (h:bE w g B H 100000 aA) (dU:gl w B Y ⟨scope,sizes,0,[]⟩) (fy:∀c,ae w Y aW c->c[3]? =σ (.slice ν 0 0)) (dV:∀z∈sizes,1<=z/\z<=av) (fz:sizes.length<=100001) (dW:ae w al aW [.slice ν 0 0,.slice ν 0 0,Δ 0,.slice ν 0 0]) (jD:al<B) (cS:¬H al) (cT:∀r,H r->r<B) (fB:∀aU,aA=σ aU->iD aU)
  (fC:∀v w',AL w g al B H (iE neg ar scope sizes aA) v w'->Q v w'):
  J x3 (x7 aW (Γ Y) 1) w λfD=>
  J x3 (x5 ax fD) w λdX=>
  J x3 (Y3 #[ax] ab #[dX]) w λfE=>
  bC (Δ 1) (Δ 0) w λcount de a8 fF=>
   J x3 (aB .lss ab false false de fE) a8 λfG=>
   Split fG (bx (α:=x1->x2->Prop) (λ(fH:x1) (dY:x2)=>
    J x3 (aB .add ab false true de (Δ 1)) dY λfI=>
    fF fH fI dY) λdZ=>
   J x3 (n0 ax dX de) a8 λfJ=>
   J x3 (x5 an fJ) a8 λea=>
   bx (α:=x1->x2->Prop) (λ(fK:x1) (cU:x2)=>
    J x3 (aB .mul an false false count fK) cU λeb=>
    J x3 (aB .gtr an false true eb (Δ 4096)) cU λfL=>
    Split fL (dZ (Δ 4097) cU)
     (dZ eb cU)) λec=>
   J x3 (aB .gtr an false true ea (Δ 4096)) a8 λfN=>
   Split fN (ec (Δ 4097) a8)
    (ec ea a8))
    (bx (α:=x2->Prop) (λ(cc:x2)=>
   aj x3 kd [(Γ g),(Δ 0),(Δ 4611686018427387904)] cc λee bU=>
   J x3 (Z8 ee 0) bU λfO=>
   J x3 (Z8 ee 1) bU λjE=>
   J x3 (x7 aW (Γ Y) 2) bU λfP=>
   az x3 (o4 an fP fO) bU λ(_:Unit) bA=>
   aj x3 kd [(Γ g),(Δ (-4611686018427387904)),(Δ 4611686018427387904)] bA λef am=>
   J x3 (Z8 ef 0) am λbW=>
   J x3 (Z8 ef 1) am λeg=>
   J x3 (aX (Γ g)) am λfQ=>
   J x3 (x7 bm fQ 3) am λfR=>
   J x3 (x5 ab fR) am λfS=>
   J x3 (aB .neq ab false true fS (Δ 0)) am λfV=>
   Split fV (J x3 (x5 aW (Γ Y)) am λce=>
    az x3 (o4 aW (Γ al) ce) am λ(_:Unit) bB=>
    J x3 (do loadVar aW (<-asAddr (Γ al))) bB λcg=>
 Q cg bB)
    (bx (α:=x2->Prop) (λ(bi:x2)=>
    bZ (Δ 0) bi λeh bK fW=>
     bx (α:=x1->x2->Prop) (λ(fX:x1) (ch:x2)=>
      Split fX (az x3 (S6 b2 true (.tuple #[])) ch λx cV=>
     J x3 (x7 aW (Γ Y) 1) cV λfY=>
     J x3 (x5 ax fY) cV λei=>
     J x3 (Y3 #[ax] ab #[ei]) cV λfZ=>
     bZ (Δ 0) cV λdf bX ga=>
      J x3 (aB .lss ab false false df fZ) bX λgb=>
      Split gb (J x3 (n0 ax ei df) bX λgc=>
      J x3 (x5 an gc) bX λgf=>
      J x3 (aB .sub an false true gf (Δ 1)) bX λgg=>
      aj x3 kd [(Γ g),(Δ 0),gg] bX λej ci=>
      J x3 (Z8 ej 0) ci λgh=>
      J x3 (Z8 ej 1) ci λjF=>
      J x3 (x7 b2 x 0) ci λgi=>
      J x3 (x5 ax gi) ci λgj=>
      az x3 (Z7 ax 1 #[(0,gh)]) ci λgm gn=>
      az x3 (l7 #[ax,ax] ax #[gj,gm]) gn λgp ek=>
      J x3 (x7 b2 x 0) ek λgq=>
      az x3 (o4 ax gq gp) ek λ(_:Unit) em=>
      J x3 (aB .add ab false true df (Δ 1)) em λgr=>
      ga gr em)
       (aj x3 kd [(Γ g),(Δ 0),(Δ 4611686018427387904)] bX λen bY=>
     J x3 (Z8 en 0) bY λgt=>
     J x3 (Z8 en 1) bY λgu=>
     J x3 (x7 aW (Γ Y) 3) bY λgv=>
     J x3 (x5 dG gv) bY λeo=>
     J x3 (Y3 #[dG] ab #[eo]) bY λgw=>
     bZ (Δ 0) bY λdg b0 gx=>
      J x3 (aB .lss ab false false dg gw) b0 λgy=>
      Split gy (bx (α:=x2->Prop) (λ(ep:x2)=>
       J x3 (aB .add ab false true dg (Δ 1)) ep λgz=>
       gx gz ep) λer=>
      J x3 (n0 dG eo dg) b0 λgA=>
      J x3 (x5 b2 gA) b0 λgB=>
      az x3 (S6 b2 true (.tuple #[])) b0 λy gC=>
      az x3 (o4 b2 y gB) gC λ(_:Unit) bb=>
      bx (α:=x1->x2->Prop) (λ(gD:x1) (es:x2)=>
       Split gD (aj x3 lK [(Γ g),(Δ 4),gu] es λjG gE=>
        er gE)
        (er es)) λet=>
      J x3 (aX (Γ g)) bb λgF=>
      J x3 (x7 bm gF 3) bb λgH=>
      J x3 (x5 ab gH) bb λgI=>
      J x3 (aB .eql ab false true gI (Δ 0)) bb λgJ=>
      Split gJ (J x3 (x7 b2 x 0) bb λgK=>
       J x3 (x5 ax gK) bb λgL=>
      J x3 (x7 b2 y 0) bb λgM=>
      J x3 (x5 ax gM) bb λgO=>
      aj x3 qo [gL,gO] bb λgP gQ=>
      et gP gQ)
       (et (.bool false) bb))
       (J x3 (x7 b2 x 1) b0 λgR=>
     az x3 (o4 an gR gt) b0 λ(_:Unit) cW=>
     J x3 (x7 aW (Γ Y) 3) cW λgT=>
     J x3 (x5 dG gT) cW λgU=>
     J x3 (x5 b2 x) cW λgV=>
     az x3 (Z7 dG 1 #[(0,gV)]) cW λgW gX=>
     az x3 (l7 #[dG,dG] dG #[gU,gW]) gX λgY ev=>
     J x3 (x7 aW (Γ Y) 3) ev λgZ=>
     az x3 (o4 dG gZ gY) ev λ(_:Unit) ew=>
     J x3 (aB .add an false true eh (Δ 1)) ew λg0=>
     fW g0 ew)))
       (bx (α:=x2->Prop) (λ(aM:x2)=>
     J x3 (x5 aW (Γ Y)) aM λg1=>
     az x3 (o4 aW (Γ al) g1) aM λ(_:Unit) ez=>
     J x3 (do loadVar aW (<-asAddr (Γ al))) ez λg2=>
 Q g2 ez) λeA=>
    Split (.bool neg) (cj ch λaV=>
     J x3 (aX (Γ g)) aV λdj=>
     J x3 (x7 bm dj 8) aV λdk=>
     J x3 (x5 da dk) aV λeB=>
     J x3 (x5 aW (Γ Y)) aV λg3=>
     az x3 (Z7 da 1 #[(0,g3)]) aV λg4 bl=>
     (Ext aV bl\/bk x3 (x5 da dk) eB bl/\bk x3 (x7 bm dj 8) dk bl/\bk x3 (aX (Γ g)) dj bl/\True)/\
     az x3 (l7 #[da,da] da #[eB,g4]) bl λg5 cY=>
      J x3 (aX (Γ g)) cY λg6=>
      J x3 (x7 bm g6 8) cY λg7=>
      az x3 (o4 da g7 g5) cY λ(_:Unit) bL=>
      eA bL)
     (eA ch))) λeC=>
     J x3 (aB .lss an false false eh bW) bK λg8=>
     Split g8 (J x3 (aX (Γ g)) bK λg9=>
     J x3 (x7 bm g9 3) bK λha=>
     J x3 (x5 ab ha) bK λhb=>
     J x3 (aB .eql ab false true hb (Δ 0)) bK λhc=>
     eC hc bK)
      (eC (.bool false) bK)) λeD=>
   J x3 (aB .lss an false true bW (Δ 0)) am λhd=>
   Split hd (bx (α:=x1->x2->Prop) (λ(hf:x1) (aF:x2)=>
     Split hf (aj x3 lK [(Γ g),(Δ 4),eg] aF λjH dl=>
     J x3 (x5 aW (Γ Y)) dl λhg=>
     az x3 (o4 aW (Γ al) hg) dl λ(_:Unit) eE=>
     J x3 (do loadVar aW (<-asAddr (Γ al))) eE λhh=>
 Q hh eE)
     (J x3 (aX (Γ g)) aF λhj=>
    J x3 (x7 bm hj 8) aF λhk=>
    J x3 (x5 da hk) aF λhl=>
    J x3 (Op.unary .neg bW) aF λhn=>
    J x3 (aB .sub an false true hn (Δ 1)) aF λho=>
    J x3 (n0 da hl ho) aF λhp=>
    J x3 (x7 aW hp 3) aF λhq=>
    J x3 (x5 dG hq) aF λhr=>
    J x3 (x7 aW (Γ Y) 3) aF λhs=>
    az x3 (o4 dG hs hr) aF λ(_:Unit) eH=>
    eD eH)) λeI=>
    cj am λap=>
    J x3 (Op.unary .neg bW) ap λht=>
    J x3 (aX (Γ g)) ap λhv=>
    J x3 (x7 bm hv 8) ap λhx=>
    J x3 (x5 da hx) ap λhy=>
    J x3 (Y3 #[da] ab #[hy]) ap λhz=>
    J x3 (aB .gtr an false false ht hz) ap λhA=>
    Split hA (eI (.bool true) ap)
    (J x3 (aX (Γ g)) ap λhB=>
    J x3 (x7 bm hB 8) ap λhC=>
    J x3 (x5 da hC) ap λhD=>
    J x3 (Op.unary .neg bW) ap λhE=>
    J x3 (aB .sub an false true hE (Δ 1)) ap λhF=>
    J x3 (n0 da hD hF) ap λhG=>
    J x3 (x7 aW hG 1) ap λhH=>
    J x3 (x5 ax hH) ap λhI=>
    J x3 (x7 aW (Γ Y) 1) ap λhJ=>
    J x3 (x5 ax hJ) ap λhK=>
    aj x3 qo [hI,hK] ap λhL dm=>
    J x3 (Op.unary .not hL) dm λhM=>
    eI hM dm))
    (J x3 (aX (Γ g)) am λhN=>
    J x3 (x7 bm hN 7) am λhO=>
    J x3 (x5 an hO) am λhP=>
    J x3 (aB .add an false false hP bW) am λhR=>
    J x3 (aX (Γ g)) am λhS=>
    J x3 (x7 bm hS 7) am λhT=>
    az x3 (o4 an hT hR) am λ(_:Unit) bc=>
    bx (α:=x2->Prop) (λ(bd:x2)=>
     J x3 (aX (Γ g)) bd λhU=>
     J x3 (x7 bm hU 7) bd λhV=>
     J x3 (x5 an hV) bd λhW=>
     J x3 (aB .gtr an false true hW (Δ 16384)) bd λhX=>
     aj x3 qm [(Γ g),hX,eg] bd λjI dn=>
     eD dn) λeK=>
    J x3 (aX (Γ g)) bc λhY=>
    J x3 (x7 bm hY 7) bc λhZ=>
    J x3 (x5 an hZ) bc λh0=>
    J x3 (aB .gtr an false true h0 (Δ 4611686018427387904)) bc λh2=>
    Split h2 (J x3 (aX (Γ g)) bc λh3=>
    J x3 (x7 bm h3 7) bc λh4=>
    az x3 (o4 an h4 (Δ 4611686018427387904)) bc λ(_:Unit) eL=>
    eK eL)
    (eK bc)))) λeM=>
  J x3 (aB .gtr an false true (Δ (ar:Int)) (Δ 6)) a8 λh5=>
  Split h5 (aj x3 qm [(Γ g),(.bool true),(Δ dT)] a8 λjJ h6=>
  eM h6)
   (J x3 (aB .gtr an false true count (Δ 4096)) a8 λh7=>
  aj x3 qm [(Γ g),h7,(Δ dT)] a8 λjK h8=>
  eM h8)):=by
 have h9:=h.lt;have eN:al≠g:=λhe=>by
  obtain⟨aY,aI,aJ,bad,a2,big,a6,told,sv,X,_⟩:=gS h;subst he;exact absurd (eu X dW) Φ
 obtain⟨ay,au,bV,cZ,c0,c1,f1,f2,f3,f4,f5,f6,f7⟩:=id dU;have ck:Y≠g:=Ω
 have ret:∀ {ag:x2} {x:cd} {aC:ai},gl ag B Y x->ae ag al aW [.slice ν 0 0,.slice ν 0 0,Δ 0,.slice ν 0 0]->af (λr=>r=g\/H r\/B<=r) w ag->bE ag g ag.heap.size aC 100001 ((iE neg ar scope sizes aA).map (·.2))->(∀q,iE neg ar scope sizes aA=σ q->x=q.1)->¬aC al->(∀r,H r->aC r)->(∀r,aC r->H r\/B<=r)->(∀r,aC r->r<ag.heap.size)->
   (J x3 (x5 aW (Γ Y)) ag λce=>
    az x3 (o4 aW (Γ al) ce) ag λ(_:Unit) bB=>
    J x3 (do loadVar aW (<-asAddr (Γ al))) bB λcg=>Q cg bB):=by
  intro ag x aC dp dr ia ib ic ie ds ig ih;obtain⟨ay,au,bV,cZ,c0,c1,du,dv,dy,dz,dA,eO,eP⟩:=dp;let aL:hQ:=⟨ay,au,x.other,bV⟩;have cl:fT ag aL x:=⟨⟨cZ,dv⟩,⟨c0,dy⟩,rfl,c1,dz⟩;rw[bn aW.p aW.i rfl (show ag.rangeAt Y 0 (ey aL) from du.range)];refine bJ (vs:=ey aL) aW.i rfl rfl cl.one dr λjL dC ii ij=>?_;rw[eJ aW.p aW.i rfl ij.range];have ik:∀r,r=al->gk ag r\/ag.heap.size<=r:=λr W=>by subst W;exact .inl ⟨_,_,dr,Φ,Φ⟩
  refine fC _ _ ⟨aL,x,aC,(ia.mono λr _ h=>?_).trans (dC.mono λr _ h=>.inr (.inr (.inl h))),rfl,cl.dq dC ik,ib.dq dC λr W=>.inl ?_,ic,ds,ig,λr W=>by rw[ii];exact ih r W⟩
  .exact h.elim .inl λh=>h.elim (λh=>.inr (.inl h)) λh=>.inr (.inr (.inr h))
  .have W:r=al:=W;subst W;exact⟨_,_,dr,Φ,Φ,Φ,Φ,ie⟩
 have dD:∀ {ag:x2},af (fU g B) w ag->ae ag al aW [.slice ν 0 0,.slice ν 0 0,Δ 0,.slice ν 0 0]:=λbo=>dW.V bo λI=>I.elim eN λh=>Ω
 have dE:∀ {ag:x2},af (fU g B) w ag->af (λr=>r=g\/H r\/B<=r) w ag:=λbo=>bo.mono λr _ h=>h.elim .inl λh=>.inr (.inr h);have eQ:∀ {ag:x2} {eR:Nat} {aC:ai} {so:Option aG},bE ag g eR aC 100000 so->bE ag g eR aC 100001 so:=λW=>by
  obtain⟨cm,w0,aY,bD,gs,sv,L,a7,aI,aJ,bad,a2,big,a6,told,h1,il,im,io,ip,dF,dH⟩:=W;refine⟨Ω,w0,aY,bD,gs,sv,L,a7,aI,aJ,bad,a2,big,a6,told,h1,il,im,io,ip,dF,?_⟩;rename_i so;cases so with
  |none=>exact⟨dH.1,by have:=dH.2;omega⟩
  |some s=>exact dH
 have eS:∀ {ag:x2} {x:cd},gl ag B Y x->af (fU g B) w ag->bE ag g B H 100000 ν->iE neg ar scope sizes aA=ν->(J x3 (x5 aW (Γ Y)) ag λce=>
    az x3 (o4 aW (Γ al) ce) ag λ(_:Unit) bB=>
    J x3 (do loadVar aW (<-asAddr (Γ al))) bB λcg=>Q cg bB):=λdp bo W eU=>
  ret dp (dD bo) (dE bo) (by rw[eU];exact eQ W.base) (λq aD=>by rw[eU] at aD;cases aD) cS (λ_ h=>h) (λ_ h=>.inl h) λr W=>by have:=cT r W;have:=bo.size;omega
 rw[aa aW.p rfl,ac Ψ (f1.cell (o:=0+1) rfl),aS ax.u f3.ls];refine J6 f3.ls (λz iq=>(dV z iq).1) λc bo=>?_;refine dt (λcc=>af (λr=>r=g) w cc/\bE cc g B H 100000 (aA.map (a1 (decide (6<ar)||c6 sizes)))) ?_ ?_
 rotate_left
 .intro dI bp;rw[bP,ad];refine⟨λdF=>?_,λdF=>?_⟩
  .refine (ln h).mono ?_;rintro _ U _ bq;refine bp _ ⟨bq.1,?_⟩;rw[decide_eq_true (show 6<ar by omega),Bool.true_or];exact bq.2
  .rw[bP];refine (ln h).mono ?_;rintro _ U _ bq;refine bp _ ⟨bq.1,?_⟩;have e:c6 sizes=decide (4096<c):=by rw[V8,decide_eq_true_eq];exact bo.symm
   rw[decide_eq_false (show ¬6<ar by omega),Bool.false_or,e];exact bq.2
 rintro cc ⟨ir,it⟩;refine (jf it).mono ?_;rintro _ bU _ ⟨⟨iu,iv⟩,o,iw,rfl,ix,jM⟩;rw[aK (v:=Δ o) rfl,aK (v:=Δ iw) rfl];have b1:af (λr=>r=g) w bU:=ir.trans iu;have jN:=dU.dq b1 (jg h);have f123:=f1.V b1 λhe=>ck he;rw[aa aW.p rfl];refine bj (g:=Y) (o:=2) an.i rfl rfl f123 Ξ λbA cn jO b3=>?_;have b3:ae bA Y aW [ay,au,Δ o,bV]:=b3;have dJ:∀r,r=g->gk w r\/w.heap.size<=r:=λr W=>(jg h r W).imp (λ⟨e,c,X,br,bt,_⟩=>⟨e,c,X,br,bt⟩) id;have b4:∀ {ag:x2} {c:List x1},ae ag Y aW c-> ∀r,r=Y->gk ag r\/ag.heap.size<=r:=λX r W=>by subst W;exact .inl ⟨_,_,X,Φ,Φ⟩
 have f224:=ed (ed f2 b1 dJ) cn (b4 f123);have f324:=ed (ed f3 b1 dJ) cn (b4 f123);have eV:=(f4.dq b1 dJ).dq cn (b4 f123);have b5:=iv.new cn λr W=>by have W:r=Y:=W;omega
 have eW:af (fU g B) w bA:=(b1.mono λr _ h=>.inl h).trans (cn.mono λr _ h=>.inr (by have h:r=Y:=h;omega));refine (jf b5).mono ?_;rintro _ am _ ⟨⟨bF,bu⟩,n,iy,rfl,iz,eX⟩;rw[aK (v:=Δ n) rfl,aK (v:=Δ iy) rfl,pu bu];have eY:af (fU g B) w am:=eW.trans (bF.mono λr _ h=>.inl h);have iA:gl bA B Y ⟨scope,sizes,o,[]⟩:=⟨ay,au,bV,cZ,c0,c1,b3,f224,f324,eV,f5,f6,f7⟩;have eZ:=iA.dq bF (jg b5);cases bw:aZ (-4611686018427387904) 4611686018427387904 (V7 (λx=>x.snd) (aZ 0 4611686018427387904 (aA.map (a1 (decide (6<ar)||c6 sizes))))) with
 |none=>
  rw[bw] at bu;rw[Option.map_none,Option.isSome_none,X4,bO];refine eS eZ eY bu ?_;unfold iE;cases aE:aZ 0 av (aA.map (a1 (decide (6<ar)||c6 sizes))) with
  |none=>rfl
  |some p=>
   obtain⟨o',ak⟩:=p;have iB:aZ 0 4611686018427387904 (aA.map (a1 (decide (6<ar)||c6 sizes)))=σ (o',ak):=aE;rw[iB] at bw;have e:ba (-av) av ak=ν:=bw;simp only;unfold dx;rw[e]
 |some q=>
 obtain⟨jP,ah⟩:=q;have iC:=iz _ bw;subst iC;rw[bw] at bu;have bu:bE am g B H 100000 (σ ah):=bu;rw[Y0,Option.isSome_some,Y1,aQ];obtain⟨ak,aE,dK⟩:∃ak,aZ 0 av (aA.map (a1 (decide (6<ar)||c6 sizes)))=σ (o,ak)/\ba (-av) av ak=σ (n,ah):=by
  cases aE:aZ 0 4611686018427387904 (aA.map (a1 (decide (6<ar)||c6 sizes))) with
  |none=>rw[aE] at bw;cases bw
  |some p=>
   obtain⟨o',ak⟩:=p;have:=ix _ aE;subst this;rw[aE] at bw;exact⟨ak,aE,bw⟩
 have cp:iE neg ar scope sizes aA=match dx sizes ak with
   |none=>ν
   |some (lines,ah)=>σ (⟨scope,sizes,o,lines⟩,if neg=true then {ah with shared:=ah.shared++[(sizes,lines)]} else ah):=by
  unfold iE;rw[aE]
 have iF:=(gN dK).1;have iG: -4611686018427387904<=n/\n<=4611686018427387904:=iF;have e0:dx sizes ak=(if n<0 then match ah.shared[(-n-1).toNat]? with
   |none=>ν
   |some (z,l)=>if z=sizes then σ (l,ah) else ν
  else cz (dw sizes) n.toNat [] (a1 (decide (16384<min (ah.told+n) av)) {ah with told:=min (ah.told+n) av})):=by
  unfold dx;rw[dK];rfl
 have iH:iD ah:=by
  cases b6:aA with
  |none=>rw[b6] at aE;cases aE
  |some aU=>
   rw[b6] at aE;have dL:ba 0 av (a1 (decide (6<ar)||c6 sizes) aU)=σ (o,ak):=aE;have c2:=(dh dL).eqs;have cq:=(dh dK).eqs;intro X;rw[cq.2.1,c2.2.1] at X;rw[cq.1,c2.1];exact fB aU b6 (S0.1 X).1
 refine dt (λbi=>af (fU g B) w bi/\ ∃bM cr c3 bG,ae bi Y aW [ay,au,Δ o,bM]/\aq .i64 an bi cZ ay scope/\aq .i64 an bi c0 au sizes/\je bi cr bM c3/\bE bi g B H 100000 (σ bG)/\(0<n->c3=[]/\ ∀r,¬leadsTo bM r)/\dx sizes ak=(if n<=0 then σ (c3,bG) else cz (dw sizes) n.toNat [] bG)) ?_ ?_
 .rintro bi ⟨iI,bM,cr,c3,bG,du,dv,dy,dz,dA,eO,eP⟩;refine J9 dA du dv dy dz f5 f6 f7 dV fz iG.2 eO (rE dA).1 λch A dM iJ e1 e2 iK ct=>?_;have b8:=iI.trans iJ;have bN:dM=(dx sizes ak).map (·.2)/\ ∀q,dx sizes ak=σ q->A=q.1:=by
   rw[eP];by_cases dN:n<=0
   .obtain⟨aI,aJ⟩:=iK dN;rw[if_pos dN];exact⟨aJ,λq aD=>by cases aD;exact aI⟩
   .rw[if_neg dN];exact ct Ω
  obtain⟨bN,bq⟩:=bN;cases neg with
  |false=>
   refine dt (λaM=>ch=aM) ?_ ?_
   .rintro _ rfl;refine ret e1 (dD b8) (dE b8) ?_ ?_ cS (λ_ h=>h) (λ_ h=>.inl h) λr W=>by have:=cT r W;have:=b8.size;omega
    .have:(iE false ar scope sizes aA).map (·.2)=dM:=by
      rw[cp,bN];cases dx sizes ak with
      |none=>rfl
      |some p=>rfl
     rw[this];exact eQ e2.base
    .intro q aD;rw[cp] at aD;cases aO:dx sizes ak with
     |none=>rw[aO] at aD;cases aD
     |some p=>
      rw[aO] at aD;have:=bq p aO;cases aD;rw[this]
   .intro dI bp;rw[aQ];exact bp _ rfl
  |true=>
   refine dt (λaM=>∃aC,af (λr=>r=g\/H r\/B<=r) w aM/\gl aM B Y ⟨scope,sizes,o,A⟩/\ae aM al aW [.slice ν 0 0,.slice ν 0 0,Δ 0,.slice ν 0 0]/\bE aM g aM.heap.size aC 100001 ((iE true ar scope sizes aA).map (·.2))/\¬aC al/\(∀r,H r->aC r)/\(∀r,aC r->H r\/B<=r)/\ ∀r,aC r->r<aM.heap.size) ?_ ?_
   .rintro aM ⟨aC,iL,iM,a3,a4,a5,iN,iO,iP⟩;refine ret iM a3 iL a4 ?_ a5 iN iO iP;intro q aD;rw[cp] at aD;cases aO:dx sizes ak with
    |none=>rw[aO] at aD;cases aD
    |some p=>
     rw[aO] at aD;have:=bq p aO;cases aD;rw[this]
   .intro dI bp;rw[bO];intro aV cu _ _;have iQ:=e2.ext cu;have iR:=e1.ext cu;have iS:=(dD b8).ext cu;obtain⟨cm,w0,aY,bD,gs,sv,L,a7,aI,aJ,bad,a2,big,a6,told,c4,bQ,bR,aR,bS,bH,bT⟩:=id iQ;have iT:=bS.g bQ bR;obtain⟨⟨iU,e3⟩,be,cw,cA⟩:=id iT;have iV:∀r,leadsTo sv r->r<B:=λr W=>cT r (bH r W);rw[aw,aa bm.p rfl,ac Ψ (aR.cell (o:=0+8) rfl)];obtain⟨e4,e5,bM,e6,e7,cr,e8,e9,fa,fb,iW,iX,iY⟩:=id iR;let aL:hQ:=⟨e4,e5,o,bM⟩;let x:cd:=⟨scope,sizes,o,A⟩;have cl:fT aV aL x:=⟨⟨e6,e9⟩,⟨e7,fa⟩,rfl,cr,fb⟩;rw[bn aW.p aW.i rfl (show aV.rangeAt Y 0 (ey aL) from e8.range)];refine fM (f:=ey) (a:=aL) da.u aW.i Ω rfl rfl λjQ jR bl jS aH iZ=>?_;refine⟨.inl aH,?_⟩;have jT:L.length<=100000:=by
     cases dM with
     |none=>exact bT.2
     |some s=>have:=bT.2.2.2.2.2.2.2.2;omega
    have dO:=be.ext aH;refine gd (f:=ey) (a:=aL) da.u aW.i rfl dO (by simpa using iZ.sl) (cl.ext aH).one Ω Ω λfc i0 cY cB i1 fd=>?_;have dP:=aR.ext aH;have fe:=dP.V fd λhe=>b7 dO dP Φ he;rw[aw,aa bm.p rfl];refine bj (g:=g) (o:=8) da.i (cP cB.sl).1 (cP cB.sl).2 fe (by simp[fA]) λbL dQ jU c5=>?_;have c5:ae bL g bm (fA aY aI aJ bad a2 big a6 told fc):=c5;have bf:af (λr=>leadsTo sv r\/r=g) bl bL:=(fd.mono λr _ h=>.inl h).trans (dQ.mono λr _ h=>.inr h);have c7:∀r,(leadsTo sv r\/r=g)->gk bl r\/bl.heap.size<=r:=λr W=>by
     rcases W with W|rfl
     .obtain⟨rfl,c,X⟩:=di dO W;exact .inl ⟨_,c,X,Φ,Φ⟩
     .exact .inl ⟨_,_,dP,Φ,Φ⟩
    have ff:∀ {aL x},fT aV aL x->fT bL aL x:=λhe=>(he.ext aH).dq bf c7;have z50:=cu.size;have jV:=aH.size;have z53:=bf.size;have jW:=b8.size;have jX:=h9.2;refine bp _ ⟨λr=>H r\/(aV.heap.size<=r/\r<bL.heap.size),?_,?_,?_,?_,?_,λr W=>.inl W,λr W=>W.imp id λW=>Ω,λr W=>?_⟩
    .refine (((dE b8).trans (cu.V _)).trans (aH.V _)).trans (bf.mono λr _ W=>?_);exact W.elim (λW=>.inr (.inl (bH r W))) .inl
    .have i2:=e8.ext aH;refine⟨e4,e5,bM,e6,e7,cr,i2.V bf λW=>?_,ed (e9.ext aH) bf c7,ed (fa.ext aH) bf c7,(fb.dq (aH.V λ_=>False) λ_ h=>h.elim).dq bf c7,iW,iX,iY⟩;rcases W with W|W
     .have:=iV _ W;omega
     .exact ck W
    .exact (iS.ext aH).V bf λW=>W.elim (λW=>cS (bH _ W)) eN
    .refine⟨Ω,bL,aY,bD,i0,fc,L++[aL],a7++[x],aI,aJ,bad,a2,big,a6,told,rfl,af.refl _ _,⟨_,c5⟩,c5,⟨⟨?_,λr W=>?_⟩,cB.V dQ λr W he=>?_,by rw[r8,r8,cw];rfl,λi i3 i4 hi cC=>?_⟩,λr W=>?_,?_⟩
     .refine (iU.V (aH.V λ_=>False) λ_ _ h=>h).V bf λr W I=>?_;obtain⟨c,X⟩:=e3 r W;rcases I with I|rfl
      .obtain⟨rfl,i5,dR⟩:=di be I;exact absurd (eu X dR) Φ
      .exact absurd (eu X aR) Φ
     .obtain⟨c,X⟩:=e3 r W;refine⟨c,(X.ext aH).V bf λI=>?_⟩;rcases I with I|rfl
      .obtain⟨rfl,i5,dR⟩:=di be I;exact absurd (eu X dR) Φ
      .exact absurd (eu X aR) Φ
     .have he:r=g:=he;subst he;exact b7 cB fe Φ W
     .by_cases i6:i<L.length
      .rw[j0 i6] at hi;rw[j0 Ω] at cC;exact ff (cA i i3 i4 hi cC)
      .rw[Z1 Ω] at hi;rw[Z1 Ω] at cC;have i7:i-L.length=0:=by have:=(x4.1 hi).1;simp at this;omega
       have ds:i-a7.length=0:=Ω
       rw[i7] at hi;rw[ds] at cC;cases hi;cases cC;exact ff cl
     .rcases i1 r W with h|h
      .exact .inl (bH r h)
      .have:=(cB.leads W);have:=dQ.size;exact .inr ⟨Ω,Ω⟩
     .rw[cp];cases aO:dx sizes ak with
      |none=>
       rw[aO] at bN;rw[bN] at bT;exact⟨bT.1,by rw[r8];simp;have:=bT.2;omega⟩
      |some p=>
       obtain⟨lines,bG⟩:=p;rw[aO] at bN;rw[bN] at bT;have i8:=bq _ aO;obtain⟨cD,cE,cF,cG,cH,b9,cI,bh,c8⟩:=id bT;have fg:=AK aO;refine⟨cD,cE,cF,cG,cH,b9,cI,?_,?_⟩
       .show (a7++[x]).map _=bG.shared++[(sizes,lines)];rw[Z4,bh];simp only[x,S2,List.map_nil];rw[i8]
       .have jY:ak.shared.length+ak.toks.length<=100000:=by
         cases b6:aA with
         |none=>rw[b6] at aE;cases aE
         |some aU=>
          rw[b6] at aE h;have dL:ba 0 av (a1 (decide (6<ar)||c6 sizes) aU)=σ (o,ak):=aE;have t9:=dh dL;have c2:=t9.1;have cq:=t9.eqs.2.2;have t3:=(rE h).2;have fh:(a1 (decide (6<ar)||c6 sizes) aU).toks=aU.toks:=rfl;have fi:(a1 (decide (6<ar)||c6 sizes) aU).shared=aU.shared:=rfl;rw[fh] at c2;rw[fi] at cq;rw[cq];omega
        have fj:L.length=bG.shared.length:=by rw[<-bh,u5,cw]
        have i9:bD.length=bG.toks.length:=by rw[<-b9,u5]
        rw[fg.2] at fj;rw[r8,fj,i9];simp only[T1];have:=fg.1;omega
    .rintro (W|W)
     .exact cS W
     .omega
    .rcases W with W|W
     .have:=cT r W;omega
     .exact W.2
 .intro dI bp;rw[ao,ad];refine⟨λja=>?_,λjb=>?_⟩
  .
   refine aP (λv aF=>Ext am aF/\ ∃b:Bool,v= .bool b/\(b=true->dx sizes ak=ν)/\(b=false-> ∃lines,dx sizes ak=σ (lines,ah)/\ah.shared[(-n-1).toNat]? =σ (sizes,lines))) ?_ ?_
   .rintro _ aF ⟨ca,b,rfl,jc,jd⟩;have c9:=bu.ext ca;have jh:=eZ.ext ca;have fk:=eY.trans (ca.V _);cases b with
    |true=>
     rw[bO];refine (mu c9 Ω).mono ?_;rintro _ dl _ ⟨fm,ji⟩;exact eS (jh.dq fm (jg c9)) (fk.trans (fm.mono λr _ h=>.inl h)) ji (by rw[cp,jc rfl])
    |false=>
     rw[aQ];obtain⟨lines,jj,cb⟩:=jd rfl;obtain⟨cm,w0,aY,bD,gs,sv,L,a7,aI,aJ,bad,a2,big,a6,told,c4,bQ,bR,aR,bS,bH,cD,cE,cF,cG,cH,b9,cI,bh,c8⟩:=id c9;obtain⟨_,be,cw,cA⟩:=bS.g bQ bR;have cJ:(-n-1).toNat<L.length:=by
      have h1:=(x4.1 cb).1;rw[<-bh,u5] at h1;omega
     obtain⟨db,cK⟩:∃h,L[(-n-1).toNat]? =σ h:=⟨_,y0 cJ⟩;obtain⟨bz,cL⟩:∃x,a7[(-n-1).toNat]? =σ x:=⟨_,y0 Ω⟩;obtain⟨_,_,_,jk,aT⟩:=cA _ db bz cK cL;have jl:bz.lines=lines:=by
      rw[<-bh,x8,cL] at cb;have:=Z6 cb;exact (Prod.mk.inj this).2
     rw[aw,aa bm.p rfl,ac Ψ (aR.cell (o:=0+8) rfl),ki,wrap_i64 Ω Ω,cX,wrap_i64 Ω Ω,cO (i:=(-n-1).toNat) Ω da.u aW.i be cJ,aa aW.p rfl,ac Ψ (be.range cK 3 _ rfl)];obtain⟨jZ,fo,j1,j2⟩:=id aT;have dd:ae aF Y aW [ay,au,Δ o,bV]:=(b3.V bF λhe=>ck he).ext ca;have jm:=(ed f224 bF λr W=>(jg b5 r W).imp (λ⟨e,c,X,br,bt,_⟩=>⟨e,c,X,br,bt⟩) id).ext ca;have jn:=(ed f324 bF λr W=>(jg b5 r W).imp (λ⟨e,c,X,br,bt,_⟩=>⟨e,c,X,br,bt⟩) id).ext ca;rw[aa aW.p rfl];refine bj (g:=Y) (o:=3) dG.i (cP fo.sl).1 (cP fo.sl).2 dd Ξ λeH cM j3 jo=>?_;refine bp _ ⟨fk.trans (cM.mono λr _ h=>.inr (by have h:r=Y:=h;omega)),db.bV,jk,lines,ah,jo,ed jm cM (b4 dd),ed jn cM (b4 dd),?_,c9.new cM λr W=>by have W:r=Y:=W;omega,λh=>Ω,by rw[jj,if_pos Ω]⟩;rw[<-jl];exact aT.dq cM (b4 dd)
   .intro j4 fp;intro ap cN _ _;have jp:=bu.ext cN;obtain⟨cm,w0,aY,bD,gs,sv,L,a7,aI,aJ,bad,a2,big,a6,told,c4,bQ,bR,aR,bS,bH,cD,cE,cF,cG,cH,b9,cI,bh,c8⟩:=id jp;obtain⟨_,be,cw,cA⟩:=bS.g bQ bR;have j5:ah.shared.length=L.length:=by rw[<-bh,u5,cw]
    have aT:=e0;rw[if_pos ja] at aT;rw[ki,wrap_i64 Ω Ω,aw,aa bm.p rfl,ac Ψ (aR.cell (o:=0+8) rfl),dc da.u be,bP,ad];refine⟨λct=>fp _ _ ⟨cN,true,rfl,λ_=>?_,λh=>by cases h⟩,λct=>?_⟩
    .rw[aT,Y4 Ω]
    have cJ:(-n-1).toNat<L.length:=Ω
    obtain⟨db,cK⟩:∃h,L[(-n-1).toNat]? =σ h:=⟨_,y0 cJ⟩;obtain⟨bz,cL⟩:∃x,a7[(-n-1).toNat]? =σ x:=⟨_,y0 Ω⟩;obtain⟨_,⟨j6,jq⟩,_,_⟩:=cA _ db bz cK cL;have cb:ah.shared[(-n-1).toNat]? =σ (bz.sizes,bz.lines):=by rw[<-bh,x8,cL];rfl
    rw[cb] at aT;simp only at aT;rw[aw,aa bm.p rfl,ac Ψ (aR.cell (o:=0+8) rfl),ki,wrap_i64 Ω Ω,cX,wrap_i64 Ω Ω,cO (i:=(-n-1).toNat) Ω da.u aW.i be cJ,aa aW.p rfl,ac Ψ (be.range cK 1 _ rfl)];have jr:ae ap Y aW [ay,au,Δ o,bV]:=(b3.V bF λhe=>ck he).ext cN;have js:=(ed f324 bF λr W=>(jg b5 r W).imp (λ⟨e,c,X,br,bt,_⟩=>⟨e,c,X,br,bt⟩) id).ext cN;rw[aa aW.p rfl,ac Ψ (jr.cell (o:=0+1) rfl)];refine (uu jq.ls js.ls).mono ?_;rintro _ dm _ ⟨rfl,jt⟩;rw[bg];refine fp _ _ ⟨cN.trans jt,_,rfl,λX=>?_,λX=>?_⟩
    .have ju:bz.sizes≠sizes:=by simpa using X
     rw[aT,if_neg ju]
    .have fq:bz.sizes=sizes:=by simpa using X
     exact⟨bz.lines,by rw[aT,if_pos fq],by rw[cb,fq]⟩
  .
   have aT:=e0;rw[if_neg jb] at aT;obtain⟨cm,w0,aY,bD,gs,sv,L,a7,aI,aJ,bad,a2,big,a6,told,c4,bQ,bR,aR,bS,bH,cD,cE,cF,cG,cH,b9,cI,bh,c8⟩:=id bu;rw[aw,aa bm.p rfl,ac Ψ (aR.cell (o:=0+7) rfl),aN];generalize jv:Y5.wrap (told+n)=bI;have fs:ah.big=false->bI=ah.told+n/\0<=bI:=λX=>by
    obtain⟨fh,fi⟩:=iH X;have jw:=cG X;rw[<-jv,jw,wrap_i64 Ω Ω];exact⟨rfl,Ω⟩
   rw[aw,aa bm.p rfl];refine bj (g:=g) (o:=7) an.i rfl rfl aR (by simp[fA]) λbc ft j7 cQ=>?_;have cQ:ae bc g bm (fA aY aI aJ bad a2 big a6 bI sv):=cQ;refine dt (λbd=>af (λr=>r=g) am bd/\ae bd g bm (fA aY aI aJ bad a2 big a6 (min bI av) sv)) ?_ ?_
   rotate_left
   .intro j8 fu;rw[aw,aa bm.p rfl,ac Ψ (cQ.cell (o:=0+7) rfl),bP,ad];refine⟨λct=>?_,λct=>fu _ ⟨ft,?_⟩⟩
    .rw[aw,aa bm.p rfl];refine bj (g:=g) (o:=7) an.i rfl rfl cQ (by simp[fA]) λeL jx j9 jy=>?_;refine fu _ ⟨ft.trans jx,?_⟩;have e:min bI av=4611686018427387904:=by unfold av;omega
     rw[e];exact jy
    .have e:min bI av=bI:=by unfold av;omega
     rw[e];exact cQ
   rintro bd ⟨fv,fw⟩;have jz:bE bd g B H 100000 (σ {ah with told:=min (ah.told+n) av}):=⟨cm,w0,aY,bD,gs,sv,L,a7,aI,aJ,bad,a2,big,a6,_,c4,bQ.trans fv,bR,fw,bS,bH,cD,cE,cF,λX=>by
    have X:ah.big=false:=X;rw[(fs X).1],cH,b9,cI,bh,c8⟩
   rw[aw,aa bm.p rfl,ac Ψ (fw.cell (o:=0+7) rfl),bP];refine (ln jz).mono ?_;rintro _ dn _ ⟨jA,fx⟩;have jB:(σ {ah with told:=min (ah.told+n) av}).map (a1 (decide (16384<min bI av)))=σ (a1 (decide (16384<min (ah.told+n) av)) {ah with told:=min (ah.told+n) av}):=by
    show σ (a1 _ _)=_;congr 1;unfold a1;cases X:ah.big with
    |true=>simp
    |false=>rw[(fs X).1]
   rw[jB] at fx;have cR:af (λr=>r=g) bA dn:=(bF.trans fv).trans jA;have dS:∀r,r=g->gk bA r\/bA.heap.size<=r:=λr W=>(jg b5 r W).imp (λ⟨e,c,X,br,bt,_⟩=>⟨e,c,X,br,bt⟩) id;have jC:bV= .slice ν 0 0:=by
    have:=fy _ f1;simpa using this
   refine bp _ ⟨eW.trans (cR.mono λr _ h=>.inl h),bV,c1,[],_,b3.V cR λhe=>ck he,ed f224 cR dS,ed f324 cR dS,eV.dq cR dS,fx,λ_=>⟨rfl,λr W=>by rw[jC] at W;exact eF W⟩,?_⟩;rw[aT];by_cases eX:n<=0
   .have:n=0:=Ω
    subst this;rw[if_pos (Int.le_refl _)];rfl
   .rw[if_neg eX]
theorem AN {s:aG}:cS all s=match ba (-av) av s with
  |none=>ν
  |some (a,s1)=>match eE all.length a.natAbs s1 with
   |none=>ν
   |some (scope,I)=>iE (decide (a<0)) a.natAbs scope (scope.map λv=>all.getD v.toNat 0) (σ I):=by
 unfold cS;cases ba (-av) av s with
 |none=>rfl
 |some q=>
  obtain⟨a,s1⟩:=q;simp only;cases eE all.length a.natAbs s1 with
  |none=>rfl
  |some p=>
   obtain⟨scope,I⟩:=p;simp only;unfold iE;show _=match ba 0 av (a1 (decide (6<a.natAbs)||c6 (scope.map λv=>all.getD v.toNat 0)) I) with
    |none=>ν
    |some (other,J)=>_
   cases ba 0 av (a1 (decide (6<a.natAbs)||c6 (scope.map λv=>all.getD v.toNat 0)) I) with
   |none=>rfl
   |some V=>
    obtain⟨o,J⟩:=V;simp only;cases dx (scope.map λv=>all.getD v.toNat 0) J with
    |none=>rfl
    |some W=>
     obtain⟨ls,X⟩:=W;by_cases U:a<0
     .simp[U]
     .simp[U]
def uw (w:x2) (g:Nat) (H:ai) (J:Option (cd×aG)) (v:x1) (w':x2):Prop:=∃U x I,af (λr=>r=g\/H r) w w'/\v= .agg (ey U).toArray/\fT w' U x/\bE w' g w'.heap.size I 100001 (J.map (·.2))/\(∀q,J=σ q->x=q.1)/\(∀r,H r->I r)/\(∀r,I r->H r\/w.heap.size<=r)/\ ∀r,I r->r<w'.heap.size
theorem AO {n:Int} {k:Nat} {s s':aG} (h:eE n k s=σ (l,s')):s'.toks.length+l.length<=s.toks.length/\s'.told=s.told/\s'.big=s.big/\s'.shared=s.shared/\ ∀v∈l,0<=v/\v<n:=by
 have:=iX (f:=iY n) (λ(acc:List Int) t=>t.toks.length+acc.length<=s.toks.length/\t.told=s.told/\t.big=s.big/\t.shared=s.shared/\ ∀v∈acc,0<=v/\v<n) (λacc t a ac J I=>by
  unfold iY at I;cases V:ba 0 (n-1) t with
  |none=>rw[V] at I;cases I
  |some q=>
   obtain⟨v,ad⟩:=q;rw[V] at I;simp only at I;split at I
   .cases I
   .cases I;have W:=dh V;have ae:=(gN V).1;obtain⟨X,Y,aa⟩:=W.eqs;have t0:=W.1;refine⟨by have:=J.1;rw[r8];simp only[T1];omega,X.trans J.2.1,Y.trans J.2.2.1,aa.trans J.2.2.2.1,λy U=>?_⟩;rcases n9.1 U with U|U
    .exact J.2.2.2.2 y U
    .rw[l9.1 U];omega) k [] s l s' ⟨Ξ,rfl,rfl,rfl,λv ab=>by cases ab⟩ h
 exact this.1
theorem Ka {g B0 bj:Nat} {H:ai} {s:aG} {aw:x1} (h:bE w g B0 H 100000 (σ s)) (aL:aq .i64 an w bj aw all) (aM:∀z∈all,1<=z/\z<=av) (bk:all.length<=100001) (ax:∀r,H r->r<w.heap.size) (bK:iD s):
  aj x3 wL [Γ g,aw] w (uw w g H (cS all s)):=by
 have ck:=h.lt;refine aA func160 ?_;refine bt aW.i λah U cl aB aC=>?_;have aC:ae U ah aW [.slice ν 0 0,.slice ν 0 0,Δ 0,.slice ν 0 0]:=aC;refine bt aW.i λal bL cm aD aE=>?_;have aE:ae bL al aW [.slice ν 0 0,.slice ν 0 0,Δ 0,.slice ν 0 0]:=aE;have h1:=(h.ext aB).base;have aN:=h1.ext aD;have cn:=aB.size;have bl:=aC.lt;have cp:=aE.lt;refine (jf aN).mono ?_;rintro _ ag _ ⟨⟨aF,Y⟩,a,bM,rfl,aO,aQ⟩;rw[aK (v:=Δ a) rfl,aK (v:=Δ bM) rfl,ao];have bN:al≠g:=Ω
 have aR:ah≠g:=Ω
 have aS:=aE.V aF λhe=>bN he;have aT:=(aC.ext aD).V aF λhe=>aR he;have bm:aq .i64 an ag bj aw all:=bb ((aL.ext aB).ext aD) aF λr W he=>by
  have he:r=g:=he;obtain⟨bo,ab,ak,bad,bp,big,bq,told,sv,aI,_⟩:=gS h;subst he;exact bU aL aI Φ W rfl
 have br:∀r,leads aw r->r<U.heap.size:=λr W=>by obtain⟨ab,ak⟩:=bA aL W;omega
 have aU:gl ag U.heap.size al ⟨[],[],0,[]⟩:=⟨_,_,_,0,0,0,aS,aq.nil _ _ _ _,aq.nil _ _ _ _,⟨[],a6.nil _ _ _ _ _,λy bO=>(by cases bO),rfl⟩,(λr W=>by rcases W with⟨a,n,c,ab,ak⟩|⟨a,n,c,ab,ak⟩ <;> cases ab),(λr W=>by obtain⟨a,n,c,ab,ak⟩:=W;cases ab),Ω⟩;have aV:∀c,ae ag al aW c->c[3]? =σ (.slice ν 0 0):=λc aX=>by
  unfold ae at aX aS;rw[aS] at aX;have:=Array.toList_inj.2 (Obj.cells.inj (Z6 aX)).1;simp at this;rw[<-this];rfl
 have bu:af (λr=>r=g) U ag:=(aD.V _).trans aF;have cq:U.heap.size<=ag.heap.size:=bu.size;have aY:∀ {X:x2} {a1:Option (cd×aG)} {v:x1} {w':x2},af (fU g U.heap.size) ag X->a1=cS all s->AL X g ah U.heap.size H a1 v w'->uw w g H (cS all s) v w':=by
  rintro X a1 v w' ac rfl ⟨ap,x,bP,a2,a7,a8,bc,bw,bx,bz,bQ⟩;refine⟨ap,x,bP,?_,a7,a8,bc,bw,bx,λr W=>(bz r W).imp id λh=>Ω,bQ⟩;refine gb (gb ((aB.V _).trans (bu.mono λr _ h=>.inl h)) ac λr W he=>?_) a2 λr W he=>?_
  .exact he.elim .inl λhe=>Ω
  .rcases he with he|he|he|he
   .exact .inl he
   .exact .inr he
   .omega
   .omega
 have bR:∀ {X:x2} {x:cd},af (fU g U.heap.size) ag X->cS all s=ν->bE X g U.heap.size H 100000 ν->gl X U.heap.size al x->
   (J x3 (x5 aW (Γ al)) X λbS=>
    az x3 (o4 aW (Γ ah) bS) X λ(_:Unit) bB=>
    J x3 (do loadVar aW (<-asAddr (Γ ah))) bB λbT=>uw w g H (cS all s) bT bB):=by
  intro X x ac bC bd bW;obtain⟨ay,au,bV,bX,bY,bZ,a2,a7,a8,bc,bw,bx,bz⟩:=bW;let ap:hQ:=⟨ay,au,x.other,bV⟩;have bD:fT X ap x:=⟨⟨bX,a7⟩,⟨bY,a8⟩,rfl,bZ,bc⟩;have be:=aT.V ac λI=>I.elim aR λh=>Ω
  rw[bn aW.p aW.i rfl (show X.rangeAt al 0 (ey ap) from a2.range)];refine bJ (vs:=ey ap) aW.i rfl rfl bD.one be λcr bf ct b0=>?_;rw[eJ aW.p aW.i rfl b0.range];have b1:∀r,r=ah->gk X r\/X.heap.size<=r:=λr W=>by subst W;exact .inl ⟨_,_,be,Φ,Φ⟩
  have cu:=ac.size;refine aY ac rfl ⟨ap,x,H,bf.mono λr _ h=>.inr (.inr (.inl h)),rfl,bD.dq bf b1,?_,(λq aa=>by rw[bC] at aa;cases aa),λ_ h=>h,λ_ h=>.inl h,λr W=>by have:=ax r W;omega⟩;rw[bC];have b2:bE X g U.heap.size H 100001 ν:=by
   obtain⟨cw,w0,bo,b3,gs,sv,L,b4,ab,ak,bad,bp,big,bq,told,h1,aN,Y,b5,b6,bg,bF⟩:=bd;exact⟨Ω,w0,bo,b3,gs,sv,L,b4,ab,ak,bad,bp,big,bq,told,h1,aN,Y,b5,b6,bg,bF.1,by have:=bF.2;omega⟩
  refine b2.dq bf λr W=>.inl ?_;have W:r=ah:=W;subst W;exact⟨_,_,be,Φ,Φ,Φ,Φ,λaH=>by have:=ax _ aH;omega⟩
 have am:=AN (all:=all) (s:=s);have b7:aZ (-4611686018427387904) 4611686018427387904 (σ s)=ba (-av) av s:=rfl;rw[b7] at Y aO aQ;have cz: -4611686018427387904<=a/\a<=4611686018427387904:=by
  cases aa:ba (-av) av s with
  |none=>have:=aQ aa;omega
  |some q=>have:=aO q aa;rw[this];exact (gN (n:=q.1) (s':=q.2) aa).1
 refine aP (λv b8=>ag=b8/\v=Δ (a.natAbs:Int)) ?_ ?_
 rotate_left
 .intro cA bG;rw[ad];refine⟨λcB=>?_,λcC=>bG _ _ ⟨rfl,by congr 1;omega⟩⟩;rw[ki,wrap_i64 Ω Ω];exact bG _ _ ⟨rfl,by congr 1;omega⟩
 rintro _ _ ⟨rfl,rfl⟩;have bH:∀r,H r->r<U.heap.size:=λr W=>by have:=ax r W;omega
 have bI:¬H ah:=λaH=>by have:=ax _ aH;omega
 have b9:∀ {scope:List Int},(∀v∈scope,0<=v/\v<(all.length:Int))-> ∀z∈scope.map (λv=>all.getD v.toNat 0),1<=z/\z<=av:=λca z cb=>by
  obtain⟨v,cc,rfl⟩:=Z5.1 cb;have:=ca v cc;refine aM _ ?_;rw[u4,y0 Ω];exact R2 _
 cases aa:ba (-av) av s with
 |none=>
  rw[aa] at Y am;have ce:=aQ aa;subst ce;refine AJ (s:=s) (ar:=(0:Int).natAbs) Y (.inr ⟨rfl,rfl⟩) aU aV bm br bk Φ (λh=>by cases h) ?_ ?_ ?_
  .intro h;cases h
  .intro _;exact AM (neg:=decide ((0:Int)<0)) Y aU aV (λz aM=>by cases aM) Ξ aT bl bI bH (λcg I=>by cases I) λv w' bh=>aY (af.refl _ _) (by rw[am];rfl) bh
  .intro h;cases h
 |some q=>
  obtain⟨a',s1⟩:=q;rw[aa] at Y am;have:=aO _ aa;subst this;simp only at am;have Y:bE ag g U.heap.size H 100000 (σ s1):=Y;have ch:=dh aa;refine AJ (s:=s1) (ar:=a.natAbs) Y (.inl rfl) aU aV bm br bk Ω (λ_=>(rE Y).1) ?_ ?_ ?_
  .intro _ X x ac aJ bd bi;exact bR ac (by rw[am,aJ]) bd bi
  .intro h;cases h
  .intro _ X scope s' ac aJ bg bi ci;obtain⟨cD,cj,t3,t4,t5⟩:=AO aJ;rw[aJ] at am;obtain⟨ab,ak,cE⟩:=ch.eqs;refine AM (neg:=decide (a<0)) bg bi ci (b9 t5) ?_ (aT.V ac λI=>I.elim aR λh=>Ω) bl bI bH (λcg I=>?_) λv w' bh=>aY ac am.symm bh
   .rw[u5];have:=(rE Y).1;omega
   .cases I;intro aI;rw[t3,ak] at aI;rw[cj,ab];exact bK aI
theorem Kb {s s':aG} {l:List (List Int×Int)} (h:dx sizes s=σ (l,s')) (V:iD s):iD s':=by
 unfold dx at h;cases J:ba (-av) av s with
 |none=>rw[J] at h;cases h
 |some q=>
  obtain⟨n,s1⟩:=q;obtain⟨W,X,t3⟩:=(dh J).eqs;have U:iD s1:=λI=>by rw[W];exact V (by rw[<-X];exact I)
  rw[J] at h;simp only at h;split at h
  .split at h
   .cases h
   .split at h
    .cases h;exact U
    .cases h
  .rename_i ag;have h':cz (dw sizes) n.toNat [] (a1 (decide (16384<min (s1.told+n) av)) {s1 with told:=min (s1.told+n) av})=σ (l,s'):=h;have:=iX (f:=dw sizes) (λ_ t=>iD t) (λacc t a ah Y aa=>by
    obtain⟨_,_,_,ab⟩:=nt aa;obtain⟨ac,ad,ai⟩:=ab.eqs;intro I;rw[ac];exact Y (by rw[<-ad];exact I)) n.toNat [] (a1 (decide (16384<min (s1.told+n) av)) {s1 with told:=min (s1.told+n) av}) l s' (λI=>by
     obtain⟨ae,af⟩:=S0.1 I;have aj:=U ae;have ak:=of_decide_eq_false af;show 0<=min (s1.told+n) av/\min (s1.told+n) av<=16384;unfold av at*;omega) h'
   exact this.1
theorem Kc {s s':aG} {x:cd} (h:cS all s=σ (x,s')):s'.toks.length+1<=s.toks.length/\(iD s->iD s'):=by
 rw[AN] at h;cases V:ba (-av) av s with
 |none=>rw[V] at h;cases h
 |some q=>
  obtain⟨a,s1⟩:=q;rw[V] at h;simp only at h;have aa:=dh V;cases I:eE all.length a.natAbs s1 with
  |none=>rw[I] at h;cases h
  |some p=>
   obtain⟨scope,J⟩:=p;rw[I] at h;simp only at h;obtain⟨au,ae,t3,_⟩:=AO I;unfold iE at h;have e:aZ 0 av ((σ J).map (a1 (decide (6<a.natAbs)||c6 (scope.map λv=>all.getD v.toNat 0))))=ba 0 av (a1 (decide (6<a.natAbs)||c6 (scope.map λv=>all.getD v.toNat 0)) J):=rfl;rw[e] at h;cases W:ba 0 av (a1 (decide (6<a.natAbs)||c6 (scope.map λv=>all.getD v.toNat 0)) J) with
   |none=>rw[W] at h;cases h
   |some af=>
    obtain⟨o,ab⟩:=af;rw[W] at h;simp only at h;have ac:=dh W;cases U:dx (scope.map λv=>all.getD v.toNat 0) ab with
    |none=>rw[U] at h;cases h
    |some ag=>
     obtain⟨ls,X⟩:=ag;rw[U] at h;simp only[Y6,T6] at h;obtain⟨_,ah⟩:=h;have aw:=AK U;have ai:(a1 (decide (6<a.natAbs)||c6 (scope.map λv=>all.getD v.toNat 0)) J).toks=J.toks:=rfl;have aj:=ac.1;rw[ai] at aj;have ax:=aa.1;obtain⟨ak,al,_⟩:=aa.eqs;obtain⟨f1,f2,_⟩:=ac.eqs;have Y:s'.toks=X.toks/\s'.told=X.told/\s'.big=X.big:=by
      rw[<-ah];split <;> exact⟨rfl,rfl,rfl⟩
     refine⟨by rw[Y.1];omega,λam=>?_⟩;have an:iD ab:=λad=>by
      rw[f2] at ad;rw[f1];have ao:J.big=false:=(S0.1 ad).1;show 0<=J.told/\J.told<=16384;rw[ae,ak];exact am (by rw[<-al,<-t3];exact ao)
     have ap:=Kb U an;intro aq;rw[Y.2.1];exact ap (by rw[<-Y.2.2];exact aq)
theorem bE.shrink {g:Nat} {H:ai} {so:Option aG} (h:bE w g B H N so):∃I,bE w g B I N so/\(∀r,I r->H r)/\ ∀r,I r-> ∃c,ae w r aW c:=by
 obtain⟨aa,w0,ab,ac,gs,sv,L,ad,af,ag,bad,ah,big,aj,told,h1,U,W,ak,X,al,am⟩:=h;refine⟨λr=>leadsTo sv r,⟨aa,w0,ab,ac,gs,sv,L,ad,af,ag,bad,ah,big,aj,told,h1,U,W,ak,X,λr J=>J,am⟩,al,λr J=>?_⟩;obtain⟨rfl,c,Y⟩:=di X.2.1 J;refine⟨c,Y.V U λhe=>?_⟩;obtain⟨ao,an⟩:=W;subst he;exact absurd (eu Y an) Φ
theorem bE.low {g:Nat} {H:ai} {s:aG} (h:bE w g B H N (σ s)):bE w g B H 100000 (σ s):=by
 obtain⟨ag,w0,I,J,gs,sv,L,U,V,W,bad,X,big,Y,told,h1,aa,ab,ac,ad,ae,af⟩:=h;exact⟨o8 _,w0,I,J,gs,sv,L,U,V,W,bad,X,big,Y,told,h1,aa,ab,ac,ad,ae,af⟩
theorem bE.up {g M:Nat} {H:ai} {so:Option aG} (h:bE w g B H N so) (ag:N<=M):bE w g B H M so:=by
 obtain⟨ah,w0,J,U,gs,sv,L,V,W,X,bad,Y,big,aa,told,h1,ab,ac,ad,ae,af,I⟩:=h;refine⟨Ω,w0,J,U,gs,sv,L,V,W,X,bad,Y,big,aa,told,h1,ab,ac,ad,ae,af,?_⟩;cases so with
 |none=>exact⟨I.1,by have:=I.2;omega⟩
 |some s=>exact I
def jQ {α:Type} (f:List α->aG->Option (α×aG)) (cnt i:Nat) (I:Option aG) (A:List α) (so:Option aG):Prop:=I.bind (cz f cnt [])=(match so with
 |none=>ν
 |some s=>cz f (cnt-i) A s)
theorem jQ.step {α:Type} {f:List α->aG->Option (α×aG)} {cnt i:Nat} {J:Option aG} {A:List α} {s:aG} {a:α} {U:Option aG} (h:jQ f cnt i J A (σ s)) (hi:i<cnt) (h1:U=(f A s).map (·.2)) (V:∀q,f A s=σ q->a=q.1):jQ f cnt (i+1) J (A++[a]) U:=by
 unfold jQ at*;rw[h,show cnt-i=(cnt-(i+1))+1 by omega];simp only;cases I:f A s with
 |none=>rw[nw I,h1,I];rfl
 |some q=>
  obtain⟨a',s'⟩:=q;have:=V _ I;subst this;rw[qX I,h1,I];rfl
theorem Kd {s0:aG} {acc:List Int} {n most count:Int} {ah:List cd} {aa ab ac ad ai so6 J:Option aG} (h1:aa=((dv s0).map (·.2)).map (a1 (decide (64<t.length)))) (aw:∀q,dv s0=σ q->t=q.1)
  (X:ab=((aZ 1 av aa).map (·.2)).map (a1 (decide (64<n)))) (ao:∀q,aZ 1 av aa=σ q->n=q.1) (V:ac=(aZ 1 av ab).map (·.2)) (hm:∀q,aZ 1 av ab=σ q->most=q.1)
  (U:ad=((aZ 0 av ac).map (·.2)).map (a1 (decide (256<count)))) (ap:∀q,aZ 0 av ac=σ q->count=q.1) (I:ai=((aZ 1 av ad).map (·.2)).map (a1 (decide (2147483648<k)))) (aq:∀q,aZ 1 av ad=σ q->k=q.1)
  (Y:ai.bind (cz (fd most) n.toNat [])=so6.map λs=>(acc,s)) (W:so6.bind (cz (λ_ s=>cS acc s) count.toNat [])=J.map λs=>(ah,s)):gL s0=J.map λs=>(⟨t,k,acc,ah⟩,s):=by
 unfold gL;cases aj:dv s0 with
 |none=>
  rw[aj] at h1;subst h1;subst X;subst V;subst U;subst I;have:so6=ν:=by cases so6 with|none=>rfl|some s=>cases Y
  subst this;cases J with|none=>rfl|some s=>cases W
 |some ax=>
 obtain⟨aI,s1⟩:=ax;have:=aw _ aj;subst this;rw[aj] at h1;have h1:aa=σ (a1 (decide (64<t.length)) s1):=h1;subst h1;simp only;have ay:aZ 1 av (σ (a1 (decide (64<t.length)) s1))=ba 1 av (a1 (decide (64<t.length)) s1):=rfl;rw[ay] at X ao;cases ak:ba 1 av (a1 (decide (64<t.length)) s1) with
 |none=>
  rw[ak] at X;subst X;subst V;subst U;subst I;have:so6=ν:=by cases so6 with|none=>rfl|some s=>cases Y
  subst this;cases J with|none=>rfl|some s=>cases W
 |some az=>
 obtain⟨aJ,ae⟩:=az;have:=ao _ ak;subst this;rw[ak] at X;have X:ab=σ (a1 (decide (64<n)) ae):=X;subst X;simp only;have aA:aZ 1 av (σ (a1 (decide (64<n)) ae))=ba 1 av (a1 (decide (64<n)) ae):=rfl;rw[aA] at V hm;cases al:ba 1 av (a1 (decide (64<n)) ae) with
 |none=>
  rw[al] at V;subst V;subst U;subst I;have:so6=ν:=by cases so6 with|none=>rfl|some s=>cases Y
  subst this;cases J with|none=>rfl|some s=>cases W
 |some aB=>
 obtain⟨aK,af⟩:=aB;have:=hm _ al;subst this;rw[al] at V;have V:ac=σ af:=V;subst V;simp only;have aC:aZ 0 av (σ af)=ba 0 av af:=rfl;rw[aC] at U ap;cases am:ba 0 av af with
 |none=>
  rw[am] at U;subst U;subst I;have:so6=ν:=by cases so6 with|none=>rfl|some s=>cases Y
  subst this;cases J with|none=>rfl|some s=>cases W
 |some aD=>
 obtain⟨aL,ag⟩:=aD;have:=ap _ am;subst this;rw[am] at U;have U:ad=σ (a1 (decide (256<count)) ag):=U;subst U;simp only;have aE:aZ 1 av (σ (a1 (decide (256<count)) ag))=ba 1 av (a1 (decide (256<count)) ag):=rfl;rw[aE] at I aq;cases an:ba 1 av (a1 (decide (256<count)) ag) with
 |none=>
  rw[an] at I;subst I;have:so6=ν:=by cases so6 with|none=>rfl|some s=>cases Y
  subst this;cases J with|none=>rfl|some s=>cases W
 |some aF=>
 obtain⟨aM,au⟩:=aF;have:=aq _ an;subst this;rw[an] at I;have I:ai=σ (a1 (decide (2147483648<k)) au):=I;subst I;simp only;have Y:cz (fd most) n.toNat [] (a1 (decide (2147483648<k)) au)=so6.map λs=>(acc,s):=Y;rw[Y];cases so6 with
 |none=>cases J with|none=>rfl|some s=>cases W
 |some aH=>
  simp only[Y0];have W:cz (λ_ s=>cS acc s) count.toNat [] aH=J.map λs=>(ah,s):=W;rw[W];cases J <;> rfl
def nP (w:x2) (J:Nat) (U:x1) (I:List cd):Prop:=∃L,a6 ey 4 aW w J U L/\I.length=L.length/\ ∀ (i:Nat) h x,L[i]? =σ h->I[i]? =σ x->fT w h x
def mv (w:x2) (J:Nat) (f:bY):Prop:=∃au U I V,ae w J dg [bw f.name,Δ f.k,au,I]/\aq .i64 an w U au f.sizes/\nP w V I f.funs
theorem nP.ext {J:x1} {U:List cd} (h:nP w I J U) (V:Ext w w'):nP w' I J U:=by
 obtain⟨L,h1,W,X⟩:=h;exact⟨L,h1.ext V,W,λi aH x hi Y=>(X i aH x hi Y).ext V⟩
theorem mv.ext {J:Nat} {f:bY} (h:mv w J f) (I:Ext w w'):mv w' J f:=by
 obtain⟨au,U,V,W,h1,X,Y⟩:=h;exact⟨au,U,V,W,h1.ext I,X.ext I,Y.ext I⟩
def Ke (w:x2) (pl:List Int) (v:x1) (w':x2):Prop:=Ext w w'/\ ∃n e:Int,(fK pl=ν->v= .tuple #[.pointer ν,Δ n,Δ e])/\ ∀f,fK pl=σ f-> ∃I,v= .tuple #[Γ I,Δ n,Δ e]/\mv w' I f
theorem Kf {w0:x2} {g W bn:Nat} {so6:Option aG} {acc:List Int} {count bad:Int} {au p:x1} {Q:x1->x2->Prop} (dv:af (λr=>w0.heap.size<=r) w0 w) (cm:ae w W dg [bw t,Δ k,au,.slice ν 0 0]) (dw:aq .i64 an w bn au acc)
  (h:bE w g B bp 100000 so6) (dx:∀s,so6=σ s->iD s/\s.toks.length<=100000/\(∀z∈acc,1<=z/\z<=av)/\acc.length<=100001) (ft:w0.heap.size<=g) (fu:w0.heap.size<=W) (dy:aI .u8 w0 p pl) (fv:0<=count/\count<=4611686018427387904)
  (bK:∀v w' al bM,Ext w0 w'->so6.bind (cz (λ_ s=>cS acc s) count.toNat [])=bM.map (λs=>(al,s))->
   (∀s,bM=σ s->s.toks=[]/\¬0<=bad/\s.big=false->v= .tuple #[Γ W,Δ (pl.length:Int),Δ 0]/\mv w' W ⟨t,k,acc,al⟩)->
   ((∀s,bM=σ s->¬(s.toks=[]/\¬0<=bad/\s.big=false))-> ∃n e:Int,v= .tuple #[.pointer ν,Δ n,Δ e])->Q v w'):
  bZ (Δ 0) w λcn Y dz=>
   bx (α:=x1->x2->Prop) (λ(dA:x1) (am:x2)=>
    Split dA (cj am λah=>
   J x3 (aX (Γ W)) ah λa8=>
   J x3 (x7 dg a8 3) ah λba=>
   J x3 (x5 da ba) ah λbN=>
   J x3 (aX (Γ W)) ah λdC=>
   J x3 (x7 dg dC 2) ah λdD=>
   J x3 (x5 ax dD) ah λdE=>
   aj x3 wL [(Γ g),dE] ah λdF aO=>
    (Ext ah aO\/bk x3 (x5 da ba) bN aO/\bk x3 (x7 dg a8 3) ba aO/\bk x3 (aX (Γ W)) a8 aO/\True)/\
   az x3 (Z7 da 1 #[(0,dF)]) aO λdG aA=>
    (Ext ah aA\/bk x3 (x5 da ba) bN aA/\bk x3 (x7 dg a8 3) ba aA/\bk x3 (aX (Γ W)) a8 aA/\True)/\
    az x3 (l7 #[da,da] da #[bN,dG]) aA λdH bo=>
     J x3 (aX (Γ W)) bo λdI=>
     J x3 (x7 dg dI 3) bo λdJ=>
     az x3 (o4 da dJ dH) bo λ(_:Unit) bb=>
     J x3 (aB .add an false true cn (Δ 1)) bb λdK=>
   dz dK bb)
     (bx (α:=x2->Prop) (λ(ay:x2)=>
   bx (α:=x2->Prop) (λ(ag:x2)=>
    J x3 (aX (Γ g)) ag λdL=>
    J x3 (x7 bm dL 3) ag λdM=>
    J x3 (x5 ab dM) ag λdN=>
    J x3 (aB .neq ab false true dN (Δ 0)) ag λdO=>
    Split dO (cj ag λaJ=>
     J x3 (aX (Γ g)) aJ λdP=>
     J x3 (x7 bm dP 4) aJ λdQ=>
     J x3 (x5 ab dQ) aJ λdR=>
     J x3 (aX (Γ g)) aJ λdS=>
     J x3 (x7 bm dS 3) aJ λdT=>
     J x3 (x5 ab dT) aJ λdU=>
     Q (.tuple #[(.pointer ν),dR,dU]) aJ)
     (J x3 (aX (Γ g)) ag λdV=>
    J x3 (x7 bm dV 5) ag λdW=>
    J x3 (x5 ab dW) ag λdX=>
    J x3 (aB .neq ab false true dX (Δ 0)) ag λdY=>
    Split dY (cj ag λaK=>
     J x3 (aX (Γ g)) aK λdZ=>
     J x3 (x7 bm dZ 6) aK λea=>
     J x3 (x5 ab ea) aK λeb=>
     J x3 (aX (Γ g)) aK λec=>
     J x3 (x7 bm ec 5) aK λee=>
     J x3 (x5 ab ee) aK λef=>
     Q (.tuple #[(.pointer ν),eb,ef]) aK)
     (J x3 (Y3 #[cw] ab #[p]) ag λeg=>
    Q (.tuple #[(Γ W),eg,(Δ 0)]) ag))) λcp=>
   bx (α:=x1->x2->Prop) (λ(eh:x1) (bq:x2)=>
    Split eh (aj x3 lK [(Γ g),(Δ 11),(Δ bad)] bq λfw cq=>
     cp cq)
     (cp bq)) λcr=>
   J x3 (aX (Γ g)) ay λei=>
   J x3 (x7 bm ei 3) ay λej=>
   J x3 (x5 ab ej) ay λek=>
   J x3 (aB .eql ab false true ek (Δ 0)) ay λem=>
   Split em (J x3 (aB .geq ab false true (Δ bad) (Δ 0)) ay λen=>
   cr en ay)
    (cr (.bool false) ay)) λct=>
  bx (α:=x1->x2->Prop) (λ(eo:x1) (aC:x2)=>
   Split eo (J x3 (aX (Γ g)) aC λep=>
    J x3 (x7 bm ep 0) aC λer=>
    J x3 (x5 eP er) aC λes=>
    J x3 (n0 eP es (Δ 0)) aC λet=>
    J x3 (x7 ca et 1) aC λev=>
    J x3 (x5 ab ev) aC λew=>
    aj x3 lK [(Γ g),(Δ 4),ew] aC λfx bQ=>
    ct bQ)
    (ct aC)) λcu=>
  J x3 (aX (Γ g)) am λez=>
  J x3 (x7 bm ez 3) am λeA=>
  J x3 (x5 ab eA) am λeB=>
  J x3 (aB .eql ab false true eB (Δ 0)) am λeC=>
  Split eC (J x3 (aX (Γ g)) am λeD=>
  J x3 (x7 bm eD 0) am λeE=>
  J x3 (x5 eP eE) am λeH=>
  J x3 (Y3 #[eP] ab #[eH]) am λeI=>
  J x3 (aB .gtr ab false true eI (Δ 0)) am λeJ=>
  cu eJ am)
   (cu (.bool false) am))) λcA=>
   J x3 (aB .lss an false false cn (Δ count)) Y λeK=>
   Split eK (J x3 (aX (Γ g)) Y λeL=>
   J x3 (x7 bm eL 3) Y λeM=>
   J x3 (x5 ab eM) Y λeN=>
   J x3 (aB .eql ab false true eN (Δ 0)) Y λeO=>
   cA eO Y)
    (cA (.bool false) Y):=by
 have cB:W≠g:=λhe=>by
  obtain⟨aR,aL,aM,bad,aT,big,aU,told,sv,X,_⟩:=gS h;subst he;exact absurd (eu X cm) Φ
 refine⟨λbR Y=>∃i:Nat,bR=Δ (i:Int)/\i<=count.toNat/\af (λr=>w0.heap.size<=r) w0 Y/\ ∃ap bc al so,∃H:ai,ae Y W dg [bw t,Δ k,au,ap]/\aq .i64 an Y bn au acc/\nP Y bc ap al/\(∀r,leadsTo ap r->w0.heap.size<=r/\¬H r)/\¬H W/\(∀r,leads au r->¬H r)/\(∀r,H r->w0.heap.size<=r)/\bE Y g Y.heap.size H 100001 so/\jQ (λ_ s=>cS acc s) count.toNat i so6 al so/\
   ∀s,so=σ s->iD s/\al.length+s.toks.length<=100000/\(∀z∈acc,1<=z/\z<=av)/\acc.length<=100001,λbR _=>count.toNat-(bL bR).toNat,
  ⟨0,rfl,Y9 _,dv,_,0,[],so6,bp,cm,dw,⟨[],a6.nil _ _ _ _ _,rfl,λi h x hi=>by simp at hi⟩,λr U=>(eF U).elim,id,λr _ h=>h,λr h=>h.elim,h.base.up Ω,?_,λs I=>?_⟩,?_⟩
 .unfold jQ;cases so6 <;> rfl
 .obtain⟨eQ,eR,a3,a4⟩:=dx s I;exact⟨eQ,by simpa using eR,a3,a4⟩
 rintro _ Y ⟨i,rfl,hi,br,ap,bc,al,so,H,cC,cD,cE,bd,bS,eS,cF,aF,bT,eU⟩;refine aP (λv am=>Y=am/\((v= .bool true/\i<count.toNat/\ ∃s,so=σ s)\/(v= .bool false/\(so=ν\/i=count.toNat)))) ?_ ?_
 rotate_left
 .intro fy bU;rw[ao,ad];refine⟨λcG=>?_,λfz=>bU _ _ ⟨rfl,.inr ⟨rfl,.inr Ω⟩⟩⟩;rw[jP aF];cases so with
  |none=>exact bU _ _ ⟨rfl,.inr ⟨rfl,.inl rfl⟩⟩
  |some s=>exact bU _ _ ⟨rfl,.inl ⟨rfl,Ω,s,rfl⟩⟩
 rintro _ _ ⟨rfl,⟨rfl,cG,s,rfl⟩|⟨rfl,eV⟩⟩
 .
  rw[bO];intro ah aV _ _;obtain⟨cH,fA,cI,cJ⟩:=eU s rfl;have be:=cC.ext aV;obtain⟨eW,cK,bf,cL⟩:=(aF.ext aV).low.shrink;have bV:=cD.ext aV;have eX:=cE.ext aV;rw[aw,aa dg.p rfl,ac Ψ (be.cell (o:=0+3) rfl),aw,aa dg.p rfl,ac Ψ (be.cell (o:=0+2) rfl)];refine (Ka cK bV cI cJ (λr U=>by obtain⟨c,X⟩:=cL r U;exact X.lt) cH).mono ?_;rintro _ aO _ ⟨bW,x,cM,aY,rfl,cN,eY,eZ,fB,cO,e0⟩;have cQ:∃c,ae ah g bm c:=by obtain⟨aR,aL,aM,bad,aT,big,aU,told,sv,X,_⟩:=gS cK;exact⟨_,X⟩
  have cR:∀r,(r=g\/eW r)->gk ah r\/ah.heap.size<=r:=λr U=>by
   rcases U with rfl|U
   .obtain⟨c,X⟩:=cQ;exact .inl ⟨_,c,X,Φ,Φ⟩
   .obtain⟨c,X⟩:=cL r U;exact .inl ⟨_,c,X,Φ,Φ⟩
  have bX:=be.V aY λU=>U.elim (λhe=>cB he) λU=>bS (bf _ U);have st:∀ {w':x2},ae w' W dg [bw t,Δ k,au,ap]->bk x3 (x5 da (.pointer (σ ⟨W,0+3,ν⟩))) ap w'/\bk x3 (x7 dg (Γ W) 3) (.pointer (σ ⟨W,0+3,ν⟩)) w'/\bk x3 (aX (Γ W)) (Γ W) w'/\True:=λX=>
   ⟨kt Ψ (X.cell (o:=0+3) rfl),gA (by rw[aa dg.p rfl]),gA (by rw[aw]),trivial⟩
  refine⟨.inr (st bX),?_⟩;refine fM (f:=ey) (a:=bW) da.u aW.i Ω rfl rfl λfC fD aA fE aD e1=>?_;refine⟨.inr (st (bX.ext aD)),?_⟩;obtain⟨L,aZ,bY,b0⟩:=id eX;have e2:a6 ey 4 aW aO bc ap L:=aZ.V aY λr U I=>I.elim (λhe=>by
   obtain⟨c,X⟩:=cQ;subst he;exact b7 aZ X Φ U) λI=>(bd r U).2 (bf r I)
  have b1:=e2.ext aD;refine gd (f:=ey) (a:=bW) da.u aW.i rfl b1 (by simpa using e1.sl) (cN.ext aD).one Ω Ω λcT e3 bo bt e4 cU=>?_;have b3:=bX.ext aD;have cV:=b3.V cU λhe=>b7 b1 b3 Φ he;rw[aw,aa dg.p rfl];refine bj (g:=W) (o:=3) da.i (cP bt.sl).1 (cP bt.sl).2 cV Ξ λbb cW fF b4=>?_;have b4:ae bb W dg [bw t,Δ k,au,cT]:=b4;have fG:i<=4611686018427387904:=Ω
  rw[aN,wrap_i64 Ω Ω];have a1:af (λr=>leadsTo ap r\/r=W) aA bb:=(cU.mono λr _ h=>.inl h).trans (cW.mono λr _ h=>.inr h);have cX:∀r,(leadsTo ap r\/r=W)-> ∃e c,ae aA r e c/\e≠an/\e≠b2/\e≠ca/\e≠bm:=λr U=>by
   rcases U with U|rfl
   .obtain⟨rfl,c,X⟩:=di b1 U;exact⟨_,c,X,Φ,Φ,Φ,Φ⟩
   .exact⟨_,_,b3,Φ,Φ,Φ,Φ⟩
  have b5:∀r,(leadsTo ap r\/r=W)->gk aA r\/aA.heap.size<=r:=λr U=>by
   obtain⟨e,c,X,b6,b8,_⟩:=cX r U;exact .inl ⟨e,c,X,b6,b8⟩
  have fH:=aV.size;have fI:=aY.size;have fJ:=aD.size;have fK:=a1.size;have cY:∀r,leadsTo ap r->r<ah.heap.size:=λr U=>by obtain⟨aL,aM⟩:=aZ.leads U;omega
  have bg:∀r,r<ah.heap.size->¬H r->¬cM r:=λr U e5 b9=>(cO r b9).elim (λh=>e5 (bf r h)) λh=>Ω
  have e6:∀r,leads au r->r<ah.heap.size:=λr U=>by obtain⟨aL,aM⟩:=bA bV U;omega
  refine⟨⟨i+1,rfl,Ω,?_,cT,e3,al++[x],_,cM,b4,ed ((ed bV aY cR).ext aD) a1 b5,⟨L++[bW],bt.V cW λr U he=>?_,by rw[r8,r8,bY];rfl,λj cZ e7 a2 bh=>?_⟩,λr U=>?_,bg W be.lt bS,λr U=>bg r (e6 r U) (eS r U),λr U=>?_,?_,bT.step cG rfl λq ak=>eZ q ak,λs' aE=>?_⟩,by simp only[bL];omega⟩
  .refine (((br.trans (aV.V _)).trans (aY.mono λr _ h=>?_)).trans (aD.V _)).trans (a1.mono λr _ h=>?_)
   .exact h.elim (λh=>Ω) λh=>cF r (bf r h)
   .exact h.elim (λh=>(bd r h).1) λh=>Ω
  .have he:r=W:=he;subst he;exact b7 bt cV Φ U
  .by_cases e8:j<L.length
   .rw[j0 e8] at a2;rw[j0 Ω] at bh;exact (((b0 j cZ e7 a2 bh).dq aY cR).ext aD).dq a1 b5
   .rw[Z1 Ω] at a2;rw[Z1 Ω] at bh;have e9:j-L.length=0:=by have:=(x4.1 a2).1;simp at this;omega
    have fa:j-al.length=0:=Ω
    rw[e9] at a2;rw[fa] at bh;cases a2;cases bh;exact (cN.ext aD).dq a1 b5
  .rcases e4 r U with h|h
   .exact⟨(bd r h).1,bg r (cY r h) (bd r h).2⟩
   .exact⟨by have:=br.size;omega,λb9=>by have:=e0 r b9;omega⟩
  .rcases cO r U with h|h
   .exact cF r (bf r h)
   .have:=br.size;omega
  .refine (eY.ext aD).dq a1 λr U=>.inl ?_;obtain⟨e,c,X,b6,b8,fb,fc⟩:=cX r U;refine⟨e,c,X,b6,b8,fb,fc,?_⟩;rcases U with U|rfl
   .exact bg r (cY r U) (bd r U).2
   .exact bg _ be.lt bS
  .cases cc:cS acc s with
   |none=>rw[cc] at aE;cases aE
   |some q=>
    obtain⟨fL,c0⟩:=q;rw[cc] at aE;cases aE;obtain⟨fN,fd⟩:=Kc cc;refine⟨fd cH,?_,cI,cJ⟩;rw[r8];simp only[T1];omega
 .
  rw[aQ];have cd:so6.bind (cz (λ_ s=>cS acc s) count.toNat [])=so.map λs=>(al,s):=by
   unfold jQ at bT;rw[bT];cases so with
   |none=>rfl
   |some s=>
    rcases eV with h|rfl
    .cases h
    .simp only[W7];rfl
  have row:∀ {w':x2},af (λr=>r=g) Y w'->nP w' bc ap al/\ae w' W dg [bw t,Δ k,au,ap]/\aq .i64 an w' bn au acc:=λbu=>by
   obtain⟨aR,aL,aM,bad,aT,big,aU,told,sv,X,_⟩:=gS aF;have c1:∀r,r=g->gk Y r\/Y.heap.size<=r:=λr U=>by subst U;exact .inl ⟨_,_,X,Φ,Φ⟩
   obtain⟨L,aZ,bY,b0⟩:=id cE;refine⟨⟨L,aZ.V bu λr U he=>?_,bY,λi h x hi fe=>(b0 i h x hi fe).dq bu c1⟩,cC.V bu λhe=>cB he,ed cD bu c1⟩;have he:r=g:=he;subst he;exact b7 aZ X Φ U
  refine dt (λay=>af (λr=>r=g) Y ay/\bE ay g Y.heap.size H 100001 (so.bind λs=>if s.toks=[] then σ s else ν)) ?_ ?_
  rotate_left
  .intro fO c2;refine aP (λv aC=>Y=aC/\ ∃b:Bool,v= .bool b/\(b=true-> ∃s,so=σ s/\s.toks≠[])/\(b=false-> ∀s,so=σ s->s.toks=[])) ?_ ?_
   .rintro _ _ ⟨rfl,b,rfl,ce,cg⟩;cases b with
    |true=>
     obtain⟨s,rfl,bz⟩:=ce rfl;rw[bO];obtain⟨c3,c4,aR,bi,gs,sv,L,c5,aL,aM,ch,aT,big,aU,told,c6,bC,bD,a7,bF,c7,c8,c9,bG,db,dc,bH,dd,de,df⟩:=id aF;obtain⟨⟨ci,ff⟩,_⟩:=bF.g bC bD;obtain⟨x,fP,rfl⟩:∃x l,bi=x::l:=by
      cases bi with
      |nil=>exact absurd bH.symm (by simpa using bz)
      |cons x l=>exact⟨x,l,rfl⟩
     rw[aw,aa bm.p rfl,ac Ψ (a7.cell (o:=0+0) rfl)];refine AF ci λb o fg=>?_;rw[aa ca.p rfl,ac Ψ (fg 1 _ rfl)];refine (mu aF Ω).mono ?_;rintro _ bQ _ ⟨fh,fi⟩;refine c2 _ ⟨fh,?_⟩;show bE bQ g _ H 100001 (if s.toks=[] then σ s else ν);rw[if_neg bz];exact fi
    |false=>
     rw[aQ];refine c2 _ ⟨af.refl _ _,?_⟩;cases so with
     |none=>exact aF
     |some s=>
      show bE _ g _ H 100001 (if s.toks=[] then σ s else ν);rw[if_pos (cg rfl s rfl)];exact aF
   .intro fQ dh;rw[jP aF];cases so with
    |none=>
     rw[Option.isSome_none,aQ];exact dh _ _ ⟨rfl,false,rfl,(λh=>by cases h),λ_ s I=>by cases I⟩
    |some s=>
     rw[Option.isSome_some,bO];obtain⟨c3,c4,aR,bi,gs,sv,L,c5,aL,aM,ch,aT,big,aU,told,c6,bC,bD,a7,bF,c7,c8,c9,bG,db,dc,bH,dd,de,df⟩:=id aF;obtain⟨⟨ci,ff⟩,_⟩:=bF.g bC bD;rw[aw,aa bm.p rfl,ac Ψ (a7.cell (o:=0+0) rfl),AE ci,bP];have fR:bi.length=s.toks.length:=by rw[<-bH,u5]
     refine dh _ _ ⟨rfl,_,rfl,λh=>⟨s,rfl,λbl=>?_⟩,λh s' aE=>?_⟩
     .have:=of_decide_eq_true h;have cZ:s.toks.length=0:=by rw[bl];rfl
      omega
     .cases aE;have:=of_decide_eq_false h;exact Z2 Ω
  rintro ay ⟨dj,ck⟩;refine dt (λag=>af (λr=>r=g) Y ag/\bE ag g Y.heap.size H 100001 (so.bind λs=>if s.toks=[]/\¬0<=bad then σ s else ν)) ?_ ?_
  rotate_left
  .intro fS dk;refine aP (λv bq=>ay=bq/\ ∃b:Bool,v= .bool b/\(b=true->(so.bind λs=>if s.toks=[]/\¬0<=bad then σ s else ν)=ν)/\(b=false->(so.bind λs=>if s.toks=[]/\¬0<=bad then σ s else ν)=so.bind λs=>if s.toks=[] then σ s else ν)) ?_ ?_
   .rintro _ _ ⟨rfl,b,rfl,ce,cg⟩;cases b with
    |true=>
     rw[bO];refine (mu ck Ω).mono ?_;rintro _ cq _ ⟨fj,fk⟩;exact dk _ ⟨dj.trans fj,by rw[ce rfl];exact fk⟩
    |false=>
     rw[aQ];exact dk _ ⟨dj,by rw[cg rfl];exact ck⟩
   .intro fU dl;rw[jP ck];cases ak:(so.bind λs=>if s.toks=[] then σ s else ν) with
    |none=>
     rw[Option.isSome_none,aQ];refine dl _ _ ⟨rfl,false,rfl,(λh=>by cases h),λ_=>?_⟩;cases so with
     |none=>rfl
     |some s=>
      have ak:(if s.toks=[] then σ s else ν)=ν:=ak;show (if s.toks=[]/\¬0<=bad then σ s else ν)=(if s.toks=[] then σ s else ν);rw[ak];split at ak
      .cases ak
      .rename_i bz;rw[if_neg (λh=>bz h.1)]
    |some s=>
     rw[Option.isSome_some,bO,cb];refine dl _ _ ⟨rfl,_,rfl,λh=>?_,λh=>?_⟩
     .have bl:=of_decide_eq_true h;cases so with
      |none=>rfl
      |some s=>exact if_neg λh=>h.2 bl
     .have bl:=of_decide_eq_false h;cases so with
      |none=>rfl
      |some s=>
       show (if s.toks=[]/\¬0<=bad then σ s else ν)=(if s.toks=[] then σ s else ν);by_cases I:s.toks=[]
       .rw[if_pos I,if_pos ⟨I,bl⟩]
       .rw[if_neg I,if_neg λh=>I h.1]
  rintro ag ⟨dm,bI⟩;obtain⟨fm,fo,fp⟩:=row dm;have fq:af (λr=>w0.heap.size<=r) w0 ag:=br.trans (dm.mono λr _ h=>by have h:r=g:=h;omega);have bJ:Ext w0 ag:=fq.ext λr U he=>Ω
  rw[pu bI];cases ak:(so.bind λs=>if s.toks=[]/\¬0<=bad then σ s else ν) with
  |none=>
   rw[Option.isSome_none,X4,bO];intro aJ dn _ _;obtain⟨aR,aL,aM,ch,aT,big,aU,told,sv,X,_⟩:=gS (bI.ext dn);rw[aw,aa bm.p rfl,ac Ψ (X.cell (o:=0+4) rfl),aw,aa bm.p rfl,ac Ψ (X.cell (o:=0+3) rfl)];refine bK _ _ al so (bJ.trans dn) cd (λs I aH=>?_) λ_=>⟨_,_,rfl⟩;subst I;have ak:(if s.toks=[]/\¬0<=bad then σ s else ν)=ν:=ak;rw[if_pos ⟨aH.1,aH.2.1⟩] at ak;cases ak
  |some s=>
   rw[ak] at bI;rw[Option.isSome_some,Y1,aQ];obtain⟨s',rfl,aE⟩:∃s',so=σ s'/\(if s'.toks=[]/\¬0<=bad then σ s' else ν)=σ s:=by
    cases so with
    |none=>cases ak
    |some s'=>exact⟨s',rfl,ak⟩
   split at aE
   .rename_i dp;cases aE;obtain⟨c3,c4,aR,bi,gs,sv,L,c5,aL,aM,ch,aT,big,aU,told,c6,bC,bD,a7,bF,c7,c8,c9,bG,db,dc,bH,dd,de,df⟩:=id bI;rw[aw,aa bm.p rfl,ac Ψ (a7.cell (o:=0+5) rfl),bB,ad];refine⟨λcl=>?_,λcl=>?_⟩
    .intro aK dr _ _;have ds:=a7.ext dr;rw[aw,aa bm.p rfl,ac Ψ (ds.cell (o:=0+6) rfl),aw,aa bm.p rfl,ac Ψ (ds.cell (o:=0+5) rfl)];refine bK _ _ al _ (bJ.trans dr) cd (λc0 du aH=>?_) λ_=>⟨_,_,rfl⟩;cases du;rw[bG.1 cl] at aH;cases aH.2.2
    .rw[aS cw.u (dy.ext bJ)];refine bK _ _ al _ bJ cd (λc0 du aH=>⟨rfl,au,bn,ap,bc,fo,fp,fm⟩) λfs=>?_;refine absurd ⟨dp.1,dp.2,?_⟩ (fs s rfl);cases X:s.big with
     |false=>rfl
     |true=>exact absurd (bG.2 X) cl
   .cases aE
def Zero (so:Option aG):Prop:=∀s,so=σ s->s.told=0/\s.toks.length<=100000
theorem Zero.big {so:Option aG} (h:Zero so) (b:Bool):Zero (so.map (a1 b)):=λs I=>by
 cases so with
 |none=>cases I
 |some s0=>cases I;exact h s0 rfl
theorem zero_num {lo hi:Int} {so:Option aG} (h:Zero so):Zero ((aZ lo hi so).map (·.2)):=λs I=>by
 cases so with
 |none=>cases I
 |some s0=>
  have I:V7 (λx=>x.2) (ba lo hi s0)=σ s:=I;cases J:ba lo hi s0 with
  |none=>rw[J] at I;cases I
  |some q=>
   obtain⟨n,s1⟩:=q;rw[J] at I;cases I;have U:=dh J;have:=U.1;obtain⟨h1,V⟩:=h s0 rfl;exact⟨U.eqs.1.trans h1,by show s1.toks.length<=100000;omega⟩
theorem Kg {so:Option aG} (h:Zero so):Zero ((h9 so).map (·.2)):=λs I=>by
 cases so with
 |none=>cases I
 |some s0=>
  have I:V7 (λx=>x.2) (dv s0)=σ s:=I;cases J:dv s0 with
  |none=>rw[J] at I;cases I
  |some q=>
   obtain⟨n,s1⟩:=q;rw[J] at I;cases I;obtain⟨U,V⟩:=qP J;obtain⟨h1,W⟩:=h s0 rfl;have:s0.toks.length=s1.toks.length+1:=by rw[U];rfl
   exact⟨by show s1.told=0;rw[V];exact h1,by show s1.toks.length<=100000;omega⟩
theorem Kh {so:Option aG} {f:bY} (h:gL ⟨(lex pl).1,0,false,[]⟩=so.map λs=>(f,s)) (I:¬65536<pl.length):fK pl=so.bind λs=>if s.toks=[]/\(lex pl).2=true/\s.big=false then σ f else ν:=by
 unfold fK;rw[if_neg I,h];cases so <;> rfl
theorem Ki (I:pl.length<=60000):(∀t∈(lex pl).1,Bytes t/\t.length<=65536)/\(lex pl).1.length<=60000:=by
 refine⟨λt J=>?_,X0 (oy pl.length pl (o8 _)) I⟩;obtain⟨_,U,W⟩:=qE pl.length pl (o8 _) t J;refine⟨λb V=>?_,Ω⟩;have:=of_decide_eq_true (U b V);omega
theorem AP {p:x1} (aW:aI .u8 w p pl) (cQ:Bytes pl) (cS:pl.length<=60000):aj x3 CY [p] w (Ke w pl):=by
 obtain⟨cT,em⟩:=Ki cS;refine aA func68 ?_;rw[aS cw.u aW,bP,ad];refine⟨λh=>Ω,λ_=>?_⟩;refine (J2 aW cQ Ω).mono ?_;rintro _ U _ ⟨be,aE,bG,bad,rfl,bH,bI,cU,en,bK⟩;rw[aK (v:=aE) rfl,aK (v:=Δ bad) rfl,aS cw.u (aW.ext be),cR (cs:=#[aE,Δ (pl.length:Int),Δ 4,Δ 0,Δ 0,Δ 0,Δ 0,Δ 0,.slice ν 0 0]) (by obtain⟨_,_,_,_,_,rfl,_⟩:=bH;kernel_rfl)];refine bM λg bN eo aX aF=>?_;have aF:ae bN g bm (fA aE (pl.length:Int) 4 0 0 0 0 0 (.slice ν 0 0)):=aF;have ep:=be.size;have er:=aX.size;have es:=aF.lt;refine dt (λY=>Ext w Y/\af (λr=>r=g) bN Y/\ ∃aJ aL:Int,aL≠0/\ae Y g bm (fA aE aJ aL 0 0 0 0 0 (.slice ν 0 0))) ?_ ?_
 rotate_left
 .intro cV aC;have bQ:=be.trans aX;rw[cb,ad];refine⟨λ_=>?_,λ_=>aC _ ⟨bQ,af.refl _ _,_,_,Ω,aF⟩⟩;rw[aw,aa bm.p rfl];refine bj (g:=g) (o:=1) ab.i rfl rfl aF (by simp[fA]) λet cW eu cX=>?_;rw[aw,aa bm.p rfl];refine bj (g:=g) (o:=2) ab.i rfl rfl cX (by simp[fA]) λev cY ew cZ=>?_;have ag:=cW.trans cY;exact aC _ ⟨bQ.then ag λr J he=>by have he:r=g:=he;omega,ag,bad,11,Ω,cZ⟩
 rintro Y ⟨bR,bf,aJ,aL,c0,bS⟩;have z3:=bf.size;have c1:bE Y g Y.heap.size bp 100000 (σ ⟨(lex pl).1,0,false,[]⟩):=by
  refine⟨o8 _,Y,aE,bG,0,_,[],[],aJ,aL,0,0,0,0,0,rfl,af.refl _ _,⟨_,bS⟩,bS,⟨⟨?_,λr J=>?_⟩,a6.nil _ _ _ _ _,rfl,λi h x hi=>by simp at hi⟩,λr J=>eF J,rfl,c0,Ξ,λ_=>rfl,trivial,bI,cT,rfl,?_⟩
  .refine (bH.V (aX.V λ_=>False) λ_ _ h=>h).V bf λr J he=>?_;have he:r=g:=he;obtain⟨c,ap⟩:=bK r J;have:=ap.lt;omega
  .obtain⟨c,ap⟩:=bK r J;exact⟨c,(ap.ext aX).V bf λhe=>by have he:r=g:=he;have:=ap.lt;omega⟩
  .have:bG.length=(lex pl).1.length:=by rw[<-bI,u5]
   simp only[List.length_nil];omega
 have ey:∀ {aB:x2} {c2 N:Nat} {H:ai} {so:Option aG},bE aB g c2 H N so->True:=λ_=>trivial;rw[cR (cs:=#[bw [],Δ 0,.slice ν 0 0,.slice ν 0 0]) Ψ];refine bM λW c3 ez bg aY=>?_;have aY:ae c3 W dg [bw [],Δ 0,.slice ν 0 0,.slice ν 0 0]:=aY;have eA:Y.heap.size<=W:=Ω
 have eB:=aY.lt;have c4:W≠g:=Ω
 have ak:∀ {aB aM:x2} {c:List x1},ae aB W dg c->af (λr=>r=g) aB aM->ae aM W dg c:=λap ag=>ap.V ag λhe=>c4 he;refine (AG (c1.ext bg)).mono ?_;rintro _ c5 _ ⟨⟨bh,c6⟩,t,bT,rfl,eC,eD,c7⟩;refine bt ca.i λbi eE eH c8 c9=>?_;refine bJ (vs:=[bw t,Δ bT]) ca.i rfl rfl (by intro v bV;simp at bV;rcases bV with rfl|rfl <;> rfl) c9 λda db eI bW=>?_;have a2:Ext c5 da:=c8.then db λr J he=>by have he:r=bi:=he;omega
 have dc:=(ak aY bh).ext a2;rw[aa ca.p rfl,ac Ψ (bW.cell (o:=0+0) rfl),aw,aa dg.p rfl];refine bj (g:=W) (o:=0) cK.i rfl rfl dc Ξ λbk bl eJ bn=>?_;have bn:ae bk W dg [bw t,Δ 0,.slice ν 0 0,.slice ν 0 0]:=bn;have dd:=(c6.ext a2).new bl λr J=>by have J:r=W:=J;omega
 have z4:=bg.size;have z5:=bh.size;have eK:=a2.size;have bX:ae bk bi ca [bw t,Δ bT]:=bW.V bl λhe=>by have he:bi=W:=he;omega
 rw[aa ca.p rfl,ac Ψ (bX.cell (o:=0+0) rfl),l6 cK.u,bP,aa ca.p rfl,ac Ψ (bX.cell (o:=0+1) rfl)];have de:af (λr=>w.heap.size<=r) w bk:=((((bR.V _).trans (bg.V _)).trans (bh.mono λr _ h=>by have h:r=g:=h;omega)).trans (a2.V _)).trans (bl.mono λr _ h=>by have h:r=W:=h;omega);have up:∀ {aB aM:x2},af (λr=>w.heap.size<=r) w aB->af (λr=>r=g) aB aM->af (λr=>w.heap.size<=r) w aM:=λh k=>h.trans (k.mono λr _ h=>by have h:r=g:=h;omega);refine (ln dd).mono ?_;rintro _ eL _ ⟨bY,aO⟩;have df:=up de bY;have di:=ak bn bY;generalize bo:(((h9 (σ ⟨(lex pl).1,0,false,[]⟩)).map (·.2)).map (a1 (decide ((64:Int)<(t.length:Int)))))=bq at aO;refine (jf aO).mono ?_;rintro _ eM _ ⟨⟨bZ,dj⟩,n,dk,rfl,b0,dl⟩;rw[aK (v:=Δ n) rfl,aK (v:=Δ dk) rfl,bP];refine (ln dj).mono ?_;rintro _ eN _ ⟨b1,b2⟩;have dm:=up (up df bZ) b1;have dn:=ak (ak di bZ) b1;generalize b3:((aZ 1 4611686018427387904 bq).map (·.2)).map (a1 (decide (64<n)))=br at b2;refine (jf b2).mono ?_;rintro _ eO _ ⟨⟨b4,b5⟩,most,dp,rfl,hm,dq⟩;rw[aK (v:=Δ most) rfl,aK (v:=Δ dp) rfl];generalize b6:(aZ 1 4611686018427387904 br).map (·.2)=bu at b5;refine (jf b5).mono ?_;rintro _ eP _ ⟨⟨b7,dr⟩,count,ds,rfl,b8,du⟩;rw[aK (v:=Δ count) rfl,aK (v:=Δ ds) rfl,bP];refine (ln dr).mono ?_;rintro _ eQ _ ⟨b9,cc⟩;generalize cd:((aZ 0 4611686018427387904 bu).map (·.2)).map (a1 (decide (256<count)))=ce at cc;refine (jf cc).mono ?_;rintro _ eR _ ⟨⟨cg,dv⟩,k,dw,rfl,dx,eS⟩;rw[aK (v:=Δ k) rfl,aK (v:=Δ dw) rfl,bP];refine (ln dv).mono ?_;rintro _ eU _ ⟨ch,ci⟩;generalize cj:((aZ 1 4611686018427387904 ce).map (·.2)).map (a1 (decide (2147483648<k)))=aR at ci;have dy:=up (up (up (up (up dm b4) b7) b9) cg) ch;have dz:=ak (ak (ak (ak (ak dn b4) b7) b9) cg) ch;rw[aw,aa dg.p rfl];refine bj (g:=W) (o:=1) an.i rfl rfl dz Ξ λck cl eV bx=>?_;have bx:ae ck W dg [bw t,Δ k,.slice ν 0 0,.slice ν 0 0]:=bx;have dA:=ci.new cl λr J=>by have J:r=W:=J;omega
 have cm:af (λr=>w.heap.size<=r) w ck:=dy.trans (cl.mono λr _ h=>by have h:r=W:=h;omega);have eW:0<=n/\n<=4611686018427387904:=by
  cases X:aZ 1 4611686018427387904 bq with
  |none=>have:=dl X;omega
  |some q=>have aO:=b0 q X;have:=li (n:=q.1) (s':=q.2) X;omega
 have eX:0<=most/\most<=4611686018427387904:=by
  cases X:aZ 1 4611686018427387904 br with
  |none=>have:=dq X;omega
  |some q=>have aO:=hm q X;have:=li (n:=q.1) (s':=q.2) X;omega
 have dC:0<=count/\count<=4611686018427387904:=by
  cases X:aZ 0 4611686018427387904 bu with
  |none=>have:=du X;omega
  |some q=>have aO:=b8 q X;have:=li (n:=q.1) (s':=q.2) X;omega
 have dD:Zero (σ (⟨(lex pl).1,0,false,[]⟩:aG)):=λs I=>by cases I;exact⟨rfl,by simp only;omega⟩
 have dE:Zero bq:=by rw[<-bo];exact (Kg dD).big _
 have dF:Zero br:=by rw[<-b3];exact (zero_num dE).big _
 have dG:Zero bu:=by rw[<-b6];exact zero_num dF
 have dH:Zero ce:=by rw[<-cd];exact (zero_num dG).big _
 have cn:Zero aR:=by rw[<-cj];exact (zero_num dH).big _
 have eY:=cm.size;refine⟨λbz ay=>∃i:Nat,bz=Δ (i:Int)/\i<=n.toNat/\af (λr=>w.heap.size<=r) w ay/\ ∃au cp acc so,ae ay W dg [bw t,Δ k,au,.slice ν 0 0]/\aq .i64 an ay cp au acc/\(∀r,leads au r->Y.heap.size<=r)/\bE ay g Y.heap.size bp 100000 so/\jQ (fd most) n.toNat i aR acc so/\ ∀s,so=σ s->s.told=0/\acc.length+s.toks.length<=100000/\ ∀z∈acc,1<=z/\z<=av,λbz _=>n.toNat-(bL bz).toNat,
  ⟨0,rfl,Y9 _,cm,_,0,[],aR,bx,aq.nil _ _ _ _,(λr J=>by obtain⟨a,a7,c,aJ,aL⟩:=J;cases aJ),dA,?_,λs I=>⟨(cn s I).1,by simpa using (cn s I).2,λz dI=>by cases dI⟩⟩,?_⟩
 .unfold jQ;cases aR <;> rfl
 rintro _ ay ⟨i,rfl,hi,bA,au,cp,acc,so,cq,cr,ct,aT,bB,cu⟩;refine aP (λv dK=>ay=dK/\((v= .bool true/\i<n.toNat/\ ∃s,so=σ s)\/(v= .bool false/\(so=ν\/i=n.toNat)))) ?_ ?_
 rotate_left
 .intro cV aC;rw[ao,ad];refine⟨λcA=>?_,λeZ=>aC _ _ ⟨rfl,.inr ⟨rfl,.inr Ω⟩⟩⟩;rw[jP aT];cases so with
  |none=>exact aC _ _ ⟨rfl,.inr ⟨rfl,.inl rfl⟩⟩
  |some s=>exact aC _ _ ⟨rfl,.inl ⟨rfl,Ω,s,rfl⟩⟩
 rintro _ _ ⟨rfl,⟨rfl,cA,s,rfl⟩|⟨rfl,dL⟩⟩
 .rw[bO];obtain⟨dM,e0,dN⟩:=cu s rfl;refine (jf aT).mono ?_;rintro _ e1 _ ⟨⟨dO,dP⟩,z,dQ,rfl,bC,e2⟩;rw[aK (v:=Δ z) rfl,aK (v:=Δ dQ) rfl,bP];refine (ln dP).mono ?_;rintro _ e3 _ ⟨dR,dS⟩;have a8:=dO.trans dR;have cB:=ak cq a8;have dT:∀r,r=g->gk ay r\/ay.heap.size<=r:=λr J=>(jg aT r J).imp (λ⟨e,c,ap,dU,dV,_⟩=>⟨e,c,ap,dU,dV⟩) id;have cC:=ed cr a8 dT;rw[aw,aa dg.p rfl,ac Ψ (cB.cell (o:=0+2) rfl)];refine dJ ax.u an.i rfl λa22 e4 dW e5 aD dX=>?_;refine fz ax.u an.i rfl (cC.ext aD) dX.ls Θ Θ λcD dY e6 bc dZ cE=>?_;have cF:=cB.ext aD;have cG:=cF.V cE λhe=>bU (cC.ext aD) cF Φ he rfl;rw[aw,aa dg.p rfl];refine bj (g:=W) (o:=2) ax.i bc.ls.cells.1 bc.ls.cells.2 cG Ξ λcH cI e7 bD=>?_;have bD:ae cH W dg [bw t,Δ k,cD,.slice ν 0 0]:=bD;rw[aN,wrap_i64 Ω Ω];have cJ:af (λr=>leads au r\/r=W) dW cH:=(cE.mono λr _ h=>.inl h).trans (cI.mono λr _ h=>.inr h);have cL:∀r,(leads au r\/r=W)->Y.heap.size<=r:=λr J=>J.elim (ct r) λJ=>Ω
  have e8:w.heap.size<=Y.heap.size:=bR.size;have e9:=a8.size;have z22:=aD.size;have fa:=bA.size;have fb:=aT.lt;refine⟨⟨i+1,rfl,Ω,((up bA a8).trans (aD.V _)).trans (cJ.mono λr _ h=>by have:=cL r h;omega),cD,dY,acc++[z],((aZ 1 most (σ s)).map (·.2)).map (a1 (decide (32<z))),bD,bb bc cI λr J he=>?_,λr J=>?_,(dS.ext aD).new cJ cL,?_,λs' al=>?_⟩,by simp only[bL];omega⟩
  .have he:r=W:=he;subst he;exact bU bc cG Φ J rfl
  .rcases dZ r J with h|h
   .exact ct r h
   .omega
  .refine bB.step cA ?_ λq X=>?_
   .show (V7 _ (ba 1 most s)).map _=_;unfold fd;cases X:ba 1 most s with
    |none=>rfl
    |some q=>
     have:=bC q X;obtain⟨cM,bd⟩:=q;subst this;rfl
   .unfold fd at X;cases am:ba 1 most s with
    |none=>rw[am] at X;cases X
    |some aU=>
     rw[am] at X;have:=bC aU am;obtain⟨cM,bd⟩:=aU;cases X;exact this
  .cases am:ba 1 most s with
   |none=>
    have al:(V7 (λx=>x.2) (ba 1 most s)).map (a1 (decide (32<z)))=σ s':=al;rw[am] at al;cases al
   |some aU=>
    have al:(V7 (λx=>x.2) (ba 1 most s)).map (a1 (decide (32<z)))=σ s':=al;rw[am] at al;have ea:=bC aU am;obtain⟨cM,bd⟩:=aU;cases al;have cN:=dh am;have gm:=(gN am).1;have fc:=cN.1;refine⟨by show bd.told=0;rw[cN.eqs.1];exact dM,?_,λy aV=>?_⟩
    .rw[r8];show acc.length+1+bd.toks.length<=100000;omega
    .rcases n9.1 aV with aV|aV
     .exact dN y aV
     .rw[l9.1 aV,ea];exact⟨gm.1,by unfold av;have:=gm.2;simp only at*;omega⟩
 .rw[aQ];have eb:aR.bind (cz (fd most) n.toNat [])=so.map λs=>(acc,s):=by
   unfold jQ at bB;rw[bB];cases so with
   |none=>rfl
   |some s=>
    rcases dL with h|rfl
    .cases h
    .simp only[W7];rfl
  refine Kf bA cq cr aT (λs I=>?_) Ω Ω aW dC λv w' ec ee bF ef eg cO=>?_
  .obtain⟨eh,fe,a3⟩:=cu s I;exact⟨λ_=>by rw[eh];omega,Ω,a3,Ω⟩
  .have ei:(decide ((64:Int)<(t.length:Int)))=decide (64<t.length):=by rw[V8,decide_eq_true_eq,decide_eq_true_eq];omega
   rw[ei] at bo;have ej:=Kd (s0:=⟨(lex pl).1,0,false,[]⟩) bo.symm (λq X=>c7 q X) b3.symm b0 b6.symm hm cd.symm b8 cj.symm dx eb ef;have az:=Kh ej Ω;have cP:¬0<=bad↔(lex pl).2=true:=by
    rw[cU];cases (lex pl).2 <;> simp
   cases ee with
   |none=>
    obtain⟨a7,e,rfl⟩:=cO λs I=>by cases I
    exact⟨bF,a7,e,λ_=>rfl,λf ah=>by rw[az] at ah;cases ah⟩
   |some s=>
    have az:fK pl=if s.toks=[]/\(lex pl).2=true/\s.big=false then σ ⟨t,k,acc,ec⟩ else ν:=az;by_cases ag:s.toks=[]/\(lex pl).2=true/\s.big=false
    .rw[if_pos ag] at az;obtain⟨rfl,ek⟩:=eg s rfl ⟨ag.1,cP.2 ag.2.1,ag.2.2⟩;exact⟨bF,_,_,(λah=>by rw[az] at ah;cases ah),λf ah=>⟨W,rfl,by rw[az] at ah;cases ah;exact ek⟩⟩
    .rw[if_neg ag] at az;obtain⟨a7,e,rfl⟩:=cO λs' al aH=>by
      cases al;exact ag ⟨aH.1,cP.1 aH.2.1,aH.2.2⟩
     exact⟨bF,a7,e,λ_=>rfl,λf ah=>by rw[az] at ah;cases ah⟩
theorem Kj {a b:Int}:aj x3 EN [Δ a,Δ b] w λv w'=>v=Δ (min a b)/\Ext w w':=by
 refine aA func300 ?_;rw[ao,ad];exact⟨λh=>⟨by congr 1;omega,Ext.refl _⟩,λh=>⟨by congr 1;omega,Ext.refl _⟩⟩
theorem Kk {I:hQ} {x:cd} {aD:x1} (h:fT w I x) (ax:(x.lines.map (·.1)).Nodup) (ay:aI .i64 w aD t):aj x3 EB [.agg (ey I).toArray,aD,Δ k] w λv w'=>v=Δ (ir x k t)/\Ext w w':=by
 obtain⟨⟨aZ,az⟩,⟨a1,aB⟩,aC,a2,L,W,aE,al⟩:=id h;refine aA func269 ?_;refine bM λaF U a6 ag J=>?_;have J:ae U aF aW (ey I):=by
  obtain⟨_,_,_,aG⟩:=b0 az.ls;obtain⟨_,_,_,aH⟩:=b0 aB.ls;obtain⟨_,_,_,_,_,aJ,_⟩:=W.sl;simp only[ey,aG,aH,aJ] at J ⊢;exact J
 have aK:=W.ext ag;have aL:L.length=x.lines.length:=by rw[<-al,u5]
 rw[aa aW.p rfl,ac (v:=Δ I.o) Ψ (J.cell (o:=0+2) rfl),aa aW.p rfl,ac (v:=I.bV) Ψ (J.cell (o:=0+3) rfl),dc dG.u aK,aC];refine bC.range L.length (λi X Y=>Ext U Y/\ ∃c:Int,X=Δ c/\min c k=jK x k i t) W.le ⟨Ext.refl _,x.other,rfl,(zB x k t).symm⟩ ?_ ?_
 .rintro i _ Y aM hi ⟨V,c,rfl,ab⟩ aO;obtain⟨y,ah⟩:∃y,L[i]? =σ y:=⟨_,y0 hi⟩;obtain⟨a7,an⟩:=aE y (x6 ah);have ai:=ag.trans V;have aQ:x.lines[i]? =σ (y.t,y.c):=by rw[<-al,x8,ah];rfl
  have ap:=zD (k:=k) ax aQ t;rw[ao,ad];refine⟨λ_=>?_,λh=>Ω⟩;refine aP (λX aq=>Ext U aq/\ ∃c:Int,X=Δ c/\min c k=jK x k (i+1) t) ?_ ?_
  .rintro X aq aR;rw[aN];exact aO _ _ aR
  intro a8 au;have av:=W.ext ai;rw[cO rfl dG.u b2.i av hi,bn b2.p b2.i rfl (av.range ah)];refine bt b2.i λam ba bb aS aT=>?_;refine bJ (vs:=mr y) b2.i rfl rfl (uv an) aT λaU aV bc aw=>?_;have af:Ext Y aU:=aS.then aV λr bd he=>by have he:r=am:=he;omega
  rw[aa b2.p rfl,ac Ψ (aw.cell (o:=0+0) rfl)];refine (uu ((an.ls.ext ai).ext af) ((ay.ext ai).ext af)).mono ?_;rintro _ be _ ⟨rfl,ak⟩;rw[ad];refine⟨λhe=>?_,λaX=>?_⟩
  .rw[aa b2.p rfl,ac Ψ ((aw.ext ak).cell (o:=0+1) rfl)];refine au _ _ ⟨(V.trans af).trans ak,y.c,rfl,?_⟩;rw[ap,if_pos he.symm]
  .refine au _ _ ⟨(V.trans af).trans ak,c,rfl,?_⟩;rw[ap,if_neg λhe=>aX he.symm,ab]
 .rintro _ Y aM ⟨V,c,rfl,ab⟩;rw[aL,zC] at ab;rw[ao,ad];refine⟨λh=>Ω,λ_=>?_⟩;refine Kj.mono ?_;rintro _ bf _ ⟨rfl,aY⟩;exact⟨by rw[ab],(ag.trans V).trans aY⟩
theorem Kl {am:x1} (h:aI .i64 w am l) (au:l.Nodup) (aU:l.length<=64):aj x3 EA [am] w λv w'=>Ext w w'/\ ∃g,aq .i64 ab w' g v (bh l)/\ ∀r,leads v r->w.heap.size<=r:=by
 refine aA func268 ?_;have av:∀i,i<=64->(((X9 i).map λ(v:Nat)=>(v:Int)).filter λv=>decide (v∈l)).length<=i:=λi _=>by
  have:=List.length_filter_le (λv=>decide (v∈l)) ((X9 i).map λ(v:Nat)=>(v:Int));simp at this;omega
 refine bC.range 64 (λi I U=>Ext w U/\ ∃g,aq .i64 ab U g I (((X9 i).map λ(v:Nat)=>(v:Int)).filter λv=>decide (v∈l))/\ ∀r,leads I r->w.heap.size<=r) Ω ⟨Ext.refl _,0,aq.nil _ _ _ _,λr X=>by obtain⟨a,n,c,aw,aV⟩:=X;cases aw⟩ ?_ ?_
 .rintro i I U k hi ⟨Y,g,hm,ae⟩ ay;rw[ao,ad];refine⟨λ_=>?_,λh=>Ω⟩;rw[aS ax.u (h.ext Y)];have az:=av i Ω;generalize aB:(((X9 i).map λ(v:Nat)=>(v:Int)).filter λv=>decide (v∈l))=A at hm az;refine bC.range l.length (λj I aa=>Ext w aa/\ ∃g,aq .i64 ab aa g I (A++(if (i:Int)∈l.take j then[(i:Int)] else[]))/\ ∀r,leads I r->w.heap.size<=r) h.le ⟨Y,g,by simpa using hm,ae⟩ ?_ ?_
  .rintro j aC aa aD aE ⟨V,af,J,W⟩ aF;obtain⟨x,ag⟩:∃x,l[j]? =σ x:=⟨_,y0 aE⟩;rw[ao,ad];refine⟨λ_=>?_,λh=>Ω⟩;refine aP (λI ac=>Ext w ac/\ ∃g,aq .i64 ab ac g I (A++(if (i:Int)∈l.take (j+1) then[(i:Int)] else[]))/\ ∀r,leads I r->w.heap.size<=r) ?_ ?_
   .rintro aW ac aG;rw[aN];exact aF _ _ aG
   intro aX ap;have ai:(i:Int)∈l.take (j+1)↔(i:Int)∈l.take j\/(i:Int)=x:=by
    rw[r9,ag,Z9,n9,l9]
   rw[bc ax.u an.i Ψ (h.ext V) ag,bi,ad];refine⟨λhe=>?_,λaJ=>?_⟩
   .have aK:(i:Int)∉l.take j:=λhm=>by
     obtain⟨p,ak⟩:=Y7.1 hm;have aL:p<j:=by have:=(x4.1 ak).1;rw[o7] at this;omega
     rw[Y2 aL,<-he] at ak;have:=i7 au ak ag;omega
    rw[if_neg aK,V4] at J;refine dJ (k:=.i64) ah.u ab.i rfl λa3 aY ac aZ al aM=>?_;refine fz ah.u ab.i rfl (J.ext al) aM.ls Θ Θ λa1 aO a2 aQ aR aT=>?_;have a6:=V.size;have z3:=al.size;refine ap _ _ ⟨(V.trans al).then aT λr X he=>by have:=W r he;omega,aO,?_,λr X=>(aR r X).elim (W r) λh=>Ω⟩;rw[if_pos (ai.2 (.inr he.symm))];exact aQ
   .refine ap _ _ ⟨V,af,?_,W⟩;have:((i:Int)∈l.take (j+1))=((i:Int)∈l.take j):=propext ⟨λaH=>(ai.1 aH).resolve_right λhe=>aJ he.symm,λaH=>ai.2 (.inl aH)⟩;simp only[this];exact J
  .rintro aC aa aD ⟨V,af,J,W⟩;rw[o9] at J;rw[ao,ad];refine⟨λh=>Ω,λ_=>?_⟩;rw[aN];refine ay _ _ ⟨V,af,?_,W⟩;rw[List.range_succ,Z4,List.filter_append,aB];by_cases hm:(i:Int)∈l
   .rw[if_pos hm] at J;simpa[hm] using J
   .rw[if_neg hm] at J;simpa[hm] using J
 .rintro I U k ⟨Y,g,hm,ae⟩;rw[ao,ad];exact⟨λh=>Ω,λ_=>⟨Y,g,hm,ae⟩⟩
structure e7 where
 ay:x1
 au:x1
 aJ:x1
 sc:List Int
 cs:List Int
def c4 (h:e7):List x1:=[h.ay,h.au,h.aJ]
def e8 (w:x2) (sizes:List Int) (h:e7):Prop:=(∃g,aq .i64 ab w g h.ay h.sc)/\(∃g,aq .i64 ab w g h.au (bD sizes h.sc))/\ ∃g,aq .i64 an w g h.aJ h.cs
theorem e8.ext {h:e7} (aH:e8 w sizes h) (I:Ext w w'):e8 w' sizes h:=by
 obtain⟨⟨J,h1⟩,⟨U,V⟩,W,X⟩:=aH;exact⟨⟨J,h1.ext I⟩,⟨U,V.ext I⟩,W,X.ext I⟩
theorem e8.one {h:e7} (aH:e8 w sizes h):∀u∈c4 h,u.oneCell'=true:=by
 obtain⟨⟨U,h1⟩,⟨V,I⟩,W,J⟩:=aH;intro u hu;simp[c4] at hu;rcases hu with rfl|rfl|rfl
 .exact h1.ls.cells.2
 .exact I.ls.cells.2
 .exact J.ls.cells.2
theorem AQ {cP:Nat} {f:bY} {x:cd} {aE:hQ} (h:fT w aE x) (ba:eL N f) (b9:x∈f.funs) (cQ:aq .i64 an w cP sv f.sizes):
  aj x3 Ec [.agg (ey aE).toArray,sv,Δ f.k] w λv w'=>Ext w w'/\ ∃c:e7,v= .agg (c4 c).toArray/\c.sc=bh x.scope/\c.cs=(gO f.sizes f.k x).2/\e8 w' f.sizes c/\ ∀r,leads c.aJ r->w.heap.size<=r:=by
 obtain⟨aQ,cS,ef⟩:=ba.funs x b9;have ca:=rf aQ ba.sizes.2.1;have cb:=re ca aQ.scope.1;have cT:(bh x.scope).length<=6:=by rw[cb.length_eq];exact cS
 have cU:=nE ba b9;have cc:=zs x.scope;obtain⟨⟨eg,bd⟩,⟨eh,cV⟩,ei,ej,cW⟩:=id h;refine aA func223 ?_;refine bM λbF U ek ce aR=>?_;have aR:ae U bF aW (ey aE):=by
  obtain⟨L,cX,_⟩:=cW;obtain⟨_,_,_,ag⟩:=b0 bd.ls;obtain⟨_,_,_,am⟩:=b0 cV.ls;obtain⟨_,_,_,_,_,cY,_⟩:=cX.sl;simp only[ey,ag,am,cY] at aR ⊢;exact aR
 refine bt aY.i λcg em en bG bH=>?_;have bI:=ce.trans bG;rw[aa aW.p rfl,ac (v:=aE.ay) Ψ ((aR.ext bG).cell (o:=0+0) rfl)];refine (Kl (bd.ls.ext bI) aQ.scope.1 Ω).mono ?_;rintro ay ch _ ⟨be,bf,bK,eo⟩;rw[cR (cs:=#[ay,.slice ν 0 0,.slice ν 0 0]) (by obtain⟨_,_,_,rfl⟩:=b0 bK.ls;kernel_rfl)];refine bt aY.i λW ep cZ c0 c1=>?_;refine bJ (vs:=[ay,.slice ν 0 0,.slice ν 0 0]) aY.i rfl rfl (by intro u hu;simp at hu;rcases hu with rfl|rfl;exact bK.ls.cells.2;rfl) c1 λap c2 er aI=>?_;have bg:Ext ch ap:=c0.then c2 λr J he=>by have he:r=W:=he;omega
 have ci:=(bI.trans be).trans bg;have aF:=bK.ext bg;have bL:=((aR.ext bG).ext be).ext bg;have cj:=(bH.ext be).ext bg;have es:=bI.size;have z3:=be.size;have ev:=ci.size;have ew:=aI.lt;have ez:W=ch.heap.size:=cZ;rw[aa aY.p rfl,ac Ψ (aI.cell (o:=0+0) rfl),aS ah.u aF.ls];have ck:∀v∈bh x.scope,0<=v/\v<f.sizes.length:=λv hm=>aQ.scope.2 v ((o2 ca).1 hm);have bN:∀ {w':x2},af (λr=>r=W\/ap.heap.size<=r) ap w'->Ext w w':=λbO=>ci.then bO λr J he=>Ω
 have bP:(bD f.sizes (bh x.scope)).length=(bh x.scope).length:=by simp[bD]
 refine bZ.range (bh x.scope).length (λi av=>af (λr=>r=W\/ap.heap.size<=r) ap av/\ ∃au gs,ae av W aY [ay,au,.slice ν 0 0]/\aq .i64 ab av gs au ((bD f.sizes (bh x.scope)).take i)/\ ∀r,leads au r->ap.heap.size<=r) Ω
  ⟨af.refl _ _,_,0,aI,aq.nil _ _ _ _,λr J=>by obtain⟨a,n,c,ag,am⟩:=J;cases ag⟩ ?_ ?_
 .rintro i av c3 hi ⟨aw,au,gs,c5,aT,bQ⟩ c6;obtain⟨v,bS⟩:∃v,(bh x.scope)[i]? =σ v:=⟨_,y0 hi⟩;have eA:=ck v (x6 bS);have c7:aq .i64 ab av bf ay (bh x.scope):=bb aF aw λr J I=>by
   rcases I with rfl|I
   .exact bU aF aI Φ J rfl
   .obtain⟨ag,am⟩:=bA aF J;omega
  rw[ao,ad];refine⟨λ_=>?_,λh=>Ω⟩;rw[bc ah.u ab.i Ψ c7.ls bS];intro eB aU _ _;have cl:=c5.ext aU;have c8:f.sizes[v.toNat]? =σ (f.sizes.getD v.toNat 0):=by rw[u4,y0 Ω];rfl
  rw[aa aY.p rfl,ac Ψ (cl.cell (o:=0+1) rfl),dZ (y:=v) (i:=v.toNat) Ω ax.u an.i Ψ (cQ.ext ((bN aw).trans aU)).ls c8];refine dJ (k:=.i64) ah.u ab.i rfl λeC eD c9 eE aV da=>?_;refine⟨.inl aV,?_⟩;have cm:=(aT.ext aU).ext aV;refine fz ah.u ab.i rfl cm da.ls Θ Θ λdb dc eF bk dd cn=>?_;have cp:=cl.ext aV;have cq:=cp.V cn λhe=>bU cm cp Φ he rfl;rw[aa aY.p rfl];refine bj (g:=W) (o:=1) ah.i bk.ls.cells.1 bk.ls.cells.2 cq Ξ λde cr eH df=>?_;rw[aN];have dg:af (λr=>leads au r\/r=W) c9 de:=(cn.mono λr _ h=>.inl h).trans (cr.mono λr _ h=>.inr h);have dh:=aw.size;have eI:=(aU.trans aV).size;refine c6 _ ⟨((aw.trans (aU.V _)).trans (aV.V _)).trans (dg.mono λr _ h=>h.elim (λh=>.inr (bQ r h)) .inl),db,dc,df,?_,λr J=>(dd r J).elim (bQ r) λh=>Ω⟩;have e:(bD f.sizes (bh x.scope)).take (i+1)=(bD f.sizes (bh x.scope)).take i++[f.sizes.getD v.toNat 0]:=by
   unfold bD;rw[<-List.map_take,<-List.map_take,r9,bS,Z9,Z4];rfl
  rw[e];exact bb bk cr λr J he=>by
   have he:r=W:=he;subst he;exact bU bk cq Φ J rfl
 rintro av c3 ⟨aw,au,gs,bT,aT,bQ⟩;rw[<-bP,o9] at aT;rw[ao,ad];refine⟨λh=>Ω,λ_=>?_⟩;have eM:=bN aw;have bl:bR (bD f.sizes (bh x.scope)):=⟨by rw[bP];exact cT,nD ba.sizes.2.2 ck⟩;have di:=cU.small;rw[aa aY.p rfl,ac Ψ (bT.cell (o:=0+1) rfl)];refine (oE _ aT.ls bl).mono ?_;rintro dj Y _ ⟨bm,ct⟩;have eN:=h2 bl.2;have eO:=kw bl.2;have eP:aL (bD f.sizes (bh x.scope))<=4096:=di;rw[eK cu.u ct];have bo:af (λr=>r=W\/ap.heap.size<=r) ap Y:=aw.trans (bm.V _);have aX:=bT.ext bm;have cw:=aT.ext bm;have dh:=aw.size;have eQ:=bm.size;have bV:aq .i64 ab Y bf ay (bh x.scope):=bb aF bo λr J I=>by
  rcases I with rfl|I
  .exact bU aF aI Φ J rfl
  .obtain⟨ag,am⟩:=bA aF J;omega
 have bW:ae Y bF aW (ey aE):=bL.V bo λI=>I.elim (λhe=>by subst he;exact absurd (eu bL aI) Φ) λh=>by have:=bL.lt;omega
 have cz:=cj.V bo λI=>I.elim (λhe=>by have:=bH.lt;omega) λh=>by have:=cj.lt;omega
 have cA:∀ {w':x2},af (λr=>r=W\/Y.heap.size<=r) Y w'->Ext w w':=λbO=>(bN bo).then bO λr J he=>by
  have he:r=W\/Y.heap.size<=r:=he;omega
 have eR:W<Y.heap.size:=aX.lt;refine bZ.range (bu (bD f.sizes (bh x.scope))).length (λq X=>af (λr=>r=W\/Y.heap.size<=r) Y X/\ ∃aJ aZ,ae X W aY [ay,au,aJ]/\aq .i64 an X aZ aJ (((bu (bD f.sizes (bh x.scope))).take q).map λt=>ir x f.k (nu x.scope (bh x.scope) t))/\ ∀r,leads aJ r->Y.heap.size<=r) Ω
  ⟨af.refl _ _,_,0,aX,aq.nil _ _ _ _,λr J=>by obtain⟨a,n,c,ag,am⟩:=J;cases ag⟩ ?_ ?_
 .rintro q X dk dl ⟨ai,aJ,aZ,a1,a2,bq⟩ dm;obtain⟨t,br⟩:∃t,(bu (bD f.sizes (bh x.scope)))[q]? =σ t:=⟨_,y0 dl⟩;have eS:t.length=(bh x.scope).length:=by
   have dn:=oI bl.2 (i:=q) Ω;rw[dn] at br;cases br;rw[h0,bP]
  have bX:=cA ai;have dp:ak.rep (α:=List (List Int)) true (et av.heap.size) bp X [dj] (bu (bD f.sizes (bh x.scope))):=ak.V ct ai λr J h I=>by
   rcases h with h|h
   .have h:av.heap.size<=r:=h;have:=bT.lt;rcases I with I|I <;> omega
   .exact h
  have aK:∀ {az:Nat} {aB:x1} {aC:List Int},aq .i64 ab Y az aB aC->aq .i64 ab X az aB aC:=λhm=>bb hm ai λr J I=>by
   rcases I with rfl|I
   .exact bU hm aX Φ J rfl
   .obtain⟨ag,am⟩:=bA hm J;omega
  have cB:=aK bV;have cC:ae X bF aW (ey aE):=bW.V ai λI=>I.elim (λhe=>by subst he;exact absurd (eu bW aX) Φ) λh=>by have:=bW.lt;omega
  rw[ao,ad];refine⟨λ_=>?_,λh=>Ω⟩;refine k7 (α:=List Int) rfl rfl cu.u ah.i Ψ dp br λaD dq=>?_;have dr:=dR dq;rw[aa aW.p rfl,ac (v:=aE.ay) Ψ (cC.cell (o:=0+0) rfl),aS ax.u (bd.ls.ext bX)];have z12:=ai.size;refine bC.range x.scope.length (λp al bw=>Ext X bw/\ ∃go,aq .i64 an bw go al ((x.scope.take p).map λv=>t.getD ((bh x.scope).idxOf v) 0)/\ ∀r,leads al r->X.heap.size<=r) Ω ⟨Ext.refl _,0,aq.nil _ _ _ _,λr J=>by obtain⟨a,n,c,ag,am⟩:=J;cases ag⟩ ?_ ?_
  .rintro p al bw ds dt ⟨aM,go,a6,cD⟩ du;obtain⟨v,b1⟩:∃v,x.scope[p]? =σ v:=⟨_,y0 dt⟩;have dv:v∈bh x.scope:=cb.mem_iff.2 (x6 b1);rw[ao,ad];refine⟨λ_=>?_,λh=>Ω⟩;have dw:=bX.trans aM;have dx:=a1.ext aM;have dy:=cB.ext aM;rw[bc ax.u an.i Ψ (bd.ls.ext dw) b1,aa aY.p rfl,ac Ψ (dx.cell (o:=0+0) rfl),aS ah.u dy.ls];generalize cE:((x.scope.take p).map λv=>t.getD ((bh x.scope).idxOf v) 0)=A at a6;have eU:A.length=p:=by rw[<-cE,u5,o7];omega
   refine bC.range (bh x.scope).length (λj al bx=>Ext X bx/\ ∃go,aq .i64 an bx go al (A++if v∈(bh x.scope).take j then[t.getD ((bh x.scope).idxOf v) 0] else[])/\ ∀r,leads al r->X.heap.size<=r) Ω ⟨aM,go,by simpa using a6,cD⟩ ?_ ?_
   .rintro j dz bx dA dC ⟨aG,b2,aO,a8⟩ dD;obtain⟨u,hu⟩:∃u,(bh x.scope)[j]? =σ u:=⟨_,y0 dC⟩;have dE:=cB.ext aG;rw[ao,ad];refine⟨λ_=>?_,λh=>Ω⟩;refine aP (λal b3=>Ext X b3/\ ∃go,aq .i64 an b3 go al (A++if v∈(bh x.scope).take (j+1) then[t.getD ((bh x.scope).idxOf v) 0] else[])/\ ∀r,leads al r->X.heap.size<=r) ?_ ?_
    .rintro eV b3 dF;rw[aN];exact dD _ _ dF
    intro eW cF;have b4:v∈(bh x.scope).take (j+1)↔v∈(bh x.scope).take j\/v=u:=by
     rw[r9,hu,Z9,n9,l9]
    rw[bc ah.u ab.i Ψ dE.ls hu,bi,ad];refine⟨λhe=>?_,λb5=>?_⟩
    .have dG:v∉(bh x.scope).take j:=λhm=>by
      obtain⟨dH,b6⟩:=Y7.1 hm;have dI:dH<j:=by have:=(x4.1 b6).1;rw[o7] at this;omega
      rw[Y2 dI,<-he] at b6;have:=i7 cc b6 hu;omega
     rw[if_neg dG,V4] at aO;have dK:t[j]? =σ (t.getD ((bh x.scope).idxOf v) 0):=by
      have:(bh x.scope).idxOf v=j:=pa cc (by rw[hu,he]);rw[this,u4,y0 (show j<t.length by omega)];rfl
     rw[bc ah.u ab.i Ψ (dr.ext aG) dK];refine dJ ax.u an.i rfl λeX eY eZ e0 b7 dL=>?_;refine fz ax.u an.i rfl (aO.ext b7) dL.ls Θ Θ λe1 dM e2 dN dO dP=>?_;have e3:=aG.size;have e4:=b7.size;refine cF _ _ ⟨(aG.trans b7).then dP λr J he=>by have:=a8 r he;omega,dM,?_,λr J=>(dO r J).elim (a8 r) λh=>Ω⟩;rw[if_pos (b4.2 (.inr he.symm))];exact dN
    .refine cF _ _ ⟨aG,b2,?_,a8⟩;have:(v∈(bh x.scope).take (j+1))=(v∈(bh x.scope).take j):=propext ⟨λaH=>(b4.1 aH).resolve_right λhe=>b5 he.symm,λaH=>b4.2 (.inl aH)⟩;simp only[this];exact aO
   .rintro dz bx dA ⟨aG,b2,aO,a8⟩;rw[o9,if_pos dv] at aO;rw[ao,ad];refine⟨λh=>Ω,λ_=>?_⟩;rw[aN];refine du _ _ ⟨aG,b2,?_,a8⟩;rw[r9,b1,Z9,Z4,cE];exact aO
  .rintro al bw ds ⟨aM,go,a6,cD⟩;rw[o9] at a6;rw[ao,ad];refine⟨λh=>Ω,λ_=>?_⟩;intro e5 cG _ _;have bz:=aM.trans cG;have dQ:=a1.ext bz;have dS:=cC.ext bz;rw[aa aY.p rfl,ac Ψ (dQ.cell (o:=0+2) rfl),bn aW.p aW.i rfl dS.range];refine (Kk (h.ext (bX.trans bz)) aQ.lines.1 (a6.ls.ext cG)).mono ?_;rintro _ e6 _ ⟨rfl,b8⟩;refine⟨.inl b8,?_⟩;refine dJ ax.u an.i rfl λe9 fa dT fb cH dU=>?_;refine⟨.inl (b8.trans cH),?_⟩;have bB:=(bz.trans b8).trans cH;have cI:=a2.ext bB;refine fz ax.u an.i rfl cI dU.ls Θ Θ λdV dW fc bE dX cJ=>?_;have cK:=a1.ext bB;have cL:=cK.V cJ λhe=>bU cI cK Φ he rfl;rw[aa aY.p rfl];refine bj (g:=W) (o:=2) ax.i bE.ls.cells.1 bE.ls.cells.2 cL Ξ λdY cM fd ea=>?_;rw[aN];have eb:af (λr=>leads aJ r\/r=W) dT dY:=(cJ.mono λr _ h=>.inl h).trans (cM.mono λr _ h=>.inr h);have fe:=bB.size;refine dm _ ⟨(ai.trans (bB.V _)).trans (eb.mono λr _ h=>h.elim (λh=>.inr (bq r h)) .inl),dV,dW,ea,?_,λr J=>(dX r J).elim (bq r) λh=>Ω⟩;rw[r9,br,Z9,Z4];exact bb bE cM λr J he=>by
    have he:r=W:=he;subst he;exact bU bE cL Φ J rfl
 .rintro X dk ⟨ai,aJ,aZ,a1,a2,bq⟩;rw[o9] at a2;rw[ao,ad];refine⟨λh=>Ω,λ_=>?_⟩;have aK:∀ {az:Nat} {aB:x1} {aC:List Int},aq .i64 ab Y az aB aC->aq .i64 ab X az aB aC:=λhm=>bb hm ai λr J I=>by
   rcases I with rfl|I
   .exact bU hm aX Φ J rfl
   .obtain⟨ag,am⟩:=bA hm J;omega
  let c:e7:=⟨ay,au,aJ,bh x.scope,(gO f.sizes f.k x).2⟩;have ec:e8 X f.sizes c:=⟨⟨bf,aK bV⟩,⟨gs,aK cw⟩,aZ,a2⟩;rw[bn aY.p aY.i rfl (show X.rangeAt W 0 (c4 c) from a1.range)];have cN:=cz.V ai λI=>I.elim (λhe=>by have:=bH.lt;omega) λh=>by have:=cz.lt;omega
  refine bJ (vs:=c4 c) aY.i rfl rfl ec.one cN λed cO ff ee=>?_;rw[eJ aY.p aY.i rfl ee.range];have a7:∀ {az:Nat} {aB:x1} {aC:List Int} {e:u9},e≠aY->aq .i64 e X az aB aC->aq .i64 e ed az aB aC:=λb5 hm=>bb hm cO λr J he=>by
   have he:r=cg:=he;exact bU hm cN b5 J he
  refine⟨(cA ai).then cO λr J he=>by have he:r=cg:=he;have:=ce.size;omega,c,rfl,rfl,rfl,⟨⟨bf,a7 Φ (aK bV)⟩,⟨gs,a7 Φ (aK cw)⟩,aZ,a7 Φ a2⟩,λr J=>?_⟩;have:=bq r J;omega
end Go.Proofs.YtgbkinibgjmodaaGreatDoor
