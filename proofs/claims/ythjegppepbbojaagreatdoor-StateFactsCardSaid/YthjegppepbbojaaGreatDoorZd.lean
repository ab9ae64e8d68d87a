/- own texts, made small by a tool (wip/ holds them as they were written): no statement of the seat. -/
import Derived.Test.YthjegppepbbojaaGreatDoorZc
set_option linter.unusedVariables false
set_option linter.unusedSimpArgs false
set_option linter.unnecessarySimpa false
open Array renaming getElem?_eq_some_iff→Z1,getElem?_toList→R4
open Bool renaming not_true→Y6,not_false→W6,eq_iff_iff→U4,and_eq_true→U8,or_eq_false_iff→R3
open Decidable renaming not_not→X9
open Go renaming Value→y0,World→x2,TypeId→o4,IntKind→o6,Builtin→j5,Program→V2
open Go.Addr renaming add_mid→T3
open Go.Builtin renaming append_→j4,len_→X0
open Go.Instr renaming loadAt→x7,fieldAt→x8,storeAt→o7,indexAt→l7,extract→Y0,buildSlice→Y1,sliceAt→V5,alloc→S8
open Go.IntKind renaming i64→X2
open Go.Proofs.Tryz renaming prog→x3
open Int renaming toNat_natCast→j0
open List renaming getElem?_eq_some_iff→x4,mem_of_getElem?→x5,getElem?_eq_getElem→x6,getElem?_map→u4,length_map→u5,getD_eq_getElem?_getD→u9,length_append→r8,take_add_one→r9,length_take→o5,replicate→o8,take_length→o9,take_of_length_le→n0,mem_append→l5,mem_singleton→l9,map_append→j9,append_assoc→Z4,length_cons→Z5,mem_map→Z6,eq_nil_of_length_eq_zero→Z8,getElem?_append_left→Y3,getElem?_append_right→Y5,getElem?_take_of_lt→Y7,getElem?_eq_none→Y9,flatMap_cons→X3,mem_iff_getElem?→X4,append_nil→X6,length_set→W0,ext_getElem?→W5,length_eq_one_iff→W7,mem_or_eq_of_mem_set→W8,range→V0,getElem?_set_ne→V3,drop_eq_getElem_cons→V4,length_singleton→U2,pairwise_iff_getElem→U3,getElem?_set_self→U5,mem_of_mem_take→U9,map_cons→T2,set_append_right→T6,map_set→T8,length→T9,getElem_mem→S3,length_filter_le→S5
open Nat renaming le_refl→n9,mul_le_mul_right→X1,zero_le→X7,le_trans→X8,zero_add→V8,sub_self→V9,add_mul→U7,mul_one→S2,min_eq_left→S4,le_succ→R6,add_assoc→Q0,add_sub_cancel_left→Q1
open Option renaming toList_some→j6,isNone_some→Z7,map_some→Y4,map_eq_some_iff→X5,map→U6,getD_some→S1
open Option.some renaming inj→Z9,injEq→Y8
open Prod renaming mk→R8
open Prod.mk renaming injEq→T5
set_option maxHeartbeats 16000000
open Option renaming some→σ,none→ν
variable {sv szv v:y0}{B J N X ag aj gz j n:Nat}{w w':x2}{all cs l pl sizes szs t:Λ}{e:o4}{k y:Int}{S:Nat->Prop}{K:y0->Prop}
namespace Go.Proofs.YthjegppepbbojaaGreatDoor
open Go Go.Vc Go.RowKit Go.Proofs Go.Proofs.Tryz
set_option maxRecDepth 100000
theorem sC {g:Nat} {sc:Λ} (hm:ao .i64 ac w g sv sc):∀u∈ev ⟨sv,J,sc,cs⟩,u.oneCell'=true:=λu hu=>by
 simp[ev] at hu;rcases hu with rfl|rfl
 .exact hm.ls.cells.2
 .rfl
theorem KX {cd:Nat} {f:b4} (ce:kr w cd f) (ah:e1 N f) (cg:N<=60000) (dh:f.name≠[]/\ ∀b∈f.name,bQ b=true):
  ai x3 EH [Γ cd] w (KW w f):=by
 have hk:=ah.k;refine az func102 ?_;refine (Kj ce ah cg dh).mono ?_;rintro _ V _ ⟨a6,e,rfl,he⟩;rw[bH,ak];refine⟨λch=>⟨a6,.inl ⟨λh=>ch (he h),e,ch,rfl⟩⟩,λeL=>?_⟩;have ci:=ce.ext a6;obtain⟨szv,a8,gz,bD,cj,di,bE,ba⟩:=id ci;have eM:bD.length<=256:=by rw[ba.1];exact ah.ki
 rw[aK cv.p 3 cj rfl,eh dB.u bE];refine bA.range bD.length (λi l aa=>∃g L,Ext V aa/\eW aa g l L/\Sem aa f.k f.sizes L/\L.map dM=eE f i/\(∀r,leadsTo l r->V.heap.size<=r)/\ ∀x∈L,∀r,leads x.sv r->V.heap.size<=r) (lR bE)
  ⟨0,[],Ext.refl _,⟨bb.nil _ _ _ _ _,λx Y=>(by cases Y)⟩,λx Y=>(by cases Y),rfl,λr U=>(eT U).elim,λx Y=>(by cases Y)⟩ ?_ ?_
 .rintro i l aa dj hi ⟨g,L,aC,aV,bc,aj,au,aW⟩ dk;obtain⟨d,ck⟩:=aN (l:=bD) hi;obtain⟨x,bd⟩:∃x,f.funs[i]? =σ x:=⟨_,x6 (by have:=ba.1;omega)⟩;have cl:=x5 bd;have dl:=ba.2 i x d bd ck;have aD:=oD ah cl;obtain⟨dm,dn,eN⟩:=BB ah i;have dp:L.length<=i:=by have cn:=congrArg T9 aj;rw[u5] at cn;omega
  refine bk Ω ?_;refine aR (λl' bf=>∃aw aE,Ext V bf/\eW bf aw l' aE/\Sem bf f.k f.sizes aE/\aE.map dM=eE f (i+1)/\(∀r,leadsTo l' r->V.heap.size<=r)/\ ∀x∈aE,∀r,leads x.sv r->V.heap.size<=r) ?_ ?_
  .rintro l' bf ⟨aw,aE,h1,dq,dr,ds,du⟩;rw[aL];exact dk _ _ ⟨aw,aE,h1,dq,dr,ds,du⟩
  intro eO cp;refine hF (α:=gE) cw.p rfl dB.u cw.i (a7 bE aC) ck λcs bF=>?_;have cq:cs.length=2:=al.len bF;refine bp cw.i λam eP eQ dv dw=>?_;refine bK (vs:=cs) cw.i cq rfl (al.one bF) dw λdx dz eR dA=>?_;have ap:Ext aa dx:=dv.put dz Ω;rw[br cw.p cw.i cq dA.range];refine (Kt ah cg cl dl (a7 bF ap)).mono ?_;rintro _ dC _ ⟨dD,sv,gs,cr,dE,dF,rfl,eS,aF,ct⟩;rw[bL,bM];refine bp af.i λdG eU eV dH dI=>?_;refine bj af.i aF.ls.cells.1 aF.ls.cells.2 dI (by simp[y0.cells]) λcu dJ eX bg=>?_;have bG:Ext dC cu:=dH.put dJ Ω;have bg:ad cu dG af [sv]:=bg;rw[kX];have bJ:=(ap.trans dD).trans bG;have eY:=bJ.size;have eZ:=aC.size;refine (KV (aV.ext bJ) bg (aF.ls.ext bG)).mono ?_;rintro _ e0 _ ⟨bh,U⟩;have bi:=bJ.trans bh;have cz:=bG.trans bh;have bN:=aF.ext cz;have cA:=ct.ext cz;have cB:=bg.ext bh;have cC:=aV.ext bi;have bO:=bc.ext bi;rcases U with⟨rfl,dK⟩|⟨cD,rfl,y,W,bm⟩
  .refine bk Ω ?_;rw[aS Ψ (cB.Qz rfl),c8 (cs:=#[sv,Γ cr]) (by obtain⟨_,_,_,rfl⟩:=b7 aF.ls;kernel_rfl)];let a:cm:=⟨sv,cr,bl x.scope,(hs f.sizes f.k x).2⟩;have bR:∀u∈ev a,u.oneCell'=true:=sC bN;refine gg (f:=ev) (a:=a) fJ.u cU.i Ω rfl rfl λe2 e3 dL e4 aG dN=>?_;have aH:=cC.ext aG;refine gB (f:=ev) (a:=a) fJ.u cU.i rfl aH.1 (by simpa using dN.sl) bR Ω Ω λaX aw e5 aY bS aZ=>?_;have cF:=bN.ext aG;have bn:∀ {r:Nat},leadsTo l r-> ∃c,ad dL r cU c:=λU=>by
    obtain⟨rfl,c,X⟩:=dy aH.1 U;exact⟨c,X⟩
   refine cp _ _ ⟨aw,L++[a],((aC.trans bi).trans aG).then aZ (λr U he=>by have:=au r he;omega),eW.mk aY λz J=>?_,λz J=>?_,?_,λr U=>?_,λz J r U=>?_⟩
   .rcases l5.1 J with J|J
    .have:=(aH.2 z J).ab aZ λr U he=>(aH.2 z J).2.1 r U (aH.1.leads he).1;exact⟨this.1,this.2.2⟩
    .rw[l9.1 J];exact⟨⟨gs,be cF aZ λr U he=>by obtain⟨c,X⟩:=bn he;exact b5 cF X Φ U rfl⟩,aD.scope⟩
   .rcases l5.1 J with J|J
    .exact (bO.ext aG).row aH aZ z J
    .rw[l9.1 J];exact⟨dE,dF,vh (cA.ext aG) aZ λr U=>bn U⟩
   .rw[j9,aj,vl bd,BA]
    .rfl
    .intro c an dO;rw[<-aj] at an;obtain⟨z,J,rfl⟩:=Z6.1 an;exact dK z J dO
   .rcases bS r U with h|h
    .exact au r h
    .have:=aG.size;have:=bh.size;omega
   .rcases l5.1 J with J|J
    .exact aW z J r U
    .rw[l9.1 J] at U;have cn:=(bz aF U).1;have:=ap.size;omega
  .refine b2 Ω ?_;intro e6 ax _ _;have bT:=cC.ext ax;have cG:=(x4.1 W).1;obtain⟨dP,dR,bo⟩:=(bO.ext ax) y (x5 W);have cH:=cB.ext ax;have cI:=bN.ext ax;have dS:=cA.ext ax;rw[cE rfl fJ.u cU.i bT.1 cG,aM cU.p rfl,aS Ψ (bT.1.range W 1 _ rfl),aS Ψ (cH.Qz rfl),aS Ψ (cH.Qz rfl)];have aI:fo f.sizes f.k (dM y):=dm _ (vm aj W);rw[bm] at bo;have cJ:∀ {c:Int},0<=c/\c<=f.k->c5 c f.k:=λh=>⟨hk,h.1,h.2⟩;refine (KE bo dS cI.ls cI.ls hk (λc an=>cJ (aI.iJ c an)) (λc an=>cJ (aD.iJ c an))).mono ?_;intro e7 cK _ dT;have dU:y.cs.length=(aJ (bI f.sizes (bl x.scope))).toNat:=by have:=aI.len;rw[show (dM y).1=y.sc from rfl,bm] at this;exact this
   have dV:bZ (bI f.sizes (bl x.scope)):=ct.2.2.1;obtain⟨bV,cL,cM,cN,e8,rfl,dW⟩:=KJ aD.up (λv dX=>(aD.scope.1 v dX).1) (by simp[bI];rfl) dV aD.small dU aD.len dT;rw[hj,hl,hn];have ay:=bT.ext bV;rw[cE rfl fJ.u cU.i ay.1 cG,aM cU.p rfl];let a:cm:=⟨y.sv,cL,y.sc,dQ f.k y.cs (hs f.sizes f.k x).2⟩;refine oy (f:=ev) (j:=1) (a:=y) (a':=a) eB.i rfl rfl ay.1 W rfl Ω λdY bq e9 dZ=>?_;have bn:∀ {r:Nat},leadsTo l r-> ∃c,ad cK r cU c:=λU=>by
    obtain⟨rfl,c,X⟩:=dy ay.1 U;exact⟨c,X⟩
   refine cp _ _ ⟨g,L.set cD a,((aC.trans bi).trans (ax.trans bV)).then bq (λr U he=>by have:=au r he;omega),eW.mk dZ λz J=>?_,λz J=>?_,?_,au,λz J=>?_⟩
   .have cO:∀z∈L,(∃bW,ao .i64 ac dY bW z.sv z.sc)/\iI z.sc:=λz J=>by
     have:=(ay.2 z J).ab bq λr U he=>(ay.2 z J).2.1 r U (ay.1.leads he).1;exact⟨this.1,this.2.2⟩
    rcases W8 J with J|rfl
    .exact cO z J
    .exact cO y (x5 W)
   .rcases W8 J with J|rfl
    .exact ((bO.ext ax).ext bV).row ay bq z J
    .refine⟨cM,cN,vh ?_ bq λr U=>bn U⟩;show cV cK cL cM cN (bI f.sizes y.sc) f.k _;rw[bm];exact dW
   .rw[T8,aj,vl bd,KR (g:=hs f.sizes f.k x) dn (i:=cD) (h:=dM y) (by rw[<-aj,u4,W];rfl) bm];rfl
   .rcases W8 J with J|rfl
    .exact aW z J
    .exact aW y (x5 W)
 .rintro l aa dj ⟨g,L,aC,aV,bc,aj,au,aW⟩;refine b2 Ω ?_;rw[ba.1,BC] at aj;have dp:L.length<=256:=by
   have:=(kp ah).2.2;rw[<-aj,u5] at this;have:=ah.ki;omega
  refine (Ky aV bc Ω).mono ?_;rintro fa cP _ ⟨cQ,cR,ea⟩;have ec:Ext V cP:=aC.then cQ λr U he=>by have:=au r he;omega
  have ed:Sem cP f.k f.sizes (L.filter fD):=λz J=>(bc.row aV cQ) z (List.mem_filter.1 J).1;have fb:(L.filter fD).length<=L.length:=S5 _ _;refine (Kq cR Ω).mono ?_;rintro _ cS _ ⟨cT,M,bt,ee,cW⟩;have ef:Ext V cS:=ec.then cT λr U he=>by have:=au r (ea r he);omega
  have cX:Sem cS f.k f.sizes M:=λz J=>(ed.row cR cT) z (bt.mem_iff.1 J);have fc:M.length<=256:=by rw[bt.length_eq];omega
  have eg:∀x∈M,∀r,leads x.sv r->V.heap.size<=r:=λx Y=>aW x (List.mem_filter.1 (bt.mem_iff.1 Y)).1;have cY:M.map dM=fl f:=by
   refine Js ah ?_ ?_
   .refine (bt.map dM).trans ?_;rw[<-aj,List.filter_map];exact .refl _
   .rw[List.pairwise_map];refine U3.2 λp q ei cZ ej=>?_;exact ee p q _ _ (X7 _) ej cZ (x6 ei) (x6 cZ)
  intro fd bw _ _;have aO:=ef.trans bw;have fe:=ci.ext aO;have bX:=cj.ext aO;rw[aK cv.p 0 bX rfl,aK cv.p 1 bX rfl,aK cv.p 2 bX rfl];refine (h7 (di.ls.ext aO) (by have:=ah.sizes.2.1;omega)).mono ?_;rintro a1 c1 _ ⟨aA,ek,ff,bY⟩;refine⟨.inl aA,?_⟩;rw[c8 (cs:=#[bU f.name,Δ f.k,a1,.slice ν 0 0]) (by obtain⟨_,_,_,rfl⟩:=b7 bY.ls;kernel_rfl)];refine bP λaB em fg bx b1=>?_;have b1:ad em aB cv [bU f.name,Δ f.k,a1,.slice ν 0 0]:=b1;have fi:=(aO.trans aA).trans bx;have en:=((cW.ext bw).ext aA).ext bx;have fj:=((cX.ext bw).ext aA).ext bx;rw[dt fJ.u en.1];refine b0.range M.length (λi aP=>∃a8 gr aq,Ext c1 aP/\ad aP aB cv [bU f.name,Δ f.k,a1,a8]/\p6 aP gr a8 f.k f.sizes aq/\aq.map dM=(M.take i).map dM/\aq.length=i/\(∀r,leadsTo a8 r->c1.heap.size<=r)/\ ∀x∈aq,∀r,leads x.sv r->V.heap.size<=r) Ω
   ⟨_,0,[],bx,b1,⟨bb.nil _ _ _ _ _,λx Y=>(by cases Y)⟩,rfl,rfl,λr U=>(eT U).elim,λx Y=>(by cases Y)⟩ ?_ ?_
  rotate_left
  .rintro aP eo ⟨a2,gr,aq,aQ,aT,b3,bB,_,_,b6⟩;rw[o9,cY] at bB;refine b2 Ω ?_;have fk:=a6.size;have fm:=aO.size;have fp:=aA.size;exact⟨(a6.trans (aO.trans aA)).trans aQ,.inr ⟨aB,rfl,a1,a2,ek,gr,aq,aT,bY.ext aQ,b3,bB,Ω,λr U=>by have:=(bz bY U).1;omega,λx Y r U=>by have:=b6 x Y r U;omega⟩⟩
  rintro i aP eo hi ⟨a2,gr,aq,aQ,aT,b3,bB,ep,c2,b6⟩ er;obtain⟨y,W⟩:=aN (l:=M) hi;have c3:=(bw.trans aA).trans aQ;have c4:=cW.ext c3;have c6:=c4.at W;obtain⟨dP,dR,bo⟩:=(cX.ext c3) y (x5 W);have aI:fo f.sizes f.k (dM y):=sh ah _ (vm cY W);refine bk Ω ?_;rw[sx rfl c4 W];refine bp cU.i λfq fs ft es et=>?_;refine bK (vs:=ev y) cU.i rfl rfl c6.one et λeu ew fu ey=>?_;have ez:Ext aP eu:=es.put ew Ω;intro fv c7 _ _;have b8:=ez.trans c7;have c9:=ey.ext c7;have eA:=aT.ext b8;rw[aK cv.p 3 eA rfl,av cU.p 0 c9 rfl,av cU.p 1 c9 rfl];refine (KQ (bo.ext b8) λc an=>⟨hk,(aI.iJ c an).1,(aI.iJ c an).2⟩).mono ?_;rintro _ fw _ ⟨b9,ag,m,o,D,rfl,eC,eD,eF,_⟩;refine⟨.inl b9,?_⟩;have da:=b8.trans b9;obtain⟨⟨bW,db⟩,_,fx⟩:=c6;have dc:=db.ext da;rw[c8 (cs:=#[y.sv,Γ ag]) (by obtain⟨_,_,_,e⟩:=b7 db.ls;rw[e];kernel_rfl)];let a:cm:=⟨y.sv,ag,y.sc,y.cs⟩;have bR:∀u∈ev a,u.oneCell'=true:=sC dc;refine gg (f:=ev) (a:=a) dB.u cw.i Ω rfl rfl λv25 fy ca fz ap eH=>?_;refine⟨.inl (b9.trans ap),?_⟩;have aU:=da.trans ap;have bC:=b3.ext aU;refine gB (f:=ev) (a:=a) dB.u cw.i rfl bC.1 (by simpa using eH.sl) bR Ω Ω λaX aw eI aY bS dd=>?_;have fA:=aQ.size;have fB:=aU.size;have cb:ad eI aB cv [bU f.name,Δ f.k,a1,a2]:=(aT.ext aU).ab dd λhe=>by
   obtain⟨rfl,c,X⟩:=dy bC.1 he;have h1:=aT.ext aU;unfold ad at X h1;rw[h1] at X;exact absurd (Obj.cells.inj (Z9 X)).2.1 Φ
  rw[bu,aM cv.p rfl];have de:aX.cells= #[aX]/\aX.oneCell'=true:=by
   obtain⟨_,_,_,_,_,rfl,_⟩:=aY.sl;exact⟨rfl,rfl⟩
  refine bj dB.i de.1 de.2 cb Ξ λeJ df fC eK=>?_;rw[aL];have cc:ae (λr=>r=aB\/leadsTo a2 r) ca eJ:=(dd.mono λr _ h=>.inr h).trans (df.mono λr _ h=>.inl h);have dg:∀r,(r=aB\/leadsTo a2 r)-> ∃e c,ad ca r e c/\e≠fh/\e≠ac:=λr U=>by
   rcases U with rfl|U
   .exact⟨_,_,aT.ext aU,Φ,Φ⟩
   .obtain⟨rfl,c,X⟩:=dy bC.1 U;exact⟨_,c,X,Φ,Φ⟩
  refine er _ ⟨aX,aw,aq++[a],?_,eK,⟨aY.ab df λr U he=>?_,λz J=>?_⟩,?_,by rw[r8,ep];rfl,λr U=>?_,λz J=>?_⟩
  .exact (aQ.trans aU).then cc λr U he=>by
    rcases he with rfl|he
    .omega
    .have:=c2 r he;omega
  .have he:r=aB:=he;subst he;obtain⟨rfl,c,X⟩:=dy aY U;unfold ad at X cb;rw[cb] at X;exact absurd (Obj.cells.inj (Z9 X)).2.1 Φ
  .rcases l5.1 J with J|J
   .exact (bC.2 z J).ab cc dg
   .rw[l9.1 J];refine l1.ab (w:=ca) ⟨⟨bW,dc.ext ap⟩,m,o,D,eC.ext ap,?_,eF⟩ cc dg;have:=aI.small;exact X8 eD (by show (aJ (bI f.sizes (dM y).1)).toNat<=4096;omega)
  .rw[j9,bB,r9,W,j9];rfl
  .rcases bS r U with h|h
   .exact c2 r h
   .omega
  .rcases l5.1 J with J|J
   .exact b6 z J
   .rw[l9.1 J];exact eg y (x5 W)
theorem ea {r:Nat} {J:o4} {c U:List y0} (h:ad w r e c) (h':ad w r J U):e=J:=by
 unfold ad at h h';rw[h] at h';exact (Obj.cells.inj (Z9 h')).2.1
theorem cn {α:Type} {f:α->List y0} {k:Nat} {J:o4} {g U:Nat} {L:List α} {cs:List y0} (h:bb f k e w g v L) (V:ad w U J cs) (W:e≠J):¬leadsTo v U:=λX=>by
 obtain⟨rfl,c,Y⟩:=dy h X;exact W (ea Y V)
structure kt where
 v:y0
 l:Λ
def ng (h:kt):List y0:=[h.v]
def gX (w:x2) (g:Nat) (v:y0) (aV:List kt):Prop:=bb ng 1 au w g v aV/\ ∀h∈aV,∃J,ao .i64 an w J h.v h.l
theorem gX.ext {g:Nat} {aV:List kt} (h:gX w g v aV) (J:Ext w w'):gX w' g v aV:=⟨h.1.ext J,λx U=>by
 obtain⟨V,hm⟩:=h.2 x U;exact⟨V,hm.ext J⟩⟩
theorem gX.p7 {g:Nat} {aV:List kt} (h:gX w g v aV) (V:ae S w w') (W:∀r,S r-> ∃e c,ad w r e c/\e≠an):∀h∈aV,∃U,ao .i64 an w' U h.v h.l:=λx X=>by
 obtain⟨U,hm⟩:=h.2 x X;exact⟨U,be hm V λr Y J=>by
  obtain⟨e,c,aa,ab⟩:=W r J;exact b5 hm aa (λhe=>ab he.symm) Y rfl⟩
theorem gX.ab {g:Nat} {aV:List kt} (h:gX w g v aV) (X:ae S w w') (Y:∀r,S r-> ∃e c,ad w r e c/\e≠an/\e≠au):gX w' g v aV:=
 ⟨h.1.ab X λr U J=>by
  obtain⟨e,c,V,_,W⟩:=Y r J;exact cn h.1 V (λhe=>W he.symm) U,h.p7 X λr U=>by
  obtain⟨e,c,V,W,_⟩:=Y r U;exact⟨e,c,V,W⟩⟩
def nh (w:x2) (k:Int) (sizes:Λ) (x:cm):Prop:=(∃J,ao .i64 ac w J x.sv x.sc)/\ ∃U V,cV w x.g U V (bI sizes x.sc) k x.cs
theorem nh.ext {x:cm} (h:nh w k sizes x) (J:Ext w w'):nh w' k sizes x:=by
 obtain⟨⟨U,h1⟩,V,W,X⟩:=h;exact⟨⟨U,h1.ext J⟩,V,W,X.ext J⟩
theorem BD {g aa:Nat} {af:y0} (h:cV w g aa af szs k cs) (W:ae S w w') (X:∀r,S r-> ∃e c,ad w r e c/\e≠cT/\e≠ac/\e≠an):cV w' g aa af szs k cs:=by
 obtain⟨⟨aI,gs,h1,ag,ah⟩,ai⟩:=h;refine⟨⟨aI,gs,h1.ab W λJ=>?_,be ag W λr Y J=>?_,be ah W λr Y J=>?_⟩,ai⟩
 .obtain⟨e,c,U,V,_⟩:=X g J;exact V (ea U h1)
 .obtain⟨e,c,U,_,V,_⟩:=X r J;exact b5 ag U (λhe=>V he.symm) Y rfl
 .obtain⟨e,c,U,_,_,V⟩:=X r J;exact b5 ah U (λhe=>V he.symm) Y rfl
theorem nh.ab {x:cm} (h:nh w k sizes x) (U:ae S w w') (V:∀r,S r-> ∃e c,ad w r e c/\e≠cT/\e≠ac/\e≠an):nh w' k sizes x:=by
 obtain⟨⟨W,h1⟩,X,Y,aa⟩:=h;refine⟨⟨W,be h1 U λr af J=>?_⟩,X,Y,BD aa U V⟩;obtain⟨e,c,ag,_,ah,_⟩:=V r J;exact b5 h1 ag (λhe=>ah he.symm) af rfl
def ni (w:x2) (g:Nat) (v:y0) (k:Int) (sizes:Λ) (L:List cm):Prop:=bb ev 2 gN w g v L/\ ∀x∈L,nh w k sizes x
theorem ni.ext {g:Nat} {L:List cm} (h:ni w g v k sizes L) (J:Ext w w'):ni w' g v k sizes L:=⟨h.1.ext J,λx U=>(h.2 x U).ext J⟩
theorem ni.ab {g:Nat} {L:List cm} (h:ni w g v k sizes L) (X:ae S w w') (Y:∀r,S r-> ∃e c,ad w r e c/\e≠gN/\e≠cT/\e≠ac/\e≠an):ni w' g v k sizes L:=
 ⟨h.1.ab X λr U J=>by
  obtain⟨e,c,V,W,_⟩:=Y r J;exact cn h.1 V (λhe=>W he.symm) U,λx aa=>(h.2 x aa).ab X λr U=>by
  obtain⟨e,c,V,_,W⟩:=Y r U;exact⟨e,c,V,W⟩⟩
def fE (w:x2) (W:Nat) (n:aY):Prop:=∃J U V X gr aV L nm szv gz fv2,ad w W fg [Γ J,Δ n.zero,U,V]/\ad w J cv [nm,Δ n.k,szv,fv2]/\ao .i64 ac w gz szv n.sizes/\
 gX w X U aV/\aV.map (·.l)=n.unary/\ni w gr V n.k n.sizes L/\L.map dM=n.funs
theorem fE.ext {U:Nat} {n:aY} (h:fE w U n) (J:Ext w w'):fE w' U n:=by
 obtain⟨V,W,X,Y,gr,aV,L,nm,szv,gz,fv2,h1,aa,ab,ac,ad,ae,af⟩:=h;exact⟨V,W,X,Y,gr,aV,L,nm,szv,gz,fv2,h1.ext J,aa.ext J,ab.ext J,ac.ext J,ad,ae.ext J,af⟩
def p8 (w:x2) (B:Nat) (k:Int) (sizes:Λ) (x:cm):Prop:=(∃V,ao .i64 ac w V x.sv x.sc)/\(∃J U,cV w x.g J U (bI sizes x.sc) k x.cs/\B<=J/\ ∀r,leads U r->B<=r)/\B<=x.g/\ ∀r,leads x.sv r->B<=r
theorem p8.ab {x:cm} (h:p8 w B k sizes x) (U:ae S w w') (V:∀r,S r-> ∃e c,ad w r e c/\e≠cT/\e≠ac/\e≠an):p8 w' B k sizes x:=by
 obtain⟨⟨W,h1⟩,⟨X,Y,aa,af⟩,ag⟩:=h;refine⟨⟨W,be h1 U λr ah J=>?_⟩,⟨X,Y,BD aa U V,af⟩,ag⟩;obtain⟨e,c,ai,_,aj,_⟩:=V r J;exact b5 h1 ai (λhe=>aj he.symm) ah rfl
def lf (w:x2) (B g:Nat) (v:y0) (k:Int) (sizes:Λ) (L:List cm):Prop:=bb ev 2 gN w g v L/\ ∀x∈L,p8 w B k sizes x
theorem lf.ext {g:Nat} {L:List cm} (h:lf w B g v k sizes L) (J:Ext w w'):lf w' B g v k sizes L:=⟨h.1.ext J,λx U=>(h.2 x U).ab (J.ab λ_=>False) λ_ h=>h.elim⟩
theorem lf.ab {g:Nat} {L:List cm} (h:lf w B g v k sizes L) (X:ae S w w') (Y:∀r,S r-> ∃e c,ad w r e c/\e≠gN/\e≠cT/\e≠ac/\e≠an):lf w' B g v k sizes L:=
 ⟨h.1.ab X λr U J=>by
  obtain⟨e,c,V,W,_⟩:=Y r J;exact cn h.1 V (λhe=>W he.symm) U,λx aa=>(h.2 x aa).ab X λr U=>by
  obtain⟨e,c,V,_,W⟩:=Y r U;exact⟨e,c,V,W⟩⟩
theorem BE:∃o:Obj,fw o=false:=⟨.deferred ν,rfl⟩
theorem ghost (w:x2) (B:Nat):∃w0,Ext w0 w/\ae (λr=>r<B) w w0/\ ∀r o,w0.heap[r]? =σ o->fw o=true->B<=r:=by
 obtain⟨dc,W⟩:=BE;have V:∀r,(w.heap.mapIdx λr o=>if r<B then dc else o)[r]? =(w.heap[r]?).map λo=>if r<B then dc else o:=λr=>Ξ
 refine⟨{w with heap:=w.heap.mapIdx λr o=>if r<B then dc else o},⟨Ξ,λr o U J=>?_⟩,⟨Ξ,λr o U J X=>?_⟩,λr o U J=>?_⟩
 .have U:(w.heap.mapIdx λr o=>if r<B then dc else o)[r]? =σ o:=U;rw[V] at U;cases h:w.heap[r]? with
  |none=>rw[h] at U;cases U
  |some o'=>
   rw[h] at U;simp only[Y4,Y8] at U;split at U
   .subst U;rw[W] at J;cases J
   .rw[U]
 .show (w.heap.mapIdx λr o=>if r<B then dc else o)[r]? =σ o;rw[V,U,Y4,if_neg X]
 .have U:(w.heap.mapIdx λr o=>if r<B then dc else o)[r]? =σ o:=U;rw[V] at U;cases h:w.heap[r]? with
  |none=>rw[h] at U;cases U
  |some o'=>
   rw[h] at U;simp only[Y4,Y8] at U;split at U
   .subst U;rw[W] at J;cases J
   .omega
def BF (B:Nat) (w:x2) (J:Nat) (n:aY):Prop:=∃w0,fE w0 J n/\Ext w0 w/\ ∀r o,w0.heap[r]? =σ o->fw o=true->B<=r
theorem KY {aa V gr:Nat} {n:aY} {W X nm fv2:y0} {aV:List kt} {L:List cm} (h1:ad w aa fg [Γ V,Δ n.zero,W,X]) (ah:ad w V cv [nm,Δ n.k,szv,fv2]) (al:ao .i64 ac w gz szv n.sizes)
  (ai:gX w ag W aV) (am:aV.map (·.l)=n.unary) (aj:lf w B gr X n.k n.sizes L) (an:L.map dM=n.funs) (ap:B<=aa) (aq:B<=V) (au:∀r,leads szv r->B<=r) (ak:∀r,leadsTo W r\/leadsTo X r->B<=r) (av:∀h∈aV,∀r,leads h.v r->B<=r):BF B w aa n:=by
 obtain⟨w0,ae,J,ax⟩:=ghost w B;have no:∀ {r:Nat},B<=r->¬r<B:=λh ah=>Ω
 have Y:∀ {e:o4} {g:Nat} {v:y0} {l:Λ},ao .i64 e w g v l->(∀r,leads v r->B<=r)->ao .i64 e w0 g v l:=λh ay=>be h J λr U=>no (ay r U);refine⟨w0,⟨V,W,X,ag,gr,aV,L,nm,szv,gz,fv2,h1.ab J (no ap),ah.ab J (no aq),Y al au,⟨ai.1.ab J λr U=>no (ak r (.inl U)),λh aw=>?_⟩,am,⟨aj.1.ab J λr U=>no (ak r (.inr U)),λx ae=>?_⟩,an⟩,ae,ax⟩
 .obtain⟨af,hm⟩:=ai.2 h aw;exact⟨af,Y hm (av h aw)⟩
 .obtain⟨⟨af,az⟩,⟨aA,aB,⟨⟨aI,gs,aC,aD,t3⟩,t4⟩,aH,aE⟩,aF,aG⟩:=aj.2 x ae;exact⟨⟨af,Y az aG⟩,aA,aB,⟨aI,gs,aC.ab J (no aF),Y aD aE,be t3 J λr U=>no (by have:=(bz t3 U).1;omega)⟩,t4⟩
def ij (n:aY) (g:cu):aY:=match g.1 with
 |[]=>{n with zero:=g.2.getD 0 0}
 |[v]=>{n with unary:=n.unary.set v.toNat g.2}
 |_=>{n with funs:=n.funs++[g]}
def BG (f:b4):aY:=⟨f.k,f.sizes,0,f.sizes.map λz=>o8 z.toNat 0,[]⟩
theorem KZ (f:b4):cM f=(fl f).foldl ij (BG f):=rfl
def dz (f:b4) (i:Nat):aY:=((fl f).take i).foldl ij (BG f)
theorem vn {f:b4} {i:Nat} {g:cu} (h:(fl f)[i]? =σ g):dz f (i+1)=ij (dz f i) g:=KT h
theorem sD (f:b4):dz f (fl f).length=cM f:=by unfold dz;rw[o9,KZ]
theorem K0 (n:aY) (g:cu):(ij n g).k=n.k/\(ij n g).sizes=n.sizes/\(ij n g).unary.length=n.unary.length/\(ij n g).funs.length<=n.funs.length+1:=by
 unfold ij;split
 .exact⟨rfl,rfl,rfl,R6 _⟩
 .exact⟨rfl,rfl,Ξ,R6 _⟩
 .exact⟨rfl,rfl,rfl,Ξ⟩
theorem oH (f:b4):∀i,(dz f i).k=f.k/\(dz f i).sizes=f.sizes/\(dz f i).unary.length=f.sizes.length/\(dz f i).funs.length<=i
 |0=>⟨rfl,rfl,by show (f.sizes.map _).length=_;simp,X7 _⟩
 |i+1=>by
  have J:=oH f i;cases U:(fl f)[i]? with
  |none=>
   have V:=List.getElem?_eq_none_iff.1 U;have e:dz f (i+1)=dz f i:=by unfold dz;rw[n0 Ω,n0 V]
   rw[e];exact⟨J.1,J.2.1,J.2.2.1,Ω⟩
  |some g=>
   rw[vn U];obtain⟨h1,W,X,Y⟩:=K0 (dz f i) g;exact⟨h1.trans J.1,W.trans J.2.1,X.trans J.2.2.1,Ω⟩
def K1 (w:x2) (f:b4) (v:y0) (w':x2):Prop:=Ext w w'/\((¬hR f.funs<=16384/\ ∃e:Int,e≠0/\v= .tuple #[.pointer ν,Δ e])\/ ∃J,v= .tuple #[Γ J,Δ 0]/\BF w.heap.size w' J (cM f))
theorem de {k:Nat} {cs:List y0} (h:b6 w k v n cs):v.cells= #[v]/\v.oneCell'=true:=by
 obtain⟨_,_,_,_,_,rfl,_⟩:=h;exact⟨rfl,rfl⟩
theorem K2 {cp:Nat} {f:b4} (cQ:kr w cp f) (aB:e1 N f) (cR:N<=60000) (cS:f.name≠[]/\ ∀b∈f.name,bQ b=true):
  ai x3 D9 [Γ cp] w (K1 w f):=by
 have hk:=aB.k;refine az func25 ?_;refine (KX cQ aB cR cS).mono ?_;rintro _ V _ ⟨aY,⟨cU,e,he,rfl⟩|⟨aZ,rfl,cV⟩⟩
 .rw[bL,bM,bH,ak];exact⟨λ_=>⟨aY,.inl ⟨cU,e,he,rfl⟩⟩,λh=>absurd he h⟩
 rw[bL,bM,bH,ak];refine⟨λh=>absurd rfl h,λ_=>?_⟩;obtain⟨szv,cW,gz,dU,M,bF,bG,cq,bi,cX,cY,cZ⟩:=id cV;have dV:M.length<=256:=by
  have h1:=(pX aB).2.length_eq;have aT:=(kp aB).2.2;have aW:=S5 fk (e9 f);have bl:=aB.ki;have dX:M.length=(fl f).length:=by rw[<-bi,u5]
  omega
 have dZ:=aB.sizes.2.1;rw[c8 (cs:=#[Γ aZ,Δ 0,.slice ν 0 0,.slice ν 0 0]) Ψ];refine bP λaj aa ea bJ bN=>?_;have bN:ad aa aj fg [Γ aZ,Δ 0,.slice ν 0 0,.slice ν 0 0]:=bN;rw[aK cv.p 2 (bF.ext bJ) rfl,aU af.u (bG.ls.ext bJ)];refine b0.range f.sizes.length (λi a1=>∃W al aV,Ext V a1/\ad a1 aj fg [Γ aZ,Δ 0,W,.slice ν 0 0]/\gX a1 al W aV/\aV.map (·.l)=(f.sizes.take i).map (λz=>o8 z.toNat 0)/\(∀r,leadsTo W r->V.heap.size<=r)/\ ∀h∈aV,∀r,leads h.v r->V.heap.size<=r) Ω
  ⟨_,0,[],bJ,bN,⟨bb.nil _ _ _ _ _,λx a2=>(by cases a2)⟩,rfl,λr U=>(eT U).elim,λx a2=>(by cases a2)⟩ ?_ ?_
 .rintro i a1 c1 hi ⟨W,al,aV,aH,bm,bO,a6,bo,aq⟩ c2;obtain⟨z,Y⟩:=aN (l:=f.sizes) hi;have ec:=aB.sizes.2.2 z (x5 Y);have ed:aV.length=i:=by have:=congrArg T9 a6;simp only[u5,o5] at this;omega
  refine bk Ω ?_;rw[bf af.u ac.i Ψ (bG.ls.ext aH) Y];intro ee bR _ _;have c3:=bm.ext bR;rw[aK fg.p 2 c3 rfl];obtain⟨aI,rfl⟩:∃n:Nat,z=n:=⟨z.toNat,Ω⟩;refine jx (k:=.i64) au.u an.i Ω Ω λbq c4 ef bS c5=>?_;refine⟨.inl bS,?_⟩;have cr:ao .i64 an c4 bq (.slice (σ ⟨bq,0,ν⟩) aI aI) (o8 aI 0):=ao.of (b1.full (k:=1) (n:=aI) c5 Ξ (by simp[maxLen];omega));let a:kt:=⟨.slice (σ ⟨bq,0,ν⟩) aI aI,o8 aI 0⟩;refine gg (f:=ng) (a:=a) dH.u au.i Ω rfl rfl λeg eh bT ei bV c6=>?_;refine⟨.inl (bS.trans bV),?_⟩;have bt:=(bR.trans bS).trans bV;have bw:=bO.ext bt;refine gB (f:=ng) (a:=a) dH.u au.i rfl bw.1 (by simpa using c6.sl) (λu hu=>by rw[l9.1 (show u∈[a.v] from hu)];rfl) Ω Ω λbW bX ej ax bY ct=>?_;have a7:∀ {r:Nat},leadsTo W r-> ∃c,ad bT r au c:=λU=>by
   obtain⟨rfl,c,X⟩:=dy bw.1 U;exact⟨c,X⟩
  have bZ:=bm.ext bt;have cu:=bZ.ab ct λhe=>cn bw.1 bZ Φ he;rw[bu,aM fg.p rfl];refine bj dH.i (de ax.sl).1 (de ax.sl).2 cu Ξ λc7 cz ek c9=>?_;rw[aL];have b3:ae (λr=>leadsTo W r\/r=aj) bT c7:=(ct.mono λr _ h=>.inl h).trans (cz.mono λr _ h=>.inr h);have aC:∀r,(leadsTo W r\/r=aj)-> ∃e c,ad bT r e c/\e≠an:=λr U=>by
   rcases U with U|rfl
   .obtain⟨c,X⟩:=a7 U;exact⟨_,c,X,Φ⟩
   .exact⟨_,_,bZ,Φ⟩
  have cA:=aY.size;have z3:=aH.size;have em:=bt.size;refine c2 _ ⟨bW,bX,aV++[a],(aH.trans bt).then b3 (λr U he=>?_),c9,⟨ax.ab cz λr U he=>?_,λy ag=>?_⟩,?_,λr U=>?_,λy ag r U=>?_⟩
  .rcases he with he|rfl
   .have:=bo r he;omega
   .omega
  .have he:r=aj:=he;subst he;exact cn ax cu Φ U
  .rcases l5.1 ag with ag|ag
   .exact bw.p7 b3 aC y ag
   .rw[l9.1 ag];have cB:=cr.ext bV;exact⟨bq,be cB b3 λr U J=>by
     obtain⟨e,c,X,da⟩:=aC r J;exact b5 cB X (λhe=>da he.symm) U rfl⟩
  .rw[j9,a6,r9,Y,j6,j9];rfl
  .rcases bY r U with h|h
   .exact bo r h
   .omega
  .rcases l5.1 ag with ag|ag
   .exact aq y ag r U
   .rw[l9.1 ag] at U;have db:=(bz cr U).1;have:=bR.size;omega
 .rintro a1 c1 ⟨W,al,aV,aH,bm,bO,a6,bo,aq⟩;refine b2 Ω ?_;rw[o9] at a6;have dc:=bF.ext aH;have dd:=cq.ext aH;rw[aK cv.p 3 dc rfl,dt dB.u dd.1];refine b0.range M.length (λi aO=>∃W ah al gr aV L,Ext V aO/\ad aO aj fg [Γ aZ,Δ (dz f i).zero,W,ah]/\gX aO al W aV/\aV.map (·.l)=(dz f i).unary/\lf aO w.heap.size gr ah f.k f.sizes L/\L.map dM=(dz f i).funs/\(∀r,leadsTo W r\/leadsTo ah r->V.heap.size<=r)/\ ∀h∈aV,∀r,leads h.v r->V.heap.size<=r) Ω
   ⟨W,_,al,0,aV,[],aH,bm,bO,a6,⟨bb.nil _ _ _ _ _,λx a2=>(by cases a2)⟩,rfl,λr U=>U.elim (bo r) λh=>(eT h).elim,aq⟩ ?_ ?_
  rotate_left
  .rintro aO df ⟨W,ah,al,gr,aV,L,ay,bx,b6,aP,b8,aQ,aD,aq⟩;refine b2 Ω ?_;have dg:M.length=(fl f).length:=by rw[<-bi,u5]
   have a8:=oH f M.length;rw[dg,sD] at bx aP aQ a8;have cA:=aY.size;refine⟨aY.trans ay,.inr ⟨aj,rfl,KY (gr:=gr) (nm:=bU f.name) (szv:=szv) (gz:=gz) (fv2:=cW) bx ?_ ?_ b6 aP ?_ aQ Ω cX cY (λr U=>by have:=aD r U;omega) λh aw r U=>by have:=aq h aw r U;omega⟩⟩
   .rw[a8.1];exact bF.ext ay
   .rw[a8.2.1];exact bG.ext ay
   .rw[a8.1,a8.2.1];exact b8
  rintro i aO df hi ⟨W,ah,al,gr,aV,L,ay,bx,b6,aP,b8,aQ,aD,aq⟩ dh;obtain⟨y,ag⟩:=aN (l:=M) hi;have di:(fl f)[i]? =σ (dM y):=by rw[<-bi,u4,ag];rfl
  have bA:fo f.sizes f.k (dM y):=sh aB _ (vm bi ag);have b9:=cq.ext ay;obtain⟨en,eo,ep,er⟩:=oH f i;refine bk Ω ?_;refine dv (λba=>∃W ah al gr aV L,Ext V ba/\ad ba aj fg [Γ aZ,Δ (dz f (i+1)).zero,W,ah]/\gX ba al W aV/\aV.map (·.l)=(dz f (i+1)).unary/\lf ba w.heap.size gr ah f.k f.sizes L/\L.map dM=(dz f (i+1)).funs/\(∀r,leadsTo W r\/leadsTo ah r->V.heap.size<=r)/\ ∀h∈aV,∀r,leads h.v r->V.heap.size<=r) ?_ ?_
  .rintro ba h;rw[aL];exact dh _ h
  intro es ca;have dj:=b9.2 y (x5 ag);obtain⟨⟨dk,cb⟩,m,o,D,dl,et,dm⟩:=dj;rw[cE rfl dB.u cw.i b9.1 hi,br cw.p cw.i rfl (b9.1.range ag)];refine bp cw.i λam eu ew dn dp=>?_;refine bK (vs:=ev y) cw.i rfl rfl (sC cb) dp λdq dr ey cC=>?_;have cc:Ext aO dq:=dn.put dr Ω;rw[av cw.p 1 cC rfl];refine (A8 (dl.ext cc) Ω).mono ?_;rintro _ ez _ ⟨cD,_,aX⟩;obtain⟨g,ds,du,dw,rfl,eA,dx,aX,dA⟩:=aX bA.small;have dC:dW (bI f.sizes y.sc):=aX.2.2.1.2;have dD:dw=y.cs:=hQ.eq dC dA dm;subst dD;have aE:=cc.trans cD;have cd:=cC.ext cD;have ce:=cb.ext aE;rw[bL,bM,av cw.p 0 cd rfl,aU af.u ce.ls];have cA:=aY.size;have z9:=ay.size;have eB:=aE.size;have cg:=bx.ext aE;have ch:=b6.ext aE;have ci:=b8.ext aE;have cj:=vn di;rw[bn,ak];refine⟨λeC=>?_,λeD=>?_⟩
  .
   have aR:y.sc=[]:=Z8 Ω;have ap:dz f (i+1)={dz f i with zero:=y.cs.getD 0 0}:=by rw[cj];unfold ij;simp only[dM,aR]
   refine (lY aX).mono ?_;rintro cF dE _ ⟨bB,eE,eF,dF⟩;have eH:y.cs.length=1:=by have:=bA.len;simpa[dM,aR,bI,aJ] using this
   have dG:y.cs[0]? =σ (y.cs.getD 0 0):=by rw[u9,x6 Ω];rfl
   rw[dY (y:=0) (i:=0) rfl au.u an.i Ψ dF.ls dG,bu,aM fg.p rfl];have cG:=cg.ext bB;refine bj an.i rfl rfl cG Ξ λeI ck eJ dI=>?_;have aC:∀r,r=aj-> ∃e c,ad dE r e c/\e≠gN/\e≠cT/\e≠ac/\e≠an/\e≠au:=λr U=>by
    subst U;exact⟨_,_,cG,Φ,Φ,Φ,Φ,Φ⟩
   refine ca _ ⟨W,ah,al,gr,aV,L,((ay.trans aE).trans bB).put ck Ω,?_,(ch.ext bB).ab ck (λr U=>?_),by rw[ap];exact aP,(ci.ext bB).ab ck (λr U=>?_),by rw[ap];exact aQ,aD,aq⟩
   .rw[ap];exact dI
   .obtain⟨e,c,X,_,_,_,h1,aT⟩:=aC r U;exact⟨e,c,X,h1,aT⟩
   .obtain⟨e,c,X,h1,aT,aW,bl,_⟩:=aC r U;exact⟨e,c,X,h1,aT,aW,bl⟩
  rw[bn,ak];refine⟨λh1=>?_,λeK=>?_⟩
  .
   obtain⟨v,aR⟩:∃v,y.sc=[v]:=W7.1 Ω;have eL:=bA.scope.1 v (by show v∈y.sc;rw[aR];exact .head _);have eM:=bA.vars v (by show v∈y.sc;rw[aR];exact .head _);have ap:dz f (i+1)={dz f i with unary:=(dz f i).unary.set v.toNat y.cs}:=by rw[cj];unfold ij;simp only[dM,aR]
   intro eN aF _ _;have cH:=cg.ext aF;have dJ:=cd.ext aF;rw[aK fg.p 2 cH rfl,av cw.p 0 dJ rfl];refine rE (y:=0) (i:=0) rfl af.u ac.i (ce.ls.ext aF) (show y.sc[0]? =σ v by rw[aR];rfl) λb o dK=>?_;rw[aS Ψ dK];refine (lY (aX.ext aF)).mono ?_;rintro cF dL _ ⟨bc,dN,eO,bd⟩;refine⟨.inl bc,?_⟩;have bg:=(ch.ext aF).ext bc;have eP:aV.length=f.sizes.length:=by have:=congrArg T9 aP;rw[u5] at this;omega
   obtain⟨u,hu⟩:=aN (l:=aV) (i:=v.toNat) Ω;rw[cE (i:=v.toNat) Ω dH.u au.i bg.1 Ω];let a:kt:=⟨cF,y.cs⟩;refine oy (f:=ng) (j:=0) (a:=u) (a':=a) au.i bd.ls.cells.1 bd.ls.cells.2 bg.1 hu rfl Ω λeQ bh eR dO=>?_;have cI:=cH.ext bc;have a7:∀ {r:Nat},leadsTo W r-> ∃c,ad dL r au c:=λU=>by
    obtain⟨rfl,c,X⟩:=dy bg.1 U;exact⟨c,X⟩
   refine ca _ ⟨W,ah,al,gr,aV.set v.toNat a,L,(((ay.trans aE).trans aF).trans bc).then bh (λr U he=>by have:=aD r (.inl he);omega),?_,⟨dO,λz Y=>?_⟩,?_,((ci.ext aF).ext bc).ab bh (λr U=>?_),by rw[ap];exact aQ,aD,λz Y r U=>?_⟩
   .rw[ap];exact cI.ab bh λhe=>cn bg.1 cI Φ he
   .rcases W8 Y with Y|rfl
    .exact bg.p7 bh (λr U=>by obtain⟨c,X⟩:=a7 U;exact⟨_,c,X,Φ⟩) z Y
    .exact⟨dN,be bd bh λr U J=>by
      obtain⟨c,X⟩:=a7 J;exact b5 bd X Φ U rfl⟩
   .rw[ap,T8,aP]
   .obtain⟨c,X⟩:=a7 U;exact⟨_,c,X,Φ,Φ,Φ,Φ⟩
   .rcases W8 Y with Y|rfl
    .exact aq z Y r U
    .have db:=(bz bd U).1;have:=aF.size;omega
  .
   have ap:dz f (i+1)={dz f i with funs:=(dz f i).funs++[dM y]}:=by
    rw[cj];unfold ij;have cJ:2<=(dM y).1.length:=by show 2<=y.sc.length;omega
    generalize dM y=g at cJ ⊢;obtain⟨sc,cs⟩:=g
    match sc,cJ with
    |_::_::_,_=>rfl
   intro eS aG _ _;have cK:=cg.ext aG;have dP:=cd.ext aG;have cL:=ce.ext aG;rw[aK fg.p 3 cK rfl,av cw.p 0 dP rfl,c8 (cs:=#[y.sv,Γ g]) (by obtain⟨_,_,_,e⟩:=b7 cb.ls;rw[e];kernel_rfl)];let a:cm:=⟨y.sv,g,y.sc,y.cs⟩;refine gg (f:=ev) (a:=a) ka.u gN.i Ω rfl rfl λeU eV bC eW aA dQ=>?_;refine⟨.inl aA,?_⟩;have bD:=(ci.ext aG).ext aA;have dR:=(ch.ext aG).ext aA;have cl:=cK.ext aA;have eX:L.length<=256:=by have:=congrArg T9 aQ;rw[u5] at this;omega
   refine gB (f:=ev) (a:=a) ka.u gN.i rfl bD.1 (by simpa using dQ.sl) (sC (cL.ext aA)) Ω Ω λbW bX eY ax bY cM=>?_;have cN:=cl.ab cM λhe=>cn bD.1 cl Φ he;rw[bu,aM fg.p rfl];refine bj ka.i (de ax.sl).1 (de ax.sl).2 cN Ξ λdS cO eZ dT=>?_;have bE:ae (λr=>leadsTo ah r\/r=aj) bC dS:=(cM.mono λr _ h=>.inl h).trans (cO.mono λr _ h=>.inr h);have aC:∀r,(leadsTo ah r\/r=aj)-> ∃e c,ad bC r e c/\e≠cT/\e≠ac/\e≠an/\e≠au:=λr U=>by
    rcases U with U|rfl
    .obtain⟨rfl,c,X⟩:=dy bD.1 U;exact⟨_,c,X,Φ,Φ,Φ,Φ⟩
    .exact⟨_,_,cl,Φ,Φ,Φ,Φ⟩
   have e0:=(aG.trans aA).size;refine ca _ ⟨W,bW,al,bX,aV,L++[a],(((ay.trans aE).trans aG).trans aA).then bE (λr U he=>?_),?_,dR.ab bE (λr U=>?_),by rw[ap];exact aP,⟨ax.ab cO λr U he=>?_,λz Y=>?_⟩,?_,λr U=>?_,aq⟩
   .rcases he with he|rfl
    .have:=aD r (.inr he);omega
    .omega
   .rw[ap];exact dT
   .obtain⟨e,c,X,_,_,aW,bl⟩:=aC r U;exact⟨e,c,X,aW,bl⟩
   .have he:r=aj:=he;subst he;exact cn ax cN Φ U
   .have cP:∀r,(leadsTo ah r\/r=aj)-> ∃e c,ad bC r e c/\e≠cT/\e≠ac/\e≠an:=λr U=>by
     obtain⟨e,c,X,h1,aT,aW,_⟩:=aC r U;exact⟨e,c,X,h1,aT,aW⟩
    rcases l5.1 Y with Y|Y
    .exact (bD.2 z Y).ab bE cP
    .rw[l9.1 Y];have e2:=cc.size;refine p8.ab (w:=bC) ⟨⟨dk,cL.ext aA⟩,⟨ds,du,?_,Ω,λr U=>by have:=dx.2 r U;omega⟩,by show w.heap.size<=g;omega,cZ y (x5 ag)⟩ bE cP;exact (aX.ext aG).ext aA
   .rw[ap,j9,aQ];rfl
   .rcases U with U|U
    .exact aD r (.inl U)
    .rcases bY r U with h|h
     .exact aD r (.inr h)
     .omega
theorem vo {z:Array y0} {k:Nat} (J:z.size=k):(j5.zeroCells z n).toList=dI z (n*k):=by
 unfold j5.zeroCells dI;rw[J]
theorem K3 {P:V2} {t U Y:o4} {aa kn:o6} {b g k m:Nat} {z:y0} {xs:List y0} {K:y0->x2->Prop} (aA:y=(m:Int)) (am:P.underlying t=σ (.slice e)) (an:P.underlying U=σ (.int kn)) (hi:aO P e k b z) (ac:z.cells.size=k)
  (aT:0<k) (h1:∀u∈dI z.cells (m*k),u.oneCell'=true) (h:b1 w g e k v n xs) (aB:0<m) (aC:(n+m)*b<=140737488355328) (aD:n+m<=9223372036854775807)
  (ao:∀af aE w',b1 w' aE e k af (n+m) (xs++dI z.cells (m*k))->(∀r,leadsTo af r->leadsTo v r\/w.heap.size<=r)->ae (λr=>leadsTo v r) w w'->K af w'):ay P (j4 #[t,U] Y #[v,.int aa y]) w K:=by
 subst aA;obtain⟨i,hi,ag,rfl,ap⟩:=hi;obtain⟨aq,hm⟩:=h;have aF:=nZ z.cells (m*k);have aG:m*i.bytes<=281474976710656:=by
  have:m*i.bytes<=(n+m)*i.bytes:=X1 _ Ω;omega
 have grow:∀ (base:Option Addr) (cap:Nat),v= .slice base n cap->(j5.firstCells i.size n (.slice base n cap)).run P w.drew= .ok xs.toArray w.drew->cap<n+m->ay P (j4 #[t,U] Y #[v,.int aa (m:Int)]) w K:=λbase cap aH aI J=>by
  subst aH;have ah:=Lib.run_append_grow_zeros (P:=P) w t U Y e i z aa kn am an hi ap base n cap xs aI m aB Ω J Ω aG (growslice_fits J aC);have au:n+m<=grownCap w (n+m) cap e:=grownCap_ge w _ _ _;have aJ:grownCap w (n+m) cap e<=maxLen:=grownCap_le_maxLen w (n+m) cap e (by simpa[maxLen] using aD);have aU:=nZ z.cells ((grownCap w (n+m) cap e-(n+m))*k);have aV:(n+m)*k<=grownCap w (n+m) cap e*k:=X1 _ au;have aK:(n+m)*k=n*k+m*k:=U7 _ _ _;have aW:(grownCap w (n+m) cap e-(n+m))*k=grownCap w (n+m) cap e*k-(n+m)*k:=Nat.sub_mul _ _ _;refine .of ah ((o3 w _ (R6 _)).trans (pb _ _)) (ao _ w.heap.size _ ⟨by rw[r8];omega,.inr ⟨_,xs++dI z.cells (m*k)++dI z.cells ((grownCap w (n+m) cap e-(n+m))*k),rfl,?_,au,aJ,?_,?_⟩⟩ (λr ai=>?_) (((qI w _).trans (pa _ _)).ab _))
  .have:=heap_alloc_new w.drew (.cells (xs.toArray++j5.zeroCells z.cells m++j5.zeroCells z.cells (grownCap w (n+m) cap e-(n+m))) e);unfold ad;rw[show w.drew.heap.size=w.heap.size from rfl] at this;rw[this];congr 2;apply Array.toList_inj.1;rw[Array.toList_append,Array.toList_append,vo ac,vo ac]
  .rw[r8,r8];omega
  .rw[List.take_append_of_le_length (by rw[r8];omega),n0 (by rw[r8];omega)]
  .obtain⟨a,aL,c,V,W⟩:=ai;cases V;exact .inr (by simp at W;omega)
 rcases hm with⟨rfl,aM⟩|⟨cap,cs,rfl,X,V,W,aj,av⟩
 .subst aM;have:xs=[]:=Z8 (by simpa using aq);subst this;exact grow ν 0 rfl (run_firstCells_none w.drew i.size 0 0 0) Ω
 .by_cases J:n+m<=cap
  .have aw:(n+m)*k<=cs.length:=by rw[aj];exact X1 _ J
   have aK:(n+m)*k=n*k+m*k:=U7 _ _ _;have ak:=run_storeCells_cells (P:=P) g (0+n*k) (dI z.cells (m*k)) 0 w (λj ax=>by
    rw[aF] at ax;rw[Nat.add_zero,V8,X.cell (x6 (show n*k+j<cs.length by omega))];rfl) (λj _=>X.frozen _ _) h1
   simp only[Nat.add_zero] at ak;have hw:X2.wrap (m:Int)=m:=by rw[o6.wrap_i64];omega
   have aN:¬((m:Int)<0):=Ω
   have aP:¬(281474976710656<(m:Int)*(i.bytes:Int)):=by rw[<-Int.natCast_mul];omega
   have al:¬(m*i.size=0):=Nat.mul_ne_zero Ω Ω;have aQ:(j5.zeroCells z.cells m).toList=dI z.cells (m*k):=vo ac;have ah:(j4 #[t,U] Y #[.slice (σ ⟨g,0,ν⟩) n cap,.int aa (m:Int)]).run P w= .ok (.slice (σ ⟨g,0,ν⟩) (n+m) cap) (w.setCells g (0+n*k) (dI z.cells (m*k))):=by
    simp[j4,run_underlying am,run_underlying an,sizeOf,typeInfo,zeroValue,hi,ap,asInt,asIntOf,hw,J,aN,al,aP,aQ,Addr.add_lit,ag];simp only[V8] at ak;rw[ak];simp;intro aR;exact absurd aR (by rw[ag] at al;exact al)
   obtain⟨aS,az⟩:=mF (dI z.cells (m*k)) cs (0+n*k) w X;refine .of ah (az.dc X) (ao _ g _ ⟨by rw[r8];omega,.inr ⟨cap,_,rfl,aS,J,W,by rw[k0,aj],?_⟩⟩ (λr ai=>.inl ?_) (az.ab.mono λr _ he=>⟨_,_,_,rfl,he.symm⟩))
   .rw[r4 Ω aw,lP (by rw[o5];omega),V8,List.take_take,List.drop_eq_nil_of_le (by rw[o5];omega),X6,S4 Ω,av]
   .obtain⟨a,aL,c,V,W⟩:=ai;cases V;exact⟨_,_,_,rfl,W⟩
  .refine grow _ cap rfl ?_ Ω;have aw:n*k<=cs.length:=by rw[aj];exact X1 _ V
   refine run_firstCells_some w.drew i.size n _ n cap xs (by rw[ag];exact aq) λj u hu=>?_;rw[T3,V8];have ax:=(x4.1 hu).1;rw[<-av,Y7 Ω] at hu;exact X.cell hu
def gj (c:Cell):List y0:=[Δ c.v,.int .u64 (c.st:Int)]
def ik (o:jB):List y0:=[Δ (o.i:Int),Δ o.c.v,.int .u64 (o.c.st:Int)]
def hv (m:mO):List y0:=[Δ (m.olds:Int),Δ (m.cells:Int),.int .u64 (m.st:Int)]
def cX (w:x2) (ag:Nat) (A:ah) (t:aC):Prop:=A ag/\ ∃U go cN aI J cG,ad w ag cQ [aI,J,cG,.int .u64 (t.ever:Int)]/\bb gj 2 dP w U aI t.cells/\bb ik 3 fx w go J t.olds/\bb hv 3 dC w cN cG t.marks/\
 ∀r,leadsTo aI r\/leadsTo J r\/leadsTo cG r->A r
theorem cX.ab {S A:ah} {t:aC} (h:cX w ag A t) (U:ae S w w') (V:∀r,A r->¬S r):cX w' ag A t:=by
 obtain⟨X,Y,go,cN,aI,aa,cG,h1,ac,ad,af,W⟩:=h;exact⟨X,Y,go,cN,aI,aa,cG,h1.ab U (V _ X),ac.ab U λr J=>V r (W r (.inl J)),ad.ab U λr J=>V r (W r (.inr (.inl J))),af.ab U λr J=>V r (W r (.inr (.inr J))),W⟩
theorem cX.ext {A:ah} {t:aC} (h:cX w ag A t) (J:Ext w w'):cX w' ag A t:=h.ab (J.ab λ_=>False) λ_ _ h=>h
theorem cX.mono {A B:ah} {t:aC} (h:cX w ag A t) (J:∀r,A r->B r):cX w ag B t:=by
 obtain⟨U,V,go,cN,aI,W,cG,h1,X,Y,aa,ab⟩:=h;exact⟨J _ U,V,go,cN,aI,W,cG,h1,X,Y,aa,λr ac=>J r (ab r ac)⟩
def Grow (A:ah) (w:x2) (aG:ah) (w':x2):Prop:=ae A w w'/\(∀r,aG r->A r\/w.heap.size<=r)/\ ∀r,A r->aG r
theorem Grow.refl (A:ah) (w:x2):Grow A w A w:=⟨ae.refl _ _,λ_ h=>.inl h,λ_ h=>h⟩
theorem Grow.ext {A:ah} (h:Ext w w'):Grow A w A w':=⟨h.ab _,λ_ h=>.inl h,λ_ h=>h⟩
theorem Grow.trans {A aG V:ah} {W:x2} (h:Grow A w aG w') (k:Grow aG w' V W):Grow A w V W:=
 ⟨⟨X8 h.1.size k.1.size,λr o U J X=>k.1.bc r o (h.1.bc r o U J X) J λY=>(h.2.1 r Y).elim X λaa=>by
  have:=(Z1.1 U).1;omega⟩,λr U=>by
  rcases k.2.1 r U with h1|h1
  .exact h.2.1 r h1
  .have:=h.1.size;exact .inr Ω,λr U=>k.2.2 r (h.2.2 r U)⟩
theorem BH {A:ah} {t:aC} (h:cX w ag A t):ai x3 FN [Γ ag] w λv w'=>v=Δ (t.cells.length:Int)/\Ext w w':=by
 obtain⟨U,V,go,cN,aI,W,cG,h1,J,X,Y,aa⟩:=h;refine az func220 ?_;rw[cR j8.u];simp only[Z7,aT];rw[aK cQ.p 0 h1 rfl,dt gd.u J];exact⟨rfl,Ext.refl _⟩
theorem BI {A:ah} {t:aC} {i:Int} (h:cX w ag A t):ai x3 E9 [Γ ag,Δ i] w λv w'=>v= .bool (decide (0<=i/\i<t.cells.length))/\Ext w w':=by
 refine az func146 ?_;refine aR (λv V=>v= .bool (decide (0<=i/\i<t.cells.length))/\Ext w V) (λ_ _ h=>h) ?_;intro X J;rw[cr,ak];refine⟨λU=>?_,λU=>J _ _ ⟨by rw[decide_eq_false];omega,Ext.refl _⟩⟩;refine (BH h).mono ?_;rintro _ V _ ⟨rfl,W⟩;rw[aQ];refine J _ _ ⟨?_,W⟩;congr 1;rw[U4,decide_eq_true_eq,decide_eq_true_eq];exact⟨λh=>⟨Ω,h⟩,λh=>h.2⟩
theorem K4 {A:ah} {t:aC} {i:Nat} {c:Cell} (h:cX w ag A t) (X:y=(i:Int)) (J:t.cells[i]? =σ c):ai x3 xT [Γ ag,Δ y] w λv w'=>v=Δ c.v/\Ext w w':=by
 have Y:=(x4.1 J).1;refine az func62 ?_;refine (BI h).mono ?_;rintro _ V _ ⟨rfl,U⟩;rw[decide_eq_true Ω,bg,Y6,aT];obtain⟨aa,ab,go,cN,aI,ac,cG,h1,W,ad,ae,af⟩:=h.ext U;rw[aK cQ.p 0 h1 rfl,cE X gd.u dP.i W Y,aM dP.p rfl,aS Ψ (W.range J 0 _ rfl)];exact⟨rfl,U⟩
theorem ku {A:ah} {t:aC} {i:Nat} {x:Int} (h:cX w ag A t) (U:y=(i:Int)) (J:t.b3[i]? =σ x):ai x3 xT [Γ ag,Δ y] w λv w'=>v=Δ x/\Ext w w':=by
 unfold aC.b3 at J;rw[u4] at J;obtain⟨c,V,rfl⟩:=X5.1 J;exact K4 h U V
def ji (t:aC):Prop:=t.cells.length<=100000000/\t.olds.length<=100000000/\t.marks.length<=100000000
theorem oI {aa go cN:Nat} {aI J cG:y0} {t:aC} {x:y0} (h1:ad w ag cQ [aI,J,cG,x]) (V:bb gj 2 dP w aa aI t.cells) (W:bb ik 3 fx w go J t.olds) (X:bb hv 3 dC w cN cG t.marks):
  (¬leadsTo aI ag/\¬leadsTo J ag/\¬leadsTo cG ag)/\(∀r,leadsTo aI r->¬leadsTo J r/\¬leadsTo cG r)/\ ∀r,leadsTo J r->¬leadsTo aI r/\¬leadsTo cG r:=by
 refine⟨⟨cn V h1 Φ,cn W h1 Φ,cn X h1 Φ⟩,λr Y=>?_,λr Y=>?_⟩
 .obtain⟨rfl,c,U⟩:=dy V Y;exact⟨cn W U Φ,cn X U Φ⟩
 .obtain⟨rfl,c,U⟩:=dy W Y;exact⟨cn V U Φ,cn X U Φ⟩
theorem p9 {A:ah} {t:aC} {i:Nat} {x:Int} (h:cX w ag A t) (bP:y=(i:Int)) (aA:i<t.cells.length) (a1:ji t):ai x3 x1 [Γ ag,Δ y,Δ x] w λv w'=>v=Δ 0/\ ∃aG,Grow A w aG w'/\cX w' ag aG (t.set i x):=by
 subst bP;obtain⟨c,aj⟩:=aN (l:=t.cells) aA;refine az func106 ?_;rw[cR j8.u];simp only[Z7,aT];refine (BI h).mono ?_;rintro _ V _ ⟨rfl,aq⟩;rw[decide_eq_true Ω,bg,Y6,aT];obtain⟨bq,au,go,cN,aI,aB,cG,h1,bt,a2,aO,aP⟩:=id (h.ext aq);have bQ:∀ {aa:x2} {aG:ah} {bD:aC} {st:Nat} {K:x2->Prop},cX aa ag aG bD->bD.cells[i]? =σ ⟨c.v,st⟩->
   (∀W,ae aG aa W->cX W ag aG {bD with cells:=bD.cells.set i ⟨x,st⟩}->K W)->
   (U x3 (bd (Γ ag)) aa λt77=>
   U x3 (x8 cQ t77 0) aa λbR=>
   U x3 (x7 gd bR) aa λbS=>
   U x3 (l7 gd bS (Δ (i:Int))) aa λbT=>
   U x3 (x8 dP bT 0) aa λbU=>
   ay x3 (o7 an bU (Δ x)) aa λ(_:Unit) W=>
   K W):=by
  intro aa aG bD st K a6 aU bV;obtain⟨a7,au,go,cN,aI,aB,cG,al,ao,aD,aE,aF⟩:=a6;have bW:=(x4.1 aU).1;rw[aK cQ.p 0 al rfl,cE rfl gd.u dP.i ao bW,aM dP.p rfl];obtain⟨⟨aH,a8,ba⟩,ap,_⟩:=oI al ao aD aE;refine oy (f:=gj) (j:=0) (a:=⟨c.v,st⟩) (a':=⟨x,st⟩) an.i rfl rfl ao aU rfl Ω λW ac bX bZ=>?_;exact bV W (ac.mono λr _ J=>aF r (.inl J)) ⟨a7,au,go,cN,aI,aB,cG,al.ab ac aH,bZ,aD.ab ac λr J he=>(ap r he).1 J,aE.ab ac λr J he=>(ap r he).2 J,aF⟩
 refine dv (λaa=>∃aG bD st,Grow A V aG aa/\cX aa ag aG bD/\bD.cells[i]? =σ ⟨c.v,st⟩/\t.set i x={bD with cells:=bD.cells.set i ⟨x,st⟩}) ?_ ?_
 .rintro aa ⟨aG,bD,st,b0,a6,aU,bc⟩;refine bQ a6 aU λW ac a2=>⟨by trivial,aG,?_,by rw[bc];exact a2⟩;exact (Grow.ext aq).trans (b0.trans ⟨ac,λ_ h=>.inl h,λ_ h=>h⟩)
 intro ck be;rw[aK cQ.p 2 h1 rfl,dt h0.u aO,bY,ak];have bw:∀ (hm:t.marks.getLast? =ν\/ ∃m,t.marks.getLast? =σ m/\¬(c.st<m.st/\i<m.cells)),t.set i x={t with cells:=t.cells.set i ⟨x,c.st⟩}:=λhm=>by
  unfold aC.set;rw[aj];rcases hm with hm|⟨m,hm,b1⟩
  .simp only[hm]
  .simp only[hm];rw[if_neg b1]
 refine⟨λcl=>?_,λcm=>be _ ⟨A,t,c.st,Grow.refl _ _,h.ext aq,aj,bw (.inl ?_)⟩⟩
 rotate_left
 .rw[List.getLast?_eq_none_iff];exact Z8 Ω
 obtain⟨m,hm⟩:=aN (l:=t.marks) (i:=t.marks.length-1) Ω;have bx:t.marks.getLast? =σ m:=by rw[List.getLast?_eq_getElem?];exact hm
 have cp:=a1.2.2;rw[aK cQ.p 2 h1 rfl,dj,wrap_i64 Ω Ω,cE (i:=t.marks.length-1) Ω h0.u dC.i aO Ω,br dC.p dC.i rfl (aO.range hm)];refine bp dC.i λam aa cq bz b2=>?_;refine bK (vs:=hv m) dC.i rfl rfl (by intro v aJ;simp[hv] at aJ;rcases aJ with rfl|rfl|rfl<;>rfl) b2 λW ac bX b3=>?_;have bA:Ext V W:=bz.put ac Ω;have aV:∀ {w':x2},Ext W w'->ad w' am dC (hv m):=λaq=>b3.ext aq;refine aR (λv bf=>v= .bool (decide (c.st<m.st/\i<m.cells))/\Ext W bf) ?_ ?_
 rotate_left
 .intro cr bB;intro bf X _ _;have aw:=bA.trans X;have bC:=aV X;have ax:=bt.ext aw;rw[aK cQ.p 0 (h1.ext aw) rfl,cE rfl gd.u dP.i ax aA,aM dP.p rfl,aS Ψ (ax.range aj 1 _ rfl),av dC.p 2 bC rfl,aQ,ak];refine⟨λbE=>?_,λbF=>bB _ _ ⟨by rw[decide_eq_false];omega,X⟩⟩;rw[av dC.p 1 bC rfl,aQ];refine bB _ _ ⟨?_,X⟩;congr 1;rw[U4,decide_eq_true_eq,decide_eq_true_eq];exact⟨λh=>⟨Ω,Ω⟩,λh=>Ω⟩
 rintro _ bf ⟨rfl,X⟩;have aw:=bA.trans X;rw[ak];refine⟨λbE=>?_,λbF=>be _ ⟨A,t,c.st,Grow.ext aw,(h.ext aq).ext aw,aj,bw (.inr ⟨m,bx,bF⟩)⟩⟩;intro ct aW _ _;have aL:=aw.trans aW;have bh:=h1.ext aL;have ax:=bt.ext aL;have b4:=a2.ext aL;have b5:=aO.ext aL;rw[bu,aM cQ.p rfl,aS Ψ (bh.cell (o:=0+1) rfl),bu,aM cQ.p rfl,aS Ψ (bh.cell (o:=0+0) rfl),cE rfl gd.u dP.i ax aA,br dP.p dP.i rfl (ax.range aj)];rw[c8 (cs:=#[Δ (i:Int),Δ c.v,.int .u64 (c.st:Int)]) Ψ];let a:jB:=⟨i,c⟩;have b6:∀u∈ik a,u.oneCell'=true:=by intro v aJ;simp[ik] at aJ;rcases aJ with rfl|rfl|rfl<;>rfl
 refine gg (f:=ik) (a:=a) gO.u fx.i Ω rfl rfl λcu cw bG cz Y b7=>?_;refine⟨.inl Y,?_⟩;have bH:=aL.trans Y;have bi:=bh.ext Y;have bI:=ax.ext Y;have bk:=b4.ext Y;have bJ:=b5.ext Y;obtain⟨⟨aH,a8,ba⟩,ap,b8⟩:=oI bi bI bk bJ;refine gB (f:=ik) (a:=a) gO.u fx.i rfl bk (by simpa using b7.sl) b6 (by have:=a1.2.1;omega) (by have:=a1.2.1;omega) λbl bL cA aX b9 bM=>?_;rw[bu,aM cQ.p rfl];have bN:=bi.ab bM a8;refine bj gO.i (de aX.sl).1 (de aX.sl).2 bN Ξ λaf bO cB bm=>?_;have bm:ad af ag cQ [aI,bl,cG,.int .u64 (t.ever:Int)]:=bm;have aY:ae (λr=>leadsTo aB r\/r=ag) bG af:=(bM.mono λr _ h=>.inl h).trans (bO.mono λr _ h=>.inr h);have ca:bb gj 2 dP af au aI t.cells:=bI.ab aY λr J he=>he.elim (λhe=>(ap r J).1 he) λhe=>aH (he▸J);have cb:bb hv 3 dC af cN cG t.marks:=bJ.ab aY λr J he=>he.elim (λhe=>(b8 r he).2 J) λhe=>ba (he▸J);have cc:bb ik 3 fx af bL bl (t.olds++[a]):=aX.ab bO λr J he=>by
  have he:r=ag:=he;subst he;exact cn aX bN Φ J
 have cC:=bH.size;have cD:=bz.size;let bn:ah:=λr=>A r\/bG.heap.size<=r;have cd:Grow A V bn af:=⟨(bH.ab A).trans (aY.mono λr _ he=>he.elim (λhe=>aP r (.inr (.inl he))) λhe=>he▸bq),λr J=>J.imp id λJ=>Ω,λr J=>.inl J⟩;have ce:cX af ag bn {t with olds:=t.olds++[a]}:=⟨.inl bq,au,bL,cN,aI,bl,cG,bm,ca,cc,cb,λr J=>by
  rcases J with J|J|J
  .exact .inl (aP r (.inl J))
  .rcases b9 r J with h|h
   .exact .inl (aP r (.inr (.inl h)))
   .exact .inr h
  .exact .inl (aP r (.inr (.inr J)))⟩
 have cg:ad af am dC (hv m):=(aV ((X.trans aW).trans Y)).ab aY λhe=>by
  rcases he with he|he
  .obtain⟨rfl,cF,ch⟩:=dy bk he;exact absurd (ea ch (aV ((X.trans aW).trans Y))) Φ
  .subst he;exact absurd (ea bi (aV ((X.trans aW).trans Y))) Φ
 intro cH bo _ _;have ci:=ce.ext bo;obtain⟨a7,au,go,cN,aI,aB,cG,al,ao,aD,aE,aF⟩:=ci;rw[aK cQ.p 0 al rfl,av dC.p 2 (cg.ext bo) rfl,cE rfl gd.u dP.i ao aA,aM dP.p rfl];obtain⟨⟨aH,a8,ba⟩,ap,_⟩:=oI al ao aD aE;refine oy (f:=gj) (j:=1) (a:=c) (a':=⟨c.v,m.st⟩) eH.i rfl rfl ao aj rfl Ω λcI aZ cJ cj=>?_;have bc:t.set i x={t with olds:=t.olds++[a],cells:=t.cells.set i ⟨x,m.st⟩}:=by
  unfold aC.set;rw[aj];simp only[bx];rw[if_pos bE]
 refine be _ ⟨bn,{t with olds:=t.olds++[a],cells:=t.cells.set i ⟨c.v,m.st⟩},m.st,cd.trans ((Grow.ext bo).trans ⟨aZ.mono λr _ J=>aF r (.inl J),λ_ h=>.inl h,λ_ h=>h⟩),⟨a7,au,go,cN,aI,aB,cG,al.ab aZ aH,cj,aD.ab aZ λr J he=>(ap r he).1 J,aE.ab aZ λr J he=>(ap r he).2 J,aF⟩,?_,?_⟩
 .show (t.cells.set i _)[i]? =_;rw[U5 aA]
 .rw[bc];simp only[List.set_set]
theorem BJ (n:Nat):dI (#[Δ 0,.int .u64 0]:Array y0) (n*2)=(o8 n (⟨0,0⟩:Cell)).flatMap gj:=by
 have:∀n,dI (#[Δ 0,.int .u64 0]:Array y0) (n*2)=(o8 n (⟨0,0⟩:Cell)).flatMap gj:=by
  intro n;apply W5;intro j;have W:((o8 n (⟨0,0⟩:Cell)).flatMap gj).length=n*2:=by simp[gj]
  by_cases U:j<n*2
  .have V:(dI (#[Δ 0,.int .u64 0]:Array y0) (n*2))[j]? =σ (if j % 2=0 then Δ 0 else .int .u64 0):=by
    unfold dI;rw[R4,Array.getElem?_map,Array.getElem?_range,if_pos U];rcases Nat.mod_two_eq_zero_or_one j with h|h<;>simp[h]
   have J:=m8 (f:=gj) (k:=2) (L:=o8 n (⟨0,0⟩:Cell)) (i:=j / 2) (j:=j % 2) (a:=⟨0,0⟩) (v:=if j % 2=0 then Δ 0 else .int .u64 0) (λa _=>rfl) (by rw[List.getElem?_replicate,if_pos Ω]) (by rcases Nat.mod_two_eq_zero_or_one j with h|h<;>simp[h,gj]);rw[show j / 2*2+j % 2=j by omega] at J;rw[V,J]
  .rw[Y9 (by rw[nZ];omega),Y9 Ω]
 exact this n
theorem K5 {A:ah} {t:aC} (h:cX w ag A t) (aE:ji t) (aO:n<=100000000):ai x3 FE [Γ ag,Δ (n:Int)] w λv w'=>v=Δ (t.cells.length:Int)/\ ∃aG,Grow A w aG w'/\cX w' ag aG (t.grow n):=by
 refine az func188 ?_;refine (BH h).mono ?_;rintro _ V _ ⟨rfl,U⟩;refine dv (λaa=>∃aG,Grow A w aG aa/\cX aa ag aG (t.grow n)) (λaa h=>⟨rfl,h⟩) ?_;intro aP al;refine aR (λv aa=>v= .bool (decide (0<n))/\V=aa) ?_ ?_
 rotate_left
 .intro aQ aF;rw[yt j8.u];simp only[Z7,W6,bX];rw[bY];refine aF _ _ ⟨?_,rfl⟩;congr 1;rw[U4,decide_eq_true_eq,decide_eq_true_eq];omega
 rintro _ _ ⟨rfl,rfl⟩;rw[ak];refine⟨λam=>?_,λam=>al _ ⟨A,Grow.ext U,?_⟩⟩
 rotate_left
 .have:n=0:=Ω
  subst this;have e:t.grow 0=t:=by unfold aC.grow;simp
  rw[e];exact h.ext U
 obtain⟨an,aS,go,cN,aI,ao,cG,h1,ap,aq,au,W⟩:=id (h.ext U);rw[aK cQ.p 0 h1 rfl];obtain⟨⟨aH,aJ,aL⟩,av,aT⟩:=oI h1 ap aq au;have aU:=aE.1;refine K3 (k:=2) (m:=n) rfl gd.u ac.u dP.i rfl Ω (λu hu=>?_) ap.1 am Ω Ω λY aw aa ax aN ay=>?_
 .exact Bq Φ Φ u hu
 rw[bu,aM cQ.p rfl];have X:bb gj 2 dP aa aw Y (t.cells++o8 n ⟨0,0⟩):=by
  refine⟨?_,λ_ _=>rfl⟩;have e:(y0.agg #[Δ 0,.int .u64 0]).cells= #[Δ 0,.int .u64 0]:=rfl;rw[e,BJ] at ax;rw[r8,List.length_replicate,List.flatMap_append];exact ax
 have aA:=h1.ab ay aH;refine bj gd.i (de X.sl).1 (de X.sl).2 aA Ξ λaB aD aV af=>?_;have af:ad aB ag cQ [Y,ao,cG,.int .u64 (t.ever:Int)]:=af;have aj:ae (λr=>leadsTo aI r\/r=ag) V aB:=(ay.mono λr _ h=>.inl h).trans (aD.mono λr _ h=>.inr h);have z:=U.size;refine al _ ⟨λr=>A r\/V.heap.size<=r,(Grow.ext U).trans ⟨aj.mono λr _ he=>he.elim (λhe=>W r (.inl he)) λhe=>he▸an,λr J=>J,λr J=>.inl J⟩,.inl an,aw,go,cN,Y,ao,cG,af,X.ab aD λr J he=>?_,aq.ab aj λr J he=>he.elim (λhe=>(av r he).1 J) λhe=>aJ (he▸J),au.ab aj λr J he=>he.elim (λhe=>(av r he).2 J) λhe=>aL (he▸J),λr J=>?_⟩
 .have he:r=ag:=he;subst he;exact cn X aA Φ J
 .rcases J with J|J|J
  .exact (aN r J).imp (λh=>W r (.inl h)) id
  .exact .inl (W r (.inr (.inl J)))
  .exact .inl (W r (.inr (.inr J)))
theorem K6 (ac:n<=1000):ai x3 EK [Δ (n:Int)] w λv w'=>Ext w w'/\ ∃ag,v=Γ ag/\cX w' ag (eL w.heap.size) ⟨o8 n ⟨0,0⟩,[],[],0⟩:=by
 refine az func105 ?_;rw[ru,Int.max_eq_left Ω];refine yA (k:=2) gd.u dP.i Ω Ω λg V ae W U=>?_;rw[c8 (cs:=#[.slice (σ ⟨g,0,ν⟩) n n,.slice ν 0 0,.slice ν 0 0,.int .u64 0]) Ψ];refine bP λag aa af X ab=>?_;have ah:=W.size;have e:(y0.agg #[Δ 0,.int .u64 0]).cells= #[Δ 0,.int .u64 0]:=rfl;have U:ad V g dP ((o8 n (⟨0,0⟩:Cell)).flatMap gj):=by rw[<-BJ,<-e];exact U
 have Y:bb gj 2 dP V g (.slice (σ ⟨g,0,ν⟩) n n) (o8 n ⟨0,0⟩):=by
  refine⟨?_,λ_ _=>rfl⟩;rw[List.length_replicate];exact b1.full U (by simp[gj]) (by simp[maxLen];omega)
 refine⟨W.trans X,ag,rfl,by show w.heap.size<=ag;omega,g,0,0,_,_,_,ab,Y.ext X,bb.nil _ _ _ _ _,bb.nil _ _ _ _ _,λr J=>?_⟩;rcases J with J|J|J
 .have:=(Y.leads J).1;show w.heap.size<=r;omega
 .exact (eT J).elim
 .exact (eT J).elim
theorem mH {α β:Type} {f:α->List β}:∀ {L:List α} {i j:Nat} {a:α},L[i]? =σ a->j<(f a).length->(L.flatMap f)[((L.take i).flatMap f).length+j]? =(f a)[j]?
 |x::L,0,j,a,h,J=>by
  cases h;rw[List.take_zero,List.flatMap_nil,List.length_nil,V8,X3,Y3 J]
 |x::L,i+1,j,a,h,J=>by
  have h:L[i]? =σ a:=by simpa using h
  rw[List.take_succ_cons,X3,X3,r8,Q0,Y5 Ω,Q1,mH h J]
theorem vp {α β:Type} {f:α->List β}:∀ {L:List α} {i j:Nat} {a b:α} {x:β},L[i]? =σ a->j<(f a).length->f b=(f a).set j x->(L.flatMap f).set (((L.take i).flatMap f).length+j) x=(L.set i b).flatMap f
 |y::L,0,j,a,b,x,h,J,U=>by
  cases h;rw[List.take_zero,List.flatMap_nil,List.length_nil,V8,X3,List.set_cons_zero,X3,U,List.set_append_left _ _ J]
 |y::L,i+1,j,a,b,x,h,J,U=>by
  have h:L[i]? =σ a:=by simpa using h
  rw[List.take_succ_cons,X3,X3,r8,Q0,T6 _ _ Ω,Q1,vp h J U,List.set_cons_succ,X3]
theorem BK {α β:Type} {f:α->List β} {L:List α} {i:Nat} {a:α} (h:L[i]? =σ a) (J:j<(f a).length):((L.take i).flatMap f).length+j<(L.flatMap f).length:=by
 have h1:=mH (f:=f) h J;rw[x6 J] at h1;exact (x4.1 h1).1
structure eX where
 gone:Int
 mask:Int
 un:Λ
structure dE where
 sc:Λ
 szs:Λ
 live:Int
 cs:Λ
structure hx where
 v:Int
 sc:Λ
 dl:Λ
structure aB where
 zero:Int
 vars:List eX
 funs:List dE
 elims:List hx
def gY (x:eX):Λ:=x.gone::x.mask::x.un
def gk (x:dE):Λ:=x.live::x.cs
def hS (s:aB):Λ:=[s.zero,(s.funs.length:Int),(s.elims.length:Int)]
def aB.cells (s:aB):Λ:=hS s++(s.vars.flatMap gY++s.funs.flatMap gk)
def eY (s:aB) (i:Nat):Nat:=3+((s.vars.take i).flatMap gY).length
def ei (s:aB) (j:Nat):Nat:=3+((s.vars.flatMap gY).length+((s.funs.take j).flatMap gk).length)
theorem K7 (s:aB):s.cells[0]? =σ s.zero:=rfl
theorem K8 (s:aB):s.cells[1]? =σ (s.funs.length:Int):=rfl
theorem K9 (s:aB):s.cells[2]? =σ (s.elims.length:Int):=rfl
theorem oJ {s:aB} {i:Nat} {x:eX} (h:s.vars[i]? =σ x) (U:j<x.un.length+2):s.cells[eY s i+j]? =(gY x)[j]?:=by
 have J:j<(gY x).length:=U;unfold aB.cells eY;rw[Q0,Y5 (by simp[hS]),show (hS s).length=3 from rfl,Q1,Y3 (BK h J),mH h J]
theorem vq {s:aB} {i:Nat} {x:dE} (h:s.funs[i]? =σ x) (J:j<x.cs.length+1):s.cells[ei s i+j]? =(gk x)[j]?:=by
 have U:j<(gk x).length:=J;unfold aB.cells ei;rw[Q0,Q0,Y5 (by simp[hS]),show (hS s).length=3 from rfl,Q1,Y5 Ω,Q1,mH h U]
theorem La (s:aB) (c:Int):s.cells.set 0 c=({s with zero:=c}:aB).cells:=rfl
theorem vr {s:aB} {i:Nat} {x y:eX} {c:Int} (h:s.vars[i]? =σ x) (U:j<x.un.length+2) (V:gY y=(gY x).set j c):s.cells.set (eY s i+j) c=({s with vars:=s.vars.set i y}:aB).cells:=by
 have J:j<(gY x).length:=U;unfold aB.cells eY;rw[Q0,T6 _ _ (by simp[hS]),show (hS s).length=3 from rfl,Q1,List.set_append_left _ _ (BK h J),vp h J V];rfl
theorem BL {s:aB} {i:Nat} {x y:dE} {c:Int} (h:s.funs[i]? =σ x) (J:j<x.cs.length+1) (U:gk y=(gk x).set j c):s.cells.set (ei s i+j) c=({s with funs:=s.funs.set i y}:aB).cells:=by
 have V:j<(gk x).length:=J;unfold aB.cells ei;rw[Q0,Q0,T6 _ _ (by simp[hS]),show (hS s).length=3 from rfl,Q1,T6 _ _ Ω,Q1,vp h V U];show _=hS {s with funs:=s.funs.set i y}++_;unfold hS;rw[W0]
theorem Lb {s:aB} (x:dE):(s.cells++gk x).set 1 ((s.funs.length+1:Nat):Int)=({s with funs:=s.funs++[x]}:aB).cells:=by
 unfold aB.cells;simp only[List.flatMap_append,List.flatMap_singleton,hS,r8,U2,Z4];rfl
theorem Lc {s:aB} (e:hx):s.cells.set 2 ((s.elims.length+1:Nat):Int)=({s with elims:=s.elims++[e]}:aB).cells:=by
 unfold aB.cells;simp only[hS,r8,U2];rfl
theorem qa (s:aB):s.cells.length=3+((s.vars.flatMap gY).length+(s.funs.flatMap gk).length):=by
 unfold aB.cells;rw[r8,r8];rfl
def lg (a sc:Λ):Λ:=sc.map λv=>a.getD v.toNat 0
def nj (k:Int) (J:Int) (p:eX×Int):Int:=if p.1.gone≠0 then J else min (J+p.1.un.getD p.2.toNat 0) k
def lh (k:Int) (a:Λ) (J:Int) (f:dE):Int:=if f.live≠0 then min (J+ch f.szs f.cs (lg a f.sc)) k else J
def dropped (mask:Int) (v:Int):Bool:=mask.toNat.testBit v.toNat
def jj (p:eX×Int):Bool:=decide (p.1.gone≠0)|| !dropped p.1.mask p.2
def oK (k:Int) (s:aB) (a:Λ):Int:=if (s.vars.zip a).all jj then s.funs.foldl (lh k a) ((s.vars.zip a).foldl (nj k) s.zero) else k
def qb (s:aB) (a:Λ):Prop:=a.length=s.vars.length/\ ∀ (i:Nat) x v,s.vars[i]? =σ x->a[i]? =σ v->x.gone≠0\/(0<=v/\v<x.un.length)
structure dA (k:Int) (sizes:Λ) (s:aB):Prop where
 kv:1<=k/\k<=2147483648
 ej:1<=sizes.length/\sizes.length<=64/\ ∀z∈sizes,1<=z/\z<=32
 zero:0<=s.zero/\s.zero<=k
 vars:s.vars.length=sizes.length
 var:∀ (i:Nat) x z,s.vars[i]? =σ x->sizes[i]? =σ z->x.un.length=z.toNat/\(∀c∈x.un,0<=c/\c<=k)/\0<=x.mask/\x.mask<4294967296
 funs:∀f∈s.funs,fo sizes k (f.sc,f.cs)/\f.szs=bI sizes f.sc/\2<=f.sc.length
def newVar (u:Λ):eX:=⟨0,0,u⟩
def jJ (sizes:Λ) (g:cu):dE:=⟨g.1,bI sizes g.1,1,g.2⟩
def eb (n:aY):aB:=⟨n.zero,n.unary.map newVar,n.funs.map (jJ n.sizes),[]⟩
theorem Ld {n:aY} (h:jg n):dA n.k n.sizes (eb n):=by
 refine⟨h.k,h.sizes,h.zero,by simp[eb,h.jI],λi x z J V=>?_,λf W=>?_⟩
 .have J:(n.unary.map newVar)[i]? =σ x:=J;rw[u4] at J;obtain⟨u,hu,rfl⟩:=X5.1 J;obtain⟨h1,U⟩:=h.unary i z u V hu;exact⟨h1,U,Int.le_refl _,by show (0:Int)<_;omega⟩
 .obtain⟨g,X,rfl⟩:=Z6.1 W;obtain⟨h1,U⟩:=h.funs g X;exact⟨h1,rfl,U⟩
theorem vt {n:aY} (h:fE w J n):ai x3 EM [Γ J] w λv w'=>v=Δ (n.sizes.length:Int)/\Ext w w':=by
 obtain⟨W,X,Y,aa,gr,aV,L,nm,szv,gz,fv2,h1,U,V,ab,ac,ad,ae⟩:=h;refine az func108 ?_;rw[cR lM.u];simp only[Z7,aT];rw[aK fg.p 0 h1 rfl,aK cv.p 2 U rfl,aU af.u V.ls];exact⟨rfl,Ext.refl _⟩
theorem Le {n:aY} (h:fE w J n):ai x3 Fk [Γ J] w λv w'=>v=Δ n.k/\Ext w w':=by
 obtain⟨V,W,X,Y,gr,aV,L,nm,szv,gz,fv2,h1,U,aa,ab,ac,ad,ae⟩:=h;refine az func159 ?_;rw[cR lM.u];simp only[Z7,aT];rw[aK fg.p 0 h1 rfl,aK cv.p 1 U rfl];exact⟨rfl,Ext.refl _⟩
theorem Lf {n:aY} (h:fE w J n):ai x3 EL [Γ J] w λv w'=>v=Δ n.zero/\Ext w w':=by
 obtain⟨U,V,W,X,gr,aV,L,nm,szv,gz,fv2,h1,Y,aa,ab,ac,ad,ae⟩:=h;refine az func107 ?_;rw[cR lM.u];simp only[Z7,aT];rw[aK fg.p 1 h1 rfl];exact⟨rfl,Ext.refl _⟩
theorem BM {n:aY} (h:fE w J n):ai x3 ya [Γ J] w λv w'=>v=Δ (n.funs.length:Int)/\Ext w w':=by
 obtain⟨W,X,Y,aa,gr,aV,L,nm,szv,gz,fv2,h1,ab,ac,ad,ae,U,V⟩:=h;refine az func111 ?_;rw[cR lM.u];simp only[Z7,aT];rw[aK fg.p 3 h1 rfl,dt ka.u U.1];exact⟨by rw[<-V,u5],Ext.refl _⟩
theorem BN {ab:Nat} {n:aY} {i:Int} (h:fE w ab n) (U:jg n):ai x3 EN [Γ ab,Δ i] w λv w'=>Ext w w'/\(¬(0<=i/\i<n.sizes.length)->v= .slice ν 0 0)/\
  ∀u,0<=i->n.unary[i.toNat]? =σ u-> ∃g,w.heap.size<=g/\ao .i64 an w' g v u:=by
 refine az func109 ?_;have ap:=U.jI;refine aR (λv V=>v= .bool (decide (¬(0<=i/\i<n.sizes.length)))/\Ext w V) ?_ ?_
 .rintro _ V ⟨rfl,J⟩;rw[ak];refine⟨λag=>⟨J,λ_=>rfl,λu ah hu=>?_⟩,λW=>?_⟩
  .have:=(x4.1 hu).1;exact absurd ⟨ah,Ω⟩ ag
  have W:0<=i/\i<n.sizes.length:=X9.1 W;obtain⟨aq,av,aw,ax,gr,aV,L,nm,szv,gz,fv2,h1,ay,aA,X,ac,aB,aC⟩:=h.ext J;have aD:aV.length=n.unary.length:=by rw[<-ac,u5]
  obtain⟨a,Y⟩:=aN (l:=aV) (i:=i.toNat) Ω;obtain⟨aE,hm⟩:=X.2 a (x5 Y);rw[aK fg.p 2 h1 rfl,cE (i:=i.toNat) Ω dH.u au.i X.1 Ω,aS (o:=i.toNat*1) Ψ (X.1.range Y 0 _ rfl)];have ad:n.unary[i.toNat]? =σ a.l:=by rw[<-ac,u4,Y];rfl
  have aF:a.l.length<=32:=by
   obtain⟨z,ae⟩:=aN (l:=n.sizes) (i:=i.toNat) Ω;have aG:=(U.unary i.toNat z a.l ae ad).1;have aH:=U.sizes.2.2 z (x5 ae);omega
  refine (ui hm.ls Ω).mono ?_;rintro v aa _ ⟨aj,g,aI,al⟩;refine⟨J.trans aj,λam=>absurd W am,λu _ hu=>⟨g,by have:=J.size;omega,?_⟩⟩;rw[ad] at hu;cases hu;exact al
 .intro aJ af;rw[aQ,ak];refine⟨λaL=>af _ _ ⟨by rw[decide_eq_true];omega,Ext.refl _⟩,λaM=>?_⟩;refine (vt h).mono ?_;rintro _ V _ ⟨rfl,J⟩;rw[cr];refine af _ _ ⟨?_,J⟩;congr 1;rw[U4,decide_eq_true_eq,decide_eq_true_eq];omega
theorem sE {n:aY} {i:Int} (h:fE w X n) (J:jg n):ai x3 Fe [Γ X,Δ i] w λv w'=>Ext w w'/\v=Δ (if 0<=i then n.sizes.getD i.toNat 0 else 0):=by
 refine az func150 ?_;refine (BN h J).mono ?_;rintro v V _ ⟨Y,ab,ac⟩;by_cases U:0<=i/\i<n.sizes.length
 .have ad:=J.jI;obtain⟨u,hu⟩:=aN (l:=n.unary) (i:=i.toNat) Ω;obtain⟨z,W⟩:=aN (l:=n.sizes) (i:=i.toNat) Ω;obtain⟨g,_,hm⟩:=ac u U.1 hu;rw[aU au.u hm.ls];refine⟨Y,?_⟩;have ae:=(J.unary i.toNat z u W hu).1;have af:=J.sizes.2.2 z (x5 W);rw[if_pos U.1,u9,W];congr 1;simp only[S1];omega
 .rw[ab U,gP au.u];refine⟨Y,?_⟩;by_cases aa:0<=i
  .rw[if_pos aa,u9,Y9 Ω];rfl
  .rw[if_neg aa];rfl
theorem BO {n:aY} {j:Int} (h:fE w J n) {K:y0->x2->Prop} (W:∀w',Ext w w'->K (.bool (decide (¬(0<=j/\j<n.funs.length)))) w'):
  U x3 (aA .lss ac false true (Δ j) (Δ 0)) w λY=>Split Y (K (.bool true) w) (ai x3 ya [Γ J] w λaa X=>U x3 (aA .geq ac false false (Δ j) aa) X λab=>K ab X):=by
 rw[aQ,ak];refine⟨λae=>?_,λaf=>?_⟩
 .have:=W w (Ext.refl _);rw[decide_eq_true (show ¬(0<=j/\j<n.funs.length) by omega)] at this;exact this
 .refine (BM h).mono ?_;rintro _ V _ ⟨rfl,ad⟩;rw[cr];have:=W V ad;have e:decide ((n.funs.length:Int)<=j)=decide (¬(0<=j/\j<n.funs.length)):=by
   rw[U4,decide_eq_true_eq,decide_eq_true_eq];omega
  rw[<-e] at this;exact this
theorem Lg {Y:Nat} {n:aY} {g:cu} (h:fE w Y n) (ae:jg n) (J:n.funs[j]? =σ g):ai x3 EP [Γ Y,Δ (j:Int)] w λv w'=>Ext w w'/\ ∃gs,w.heap.size<=gs/\ao .i64 ac w' gs v g.1:=by
 refine az func113 ?_;have ak:=(x4.1 J).1;refine aR (λv V=>v= .bool (decide (¬(0<=(j:Int)/\(j:Int)<n.funs.length)))/\Ext w V) ?_ λal af=>BO h λw' ag=>af _ _ ⟨rfl,ag⟩;rintro _ V ⟨rfl,U⟩;rw[decide_eq_false Ω,aT];obtain⟨am,an,ap,aq,gr,aV,L,nm,szv,gz,fv2,h1,au,av,aw,ax,W,ab⟩:=h.ext U;have ay:L.length=n.funs.length:=by rw[<-ab,u5]
 obtain⟨a,X⟩:=aN (l:=L) (i:=j) Ω;have ad:dM a=g:=by rw[<-ab,u4,X] at J;exact Z9 J
 obtain⟨⟨aA,hm⟩,_⟩:=W.2 a (x5 X);rw[aK fg.p 3 h1 rfl,cE rfl ka.u gN.i W.1 Ω,aM gN.p rfl,aS Ψ (W.1.range X 0 _ rfl)];have aB:a.sc.length<=6:=by
  have:=(ae.funs g (x5 J)).1.scope.2;rw[<-ad] at this;exact this
 refine (h7 hm.ls Ω).mono ?_;rintro v aa _ ⟨ah,gs,aC,aj⟩;refine⟨U.trans ah,gs,by have:=U.size;omega,?_⟩;rw[<-ad];exact aj
theorem Lh {g:Nat} (h:cV w g aj sv szs k cs):ai x3 FF [Γ g] w λv w'=>Ext w w'/\ ∃U W,v=Γ U/\w.heap.size<=U/\w.heap.size<=W/\cV w' U W sv szs k cs:=by
 obtain⟨⟨aI,gs,ak,hm,al⟩,⟨h1,ap,am⟩,J,ae⟩:=h;refine az func189 ?_;rw[cR eB.u];simp only[Z7,aT];intro V X _ _;have ab:=ak.ext X;have aq:=prod_bound J;rw[bu,aM cT.p rfl,br (cs:=[sv]) bx.p bx.i rfl (mM ab (by
  intro j v ac
  match j,ac with
  |0,ac=>exact ac)),aK cT.p 1 ab rfl,aK cT.p 2 ab rfl]
 refine (ui (al.ls.ext X) Ω).mono ?_;rintro af aa _ ⟨ad,W,au,Y⟩;refine⟨.inl ad,?_⟩;rw[c8 (cs:=#[sv,Δ k,af]) (by obtain⟨_,_,_,rfl⟩:=b7 hm.ls;obtain⟨_,_,_,rfl⟩:=b7 Y.ls;kernel_rfl)];refine bP λU av aw ag an=>?_;have ax:=X.size;have ay:=ad.size;have aA:=Y;have ah:=(X.trans ad).trans ag;refine⟨ah,U,W,rfl,Ω,Ω,⟨af,gs,an,hm.ext ah,Y.ext ag⟩,⟨?_,?_,am⟩,J,ae⟩
 .have:=oF Y (by rw[ae];omega);omega
 .intro ao;obtain⟨aB,aC⟩:=bz hm ao;omega
theorem Li {w0:x2} {af:Nat} {n:aY} {g:cu} (ag:fE w0 af n) (ah:Ext w0 w) (W:n.funs[j]? =σ g):ai x3 EQ [Γ af,Δ (j:Int)] w λv w'=>Ext w w'/\ ∃J X sv,v=Γ J/\w.heap.size<=J/\w.heap.size<=X/\cV w' J X sv (bI n.sizes g.1) n.k g.2/\ ∀r,leads sv r-> ∃c,ad w0 r ac c:=by
 have h:=ag.ext ah;refine az func114 ?_;have aB:=(x4.1 W).1;refine aR (λv V=>v= .bool (decide (¬(0<=(j:Int)/\(j:Int)<n.funs.length)))/\Ext w V) ?_ λaC an=>BO h λw' ao=>an _ _ ⟨rfl,ao⟩;rintro _ V ⟨rfl,Y⟩;rw[decide_eq_false Ω,aT];have U:=ah.trans Y;obtain⟨aD,aE,aF,aG,gr,aV,L,nm,szv,gz,fv2,h1,aH,aI,aJ,aL,ab,aj⟩:=ag;have aO:L.length=n.funs.length:=by rw[<-aj,u5]
 obtain⟨a,ae⟩:=aN (l:=L) (i:=j) Ω;have ap:dM a=g:=by rw[<-aj,u4,ae] at W;exact Z9 W
 obtain⟨_,X,aq,ak⟩:=ab.2 a (x5 ae);rw[aK fg.p 3 (h1.ext U) rfl,cE rfl ka.u gN.i (ab.1.ext U) Ω,aM gN.p rfl,aS Ψ ((ab.1.ext U).range ae 1 _ rfl)];refine (Lh (ak.ext U)).mono ?_;rintro v aa _ ⟨au,J,av,rfl,aP,aQ,aw⟩;have aU:=Y.size;refine⟨Y.trans au,J,av,aq,rfl,Ω,Ω,?_,λr al=>?_⟩
 .rw[<-ap];exact aw
 .obtain⟨⟨_,_,_,hm,_⟩,_⟩:=ak;obtain⟨ax,_⟩:=bz hm al;rcases hm.2 with⟨ay,_⟩|⟨_,cs,_,aA,_⟩
  .obtain⟨_,_,_,am,aW⟩:=al;rw[ay] at am;cases am
  .exact⟨cs,ax▸aA⟩
structure oL where
 ax:y0
 szv:y0
 at_:Nat
def jK (x:oL):List y0:=[x.ax,x.szv,Δ (x.at_:Int)]
structure nk where
 v:Int
 ax:y0
 bv:y0
def hT (x:nk):List y0:=[Δ x.v,x.ax,x.bv]
def gZ (s:aB):Λ:=(V0 s.vars.length).map λi=>(eY s i:Int)
def il (R:ah) (w:x2) (v:y0) (l:Λ):Prop:=(∃g,ao .i64 ac w g v l)/\ ∀r,leads v r->R r
theorem il.ls {R:ah} (h:il R w v l):aH .i64 w v l:=by
 obtain⟨⟨g,h⟩,_⟩:=h;exact h.ls
theorem il.ab {R S:ah} (h:il R w v l) (V:ae S w w') (W:∀r,r<w.heap.size->R r->¬S r):il R w' v l:=by
 obtain⟨⟨g,h1⟩,J⟩:=h;exact⟨⟨g,be h1 V λr U=>W r (by obtain⟨X,Y⟩:=bz h1 U;omega) (J r U)⟩,J⟩
theorem il.mono {R R':ah} (h:il R w v l) (J:∀r,R r->R' r):il R' w v l:=⟨h.1,λr U=>J r (h.2 r U)⟩
def jk (R:ah) (w:x2) (L:List oL) (s:aB):Prop:=L.length=s.funs.length/\ ∀ (j:Nat) x f,L[j]? =σ x->s.funs[j]? =σ f->il R w x.ax f.sc/\il R w x.szv f.szs/\x.at_=ei s j
def kw (R:ah) (w:x2) (E:List nk) (s:aB):Prop:=E.length=s.elims.length/\ ∀ (j:Nat) x e,E[j]? =σ x->s.elims[j]? =σ e->x.v=e.v/\il R w x.ax e.sc/\il R w x.bv e.dl
theorem jk.ab {R S:ah} {L:List oL} {s:aB} (h:jk R w L s) (J:ae S w w') (U:∀r,r<w.heap.size->R r->¬S r):jk R w' L s:=⟨h.1,λj x f V W=>by
 obtain⟨h1,X,Y⟩:=h.2 j x f V W;exact⟨h1.ab J U,X.ab J U,Y⟩⟩
theorem kw.ab {R S:ah} {E:List nk} {s:aB} (h:kw R w E s) (J:ae S w w') (U:∀r,r<w.heap.size->R r->¬S r):kw R w' E s:=⟨h.1,λj x f V W=>by
 obtain⟨h1,X,Y⟩:=h.2 j x f V W;exact⟨h1,X.ab J U,Y.ab J U⟩⟩
theorem jk.mono {R R':ah} {L:List oL} {s:aB} (h:jk R w L s) (J:∀r,R r->R' r):jk R' w L s:=⟨h.1,λj x f U V=>by
 obtain⟨h1,W,X⟩:=h.2 j x f U V;exact⟨h1.mono J,W.mono J,X⟩⟩
theorem kw.mono {R R':ah} {E:List nk} {s:aB} (h:kw R w E s) (J:∀r,R r->R' r):kw R' w E s:=⟨h.1,λj x f U V=>by
 obtain⟨h1,W,X⟩:=h.2 j x f U V;exact⟨h1,W.mono J,X.mono J⟩⟩
theorem oM {a b c:x2} (h:Ext a b) (k:ae S b c) (V:∀r o,a.heap[r]? =σ o->fw o=true->¬S r):Ext a c:=
 ⟨X8 h.size k.size,λr o U J=>k.bc r o (h.bc r o U J) J (V r o U J)⟩
theorem cX.cut {A:ah} {t:aC} (h:cX w ag A t):cX w ag (λr=>A r/\r<w.heap.size) t:=by
 obtain⟨aa,ab,go,cN,aI,ac,cG,h1,U,V,W,ad⟩:=h;refine⟨⟨aa,h1.lt⟩,ab,go,cN,aI,ac,cG,h1,U,V,W,λr J=>⟨ad r J,?_⟩⟩;rcases J with J|J|J
 .obtain⟨X,Y⟩:=U.leads J;omega
 .obtain⟨X,Y⟩:=V.leads J;omega
 .obtain⟨X,Y⟩:=W.leads J;omega
def ek (w:x2) (aj ag X:Nat) (U V W:y0) (A R:ah) (n:aY) (s:aB) (t:aC):Prop:=
 (A aj/\(∀r,A r->¬R r)/\(∀r,R r->r<w.heap.size)/\ ∀r,A r->r<w.heap.size)/\ ∃Y aa ge,∃ (L:List oL) (E:List nk) (J:ah) (w0:x2),
  ad w aj bF [Γ X,Γ ag,U,V,W]/\(fE w0 X n/\Ext w0 w/\ ∀r o,w0.heap[r]? =σ o->fw o=true->R r)/\
  (cX w ag J t/\(∀r,J r->A r)/\¬J aj/\ ∀r,leads U r\/leadsTo V r\/leadsTo W r->A r/\¬J r)/\ao .i64 ac w Y U (gZ s)/\
  (bb jK 3 cL w aa V L/\jk R w L s)/\bb hT 3 bW w ge W E/\kw R w E s
theorem ek.ab {S:ah} {ad:Nat} {af ai ak:y0} {A R:ah} {n:aY} {s:aB} {t:aC} (h:ek w aj ag ad af ai ak A R n s t) (V:ae S w w') (W:∀r,r<w.heap.size->A r\/R r->¬S r):ek w' aj ag ad af ai ak A R n s t:=by
 obtain⟨⟨h1,X,az,aA⟩,aD,aE,ge,L,E,aF,w0,al,⟨aG,am,an⟩,⟨aH,Y,aJ,aa⟩,ao,⟨ap,aK⟩,aq,aL⟩:=h;have z:=V.size;refine⟨⟨h1,X,λr U=>by have:=az r U;omega,λr U=>by have:=aA r U;omega⟩,aD,aE,ge,L,E,aF,w0,al.ab V (W _ al.lt (.inl h1)),⟨aG,oM am V λr o U aM J=>W r (by have:=am.size;have:=(Z1.1 U).1;omega) (.inr (an r o U aM)) J,an⟩,
  ⟨?_,Y,aJ,aa⟩,be ao V λr U J=>W r ?_ (.inl (aa r (.inl U)).1) J,⟨ap.ab V λr U J=>W r ?_ (.inl (aa r (.inr (.inl U))).1) J,aK.ab V λr U h=>W r U (.inr h)⟩,aq.ab V λr U J=>W r ?_ (.inl (aa r (.inr (.inr U))).1) J,aL.ab V λr U h=>W r U (.inr h)⟩
 .obtain⟨au,aN,go,cN,aI,aO,cG,av,aw,ax,ay,ac⟩:=aH;refine⟨au,aN,go,cN,aI,aO,cG,av.ab V (W _ av.lt (.inl (Y _ au))),aw.ab V λr U J=>?_,ax.ab V λr U J=>?_,ay.ab V λr U J=>?_,ac⟩
  .exact W r (by obtain⟨h1,X⟩:=aw.leads U;omega) (.inl (Y _ (ac r (.inl U)))) J
  .exact W r (by obtain⟨h1,X⟩:=ax.leads U;omega) (.inl (Y _ (ac r (.inr (.inl U))))) J
  .exact W r (by obtain⟨h1,X⟩:=ay.leads U;omega) (.inl (Y _ (ac r (.inr (.inr U))))) J
 .obtain⟨h1,X⟩:=bz ao U;omega
 .obtain⟨h1,X⟩:=ap.leads U;omega
 .obtain⟨h1,X⟩:=aq.leads U;omega
theorem ek.ext {U V W:y0} {A R:ah} {n:aY} {s:aB} {t:aC} (h:ek w aj ag J U V W A R n s t) (X:Ext w w'):ek w' aj ag J U V W A R n s t:=h.ab (X.ab λ_=>False) λ_ _ _ h=>h
theorem ek.qc {af:Nat} {ai ak al:y0} {A R:ah} {n:aY} {s:aB} {t:aC} (h:ek w aj ag af ai ak al A R n s t):∃aa,cX w ag aa t/\ ∀Y w' bD,Grow aa w Y w'->cX w' ag Y bD-> ∃aG,Grow A w aG w'/\ek w' aj ag af ai ak al aG R n s bD:=by
 obtain⟨⟨h1,W,am,an⟩,aA,aD,ge,L,E,aa,w0,ao,⟨aE,aF,ap⟩,⟨aH,X,aq,ac⟩,au,⟨av,aI⟩,aw,aJ⟩:=h;refine⟨aa,aH,λax w' bD ad aK=>?_⟩;have ay:=aK.cut;have V:Grow aa w (λr=>ax r/\r<w'.heap.size) w':=⟨ad.1,λr U=>ad.2.1 r U.1,λr U=>⟨ad.2.2 r U,by have:=an r (X r U);have:=ad.1.size;omega⟩⟩;obtain⟨Y,az⟩:∃B:ah,B=λr=>ax r/\r<w'.heap.size:=⟨_,rfl⟩;rw[<-az] at ay V;have aL:∀r,Y r->r<w'.heap.size:=λr h=>by rw[az] at h;exact h.2
 refine⟨λr=>A r\/Y r,⟨V.1.mono λr _ U=>X r U,λr U=>?_,λr U=>.inl U⟩,⟨.inl h1,λr U ae=>?_,λr U=>?_,λr U=>?_⟩,aA,aD,ge,L,E,Y,w0,ao.ab V.1 aq,⟨aE,oM aF V.1 λr o U aM J=>W r (X r J) (ap r o U aM),ap⟩,
  ⟨ay,λr U=>.inr U,λU=>?_,λr U=>⟨.inl (ac r U).1,λaN=>?_⟩⟩,be au V.1 λr U J=>(ac r (.inl U)).2 J,⟨av.ab V.1 λr U J=>(ac r (.inr (.inl U))).2 J,aI.ab V.1 λr _ U J=>W r (X r J) U⟩,aw.ab V.1 λr U J=>(ac r (.inr (.inr U))).2 J,aJ.ab V.1 λr _ U J=>W r (X r J) U⟩
 .rcases U with U|U
  .exact .inl U
  .exact (V.2.1 r U).imp (X r) id
 .have:=am r ae;rcases U with U|U
  .exact W r U ae
  .rcases V.2.1 r U with h|h
   .exact W r (X r h) ae
   .omega
 .have:=am r U;have:=V.1.size;omega
 .rcases U with U|U
  .have:=an r U;have:=V.1.size;omega
  .exact aL r U
 .rcases V.2.1 _ U with h|h
  .exact aq h
  .have:=ao.lt;omega
 .rcases V.2.1 r aN with h|h
  .exact (ac r U).2 h
  .rcases U with U|U|U
   .obtain⟨h1,W⟩:=bz au U;omega
   .obtain⟨h1,W⟩:=av.leads U;omega
   .obtain⟨h1,W⟩:=aw.leads U;omega
def StateM (w:x2) (aj ag:Nat) (A R:ah) (n:aY) (s:aB) (t:aC):Prop:=∃J U V W,ek w aj ag J U V W A R n s t
theorem StateM.ab {S:ah} {A R:ah} {n:aY} {s:aB} {t:aC} (h:StateM w aj ag A R n s t) (J:ae S w w') (U:∀r,r<w.heap.size->A r\/R r->¬S r):StateM w' aj ag A R n s t:=by
 obtain⟨V,W,X,Y,h⟩:=h;exact⟨V,W,X,Y,h.ab J U⟩
theorem StateM.ext {A R:ah} {n:aY} {s:aB} {t:aC} (h:StateM w aj ag A R n s t) (J:Ext w w'):StateM w' aj ag A R n s t:=h.ab (J.ab λ_=>False) λ_ _ _ h=>h
theorem StateM.qc {A R:ah} {n:aY} {s:aB} {t:aC} (h:StateM w aj ag A R n s t):∃J,cX w ag J t/\ ∀U w' bD,Grow J w U w'->cX w' ag U bD-> ∃aG,Grow A w aG w'/\StateM w' aj ag aG R n s bD:=by
 obtain⟨V,W,X,Y,h⟩:=h;obtain⟨J,h1,aa⟩:=h.qc;exact⟨J,h1,λU w' bD ab ac=>by
  obtain⟨aG,ad,ae⟩:=aa U w' bD ab ac;exact⟨aG,ad,V,W,X,Y,ae⟩⟩
def jl (s s':aB):Prop:=gZ s'=gZ s/\s'.funs.length=s.funs.length/\(∀ (j:Nat) J,s'.funs[j]? =σ J-> ∃f,s.funs[j]? =σ f/\J.sc=f.sc/\J.szs=f.szs/\ei s' j=ei s j)/\s'.elims=s.elims
theorem ek.same {U:Nat} {V W X:y0} {A R:ah} {n:aY} {s s':aB} {t:aC} (h:ek w aj ag U V W X A R n s t) (J:jl s s'):ek w aj ag U V W X A R n s' t:=by
 obtain⟨aw,aa,ab,ge,L,E,ac,w0,ad,ae,af,ai,⟨ak,Y⟩,al,am⟩:=h;obtain⟨an,ao,ap,aq⟩:=J;refine⟨aw,aa,ab,ge,L,E,ac,w0,ad,ae,af,by rw[an];exact ai,⟨ak,Y.1.trans ao.symm,λj x au av ax=>?_⟩,al,?_⟩
 .obtain⟨f,ay,az,aA,aD⟩:=ap j au ax;rw[az,aA,aD];exact Y.2 j x f av ay
 .unfold kw;rw[aq];exact am
theorem StateM.same {A R:ah} {n:aY} {s s':aB} {t:aC} (h:StateM w aj ag A R n s t) (J:jl s s'):StateM w aj ag A R n s' t:=by
 obtain⟨U,V,W,X,h⟩:=h;exact⟨U,V,W,X,h.same J⟩
theorem sF {α β:Type} {f:α->List β}:∀ {L:List α} {i j:Nat} {a b:α},L[i]? =σ a->(f b).length=(f a).length->(((L.set i b).take j).flatMap f).length=((L.take j).flatMap f).length
 |[],_,_,_,_,h,_=>by simp at h
 |x::L,0,j,a,b,h,J=>by
  cases h;cases j with
  |zero=>rfl
  |succ j=>simp[J]
 |x::L,i+1,j,a,b,h,J=>by
  have h:L[i]? =σ a:=by simpa using h
  cases j with
  |zero=>rfl
  |succ j=>
   rw[List.set_cons_succ,List.take_succ_cons,List.take_succ_cons,X3,X3,r8,r8,sF h J]
theorem vu (s:aB) (c:Int):jl s {s with zero:=c}:=⟨rfl,rfl,λj f h=>⟨f,h,rfl,rfl,rfl⟩,rfl⟩
theorem qd {s:aB} {i:Nat} {x y:eX} (J:s.vars[i]? =σ x) (V:y.un.length=x.un.length):jl s {s with vars:=s.vars.set i y}:=by
 have U:(gY y).length=(gY x).length:=by simp[gY,V]
 refine⟨?_,rfl,λj f h=>⟨f,h,rfl,rfl,?_⟩,rfl⟩
 .unfold gZ;rw[show ({s with vars:=s.vars.set i y}:aB).vars.length=s.vars.length from W0];apply List.map_congr_left;intro j _;unfold eY;rw[sF J U]
 .unfold ei;have:=sF (j:=s.vars.length) J U;rw[n0 Ξ,n0 (n9 _)] at this;show 3+(((s.vars.set i y).flatMap gY).length+_)=_;rw[this]
theorem sG {s:aB} {i:Nat} {x y:dE} (J:s.funs[i]? =σ x) (V:y.cs.length=x.cs.length) (h1:y.sc=x.sc) (W:y.szs=x.szs):jl s {s with funs:=s.funs.set i y}:=by
 have X:(gk y).length=(gk x).length:=by simp[gk,V]
 refine⟨rfl,W0,λj f h=>?_,rfl⟩;have h:(s.funs.set i y)[j]? =σ f:=h;have e:ei {s with funs:=s.funs.set i y} j=ei s j:=by
  unfold ei;show 3+(_+(((s.funs.set i y).take j).flatMap gk).length)=_;rw[sF J X]
 by_cases U:i=j
 .subst U;rw[U5 (x4.1 J).1] at h;cases h;exact⟨x,J,h1,W,e⟩
 .rw[V3 U] at h;exact⟨f,h,rfl,rfl,e⟩
theorem aC.vv (t:aC) (i:Nat) (x:Int):(t.set i x).marks=t.marks:=by
 unfold aC.set;cases t.cells[i]? with
 |none=>rfl
 |some c=>
  simp only;cases t.marks.getLast? with
  |none=>rfl
  |some m=>simp only;split<;>rfl
theorem aC.oN (t:aC) (i:Nat) (x:Int):(t.set i x).ever=t.ever:=by
 unfold aC.set;cases t.cells[i]? with
 |none=>rfl
 |some c=>
  simp only;cases t.marks.getLast? with
  |none=>rfl
  |some m=>simp only;split<;>rfl
theorem aC.BP (t:aC) (i:Nat) (x:Int):(t.set i x).cells.length=t.cells.length:=by
 have h:=congrArg T9 (aC.n7 (t:=t) (i:=i) (x:=x));rw[W0] at h;unfold aC.b3 at h;rwa [u5,u5] at h
theorem aC.vw (t:aC) (i:Nat) (x:Int):(t.set i x).olds.length<=t.olds.length+1:=by
 unfold aC.set;cases t.cells[i]? with
 |none=>exact R6 _
 |some c=>
  simp only;cases t.marks.getLast? with
  |none=>exact R6 _
  |some m=>simp only;split<;>simp
theorem aC.vx {t:aC} (h:t.marks=[]) (i:Nat) (x:Int):(t.set i x).olds=t.olds:=by
 unfold aC.set;cases t.cells[i]? with
 |none=>rfl
 |some c=>simp only[h,List.getLast?_nil]
def fb (t:aC) (l:Λ):Nat->aC
 |0=>t.grow l.length
 |i+1=>(fb t l i).set (t.cells.length+i) (l.getD i 0)
def hU (t:aC) (l:Λ):aC:=fb t l l.length
theorem nl (t:aC) (l:Λ):∀i,(fb t l i).marks=t.marks
 |0=>rfl
 |i+1=>(aC.vv _ _ _).trans (nl t l i)
theorem vy (t:aC) (l:Λ):∀i,(fb t l i).ever=t.ever
 |0=>rfl
 |i+1=>(aC.oN _ _ _).trans (vy t l i)
theorem qe (t:aC) (l:Λ):∀i,(fb t l i).cells.length=t.cells.length+l.length
 |0=>by simp[fb,aC.grow]
 |i+1=>(aC.BP _ _ _).trans (qe t l i)
theorem qf (t:aC) (l:Λ):∀i,(fb t l i).olds.length<=t.olds.length+i
 |0=>n9 _
 |i+1=>by have:=aC.vw (fb t l i) (t.cells.length+i) (l.getD i 0);have:=qf t l i;show (aC.set _ _ _).olds.length<=_;omega
theorem BQ {t:aC} (h:t.marks=[]) (l:Λ):∀i,(fb t l i).olds=t.olds
 |0=>rfl
 |i+1=>(aC.vx ((nl t l i).trans h) _ _).trans (BQ h l i)
theorem BR (t:aC) (l:Λ):∀i,i<=l.length->(fb t l i).b3=t.b3++(l.take i++o8 (l.length-i) 0)
 |0,_=>by rw[List.take_zero,List.nil_append];exact aC.G1
 |i+1,h=>by
  have J:=BR t l i Ω;show (aC.set _ _ _).b3=_;have U:t.b3.length=t.cells.length:=by simp[aC.b3]
  rw[aC.n7,J,T6 _ _ Ω,U,Q1,T6 _ _ (by rw[o5];omega),o5,S4 Ω,V9,show l.length-i=(l.length-(i+1))+1 by omega,List.replicate_succ,List.set_cons_zero,r9,u9,x6 (show i<l.length by omega)];simp only[j6,S1,Z4,List.singleton_append]
theorem BS (t:aC) (l:Λ):(hU t l).b3=t.b3++l:=by
 unfold hU;rw[BR t l _ (n9 _),o9,V9,List.replicate_zero,X6]
theorem eC.fb {h:List aC} {t:aC} (hk:eC t h) (l:Λ):∀i,eC (fb t l i) h
 |0=>hk.grow
 |i+1=>(eC.fb hk l i).set
theorem gU {s:Go.Sem y0} {x:y0} (h:U x3 s w (λv=>v=x)):bw x3 s x w:=by
 obtain⟨v,h,rfl⟩:=h;exact h
theorem sH {off:Nat} {z:Nat} {J:o4} {cs:List y0} {x:y0} (V:ad w aj e cs) (W:∀ (K:y0->Prop),U x3 (x8 bF (Γ aj) z) w K=K (.pointer (σ ⟨aj,0+off,ν⟩))) (X:kd x3 J=true) (Y:cs[0+off]? =σ x):
  bw x3 (x7 J (.pointer (σ ⟨aj,0+off,ν⟩))) x w/\bw x3 (x8 bF (Γ aj) z) (.pointer (σ ⟨aj,0+off,ν⟩)) w/\bw x3 (bd (Γ aj)) (Γ aj) w/\True:=
 ⟨iF X (V.cell Y),gU (by rw[W]),gU (by rw[bu]),trivial⟩
def BT (w:x2) (r:Nat):Prop:=∃e c,ad w r e c/\(e=cQ\/e=dP\/e=fx\/e=dC\/e=bF\/e=cL\/e=bW)
def cI (w:x2) (r:Nat):Prop:=BT w r\/ ∀o,w.heap[r]? =σ o->fw o≠true
theorem jL {V:x2} {r:Nat} (hk:∀o,w.heap[r]? =σ o->fw o=true->¬cI w r->V.heap[r]? =σ o) (h:cI V r):cI w r:=by
 by_cases U:cI w r
 .exact U
 .refine absurd (.inr λo X J=>?_) U;have h1:=hk o X J U;rcases h with⟨e,c,W,he⟩|Y
  .refine U (.inl ⟨e,c,?_,he⟩);unfold ad at W ⊢;rw[h1] at W;rw[X];exact W
  .exact Y o h1 J
theorem kx {V aa:x2} (U:Ext w V) (W:ae (cI V) V aa):ae (cI w) w aa:=(U.ab _).trans (W.mono λr _ h=>jL (λo X J _=>U.bc r o X J) h)
theorem qg {V aa:x2} (h:ae (cI w) w V) (U:ae (cI V) V aa):ae (cI w) w aa:=h.trans (U.mono λr _ W=>jL (λo X J Y=>h.bc r o X J Y) W)
theorem cX.min {A:ah} {t:aC} (h:cX w ag A t):cX w ag (λr=>A r/\BT w r) t:=by
 obtain⟨Y,aa,go,cN,aI,ab,cG,h1,V,W,X,ac⟩:=h;refine⟨⟨Y,_,_,h1,.inl rfl⟩,aa,go,cN,aI,ab,cG,h1,V,W,X,λr J=>⟨ac r J,?_⟩⟩;rcases J with J|J|J
 .obtain⟨rfl,c,U⟩:=dy V J;exact⟨_,c,U,.inr (.inl rfl)⟩
 .obtain⟨rfl,c,U⟩:=dy W J;exact⟨_,c,U,.inr (.inr (.inl rfl))⟩
 .obtain⟨rfl,c,U⟩:=dy X J;exact⟨_,c,U,.inr (.inr (.inr (.inl rfl)))⟩
theorem ek.l2 {Y aa ab:y0} {A R:ah} {n:aY} {s:aB} {t:aC} (h:ek w aj ag X Y aa ab A R n s t):∃J,cX w ag J t/\ ∀ac w' bD,Grow J w ac w'->cX w' ag ac bD->ae (cI w) w w'/\ ∃aG,Grow A w aG w'/\ek w' aj ag X Y aa ab aG R n s bD:=by
 obtain⟨J,ad,af⟩:=h.qc;refine⟨_,ad.min,λai V bD U ak=>⟨U.1.mono λr _ h=>.inl h.2,?_⟩⟩;exact af (λr=>J r\/ai r) V _ ⟨U.1.mono λr _ h=>h.1,λr W=>W.elim .inl λh=>(U.2.1 r h).imp (λh=>h.1) id,λr W=>.inl W⟩ (ak.mono λr h=>.inr h)
theorem BU {Y:Nat} {ab ac ad:y0} {A R:ah} {n:aY} {s:aB} {t:aC} {U:y0} (h:ek w aj ag Y ab ac ad A R n s t) (af:aH .i64 w U l) (ax:∀r,leads U r->¬A r) (bc:t.cells.length+l.length<=100000000) (bd:t.olds.length+l.length<=100000000) (hm:t.marks.length<=100000000):
  ai x3 x9 [Γ aj,U] w λv w'=>v=Δ (t.cells.length:Int)/\ae (cI w) w w'/\ ∃aG,Grow A w aG w'/\ek w' aj ag Y ab ac ad aG R n s (hU t l):=by
 refine az func110 ?_;obtain⟨_,ay,aA,ge,L,E,_,w0,al,_⟩:=id h;obtain⟨aD,am,ao⟩:=h.l2;rw[aK bF.p 1 al rfl,aU au.u af];refine (K5 (n:=l.length) am ⟨Ω,Ω,hm⟩ Ω).mono ?_;rintro _ V _ ⟨rfl,aE,aF,aI⟩;obtain⟨aJ,aM,aq,aO⟩:=ao aE V _ aF aI;have av:∀ {aG:ah} {w':x2},Grow A w aG w'->aH .i64 w' U l:=λaP=>iZ af aP.1 λr aR a aS c aT aV=>ax r ⟨a,aS,c,aT,aV⟩ aR;rw[aU au.u (av aq)];have aW:=af.le;refine b0.range l.length (λi aa=>ae (cI w) w aa/\ ∃J,Grow A w J aa/\ek aa aj ag Y ab ac ad J R n s (fb t l i)) aW ⟨aJ,aM,aq,aO⟩ ?_ ?_
 .rintro i aa k hi ⟨ap,J,W,X⟩ hk;refine bk Ω ?_;obtain⟨x,aw⟩:=aN (l:=l) hi;rw[bf au.u an.i Ψ (av W) aw];obtain⟨_,ay,aA,ge,L,E,_,w0,al,_⟩:=id X;obtain⟨aD,am,ao⟩:=X.l2;have be:=qe t l i;have bg:=qf t l i;have aX:=nl t l i;rw[aK bF.p 1 al rfl,aL,wrap_i64 Ω Ω];refine (p9 (i:=t.cells.length+i) am Ω Ω ⟨Ω,Ω,by rw[aX];exact hm⟩).mono ?_;rintro _ aZ _ ⟨rfl,a1,a2,a6⟩;obtain⟨a7,a8,ba,bb⟩:=ao a1 aZ _ a2 a6;rw[aL];refine hk _ ⟨qg ap a7,a8,W.trans ba,?_⟩;have e:fb t l (i+1)=(fb t l i).set (t.cells.length+i) x:=by
   show (fb t l i).set _ (l.getD i 0)=_;rw[u9,aw];rfl
  rw[e];exact bb
 .rintro aa k ⟨ap,J,W,X⟩;rw[aQ,ak];exact⟨λh=>Ω,λ_=>⟨rfl,ap,J,W,X⟩⟩
def gl (s:aB) (sc szs cs:Λ):aB:={s with funs:=s.funs++[⟨sc,szs,1,cs⟩]}
def lj (s:aB) (t:aC) (cs:Λ):aC:=(hU t (1::cs)).set 1 ((s.funs.length+1:Nat):Int)
theorem BV {s:aB} {t:aC} {sc:Λ} (h:t.b3=s.cells):(lj s t cs).b3=(gl s sc szs cs).cells:=by
 unfold lj gl;rw[aC.n7,BS,h,<-Lb];rfl
theorem BW {br:Nat} {bt a2 bx:y0} {A R:ah} {n:aY} {s:aB} {t:aC} {ax:y0} {sc:Λ} {g b6:Nat} {aw:y0}
  (h:ek w aj ag br bt a2 bx A R n s t) (cB:t.b3=s.cells) (cC:aH .i64 w ax sc) (dL:∀r,leads ax r->¬A r) (bA:cV w g b6 aw szs k cs) (b8:¬A g/\¬A b6/\ ∀r,leads aw r->¬A r) (dM:sc.length<=1000)
  (bc:t.cells.length+cs.length+1<=100000000) (bB:t.olds.length+cs.length+1<=100000000) (hm:t.marks.length<=100000000) (dN:s.funs.length<=1000000):
  ai x3 EO [Γ aj,ax,Γ g] w λv w'=>v=Δ (s.funs.length:Int)/\ae (cI w) w w'/\ ∃aG R' bN,Grow A w aG w'/\ek w' aj ag br bt bN bx aG R' n (gl s sc szs cs) (lj s t cs)/\(∀r,R r->R' r)/\ ∀r,R' r->R r\/leads aw r\/w.heap.size<=r:=by
 have dO:t.cells.length=s.cells.length:=by rw[<-cB];simp[aC.b3]
 have dP:=qa s;have cD:ei (gl s sc szs cs) s.funs.length=t.cells.length:=by
  unfold ei gl;simp only[List.take_left];omega
 have cE:∀j,j<s.funs.length->ei (gl s sc szs cs) j=ei s j:=λj bO=>by
  unfold ei gl;simp only[List.take_append_of_le_length (show j<=s.funs.length by omega)]
 have cF:gZ (gl s sc szs cs)=gZ s:=rfl;refine az func112 ?_;refine dv (λV=>ae (cI w) w V/\ ∃aG R' bN,Grow A w aG V/\ek V aj ag br bt bN bx aG R' n (gl s sc szs cs) (hU t (1::cs))/\(∀r,R r->R' r)/\ ∀r,R' r->R r\/leads aw r\/w.heap.size<=r) ?_ ?_
 .rintro V ⟨cG,dQ,cH,cJ,cK,cM,cN,cO⟩;intro aa bP _ _;have b9:=cM.ext bP;obtain⟨_,bC,bQ,ge,L,E,_,w0,aN,_,_,_,⟨bk,bD⟩,_⟩:=id b9;have bE:L.length=s.funs.length+1:=by rw[bD.1];simp[gl]
  rw[aK bF.p 1 aN rfl,aK bF.p 3 aN rfl,dt ed.u bk];obtain⟨ca,cP,cQ⟩:=b9.l2;have cR:=qe t (1::cs) (1::cs).length;have cS:=qf t (1::cs) (1::cs).length;have cT:=nl t (1::cs) (1::cs).length;simp only[Z5] at cR cS;refine (p9 (i:=1) (y:=1) cP rfl (by show 1<(fb _ _ _).cells.length;simp only[Z5];omega) ⟨by show (fb _ _ _).cells.length<=_;simp only[Z5];omega,by show (fb _ _ _).olds.length<=_;simp only[Z5];omega,by show (fb _ _ _).marks.length<=_;rw[cT];exact hm⟩).mono ?_;rintro _ cU _ ⟨rfl,cW,cX,cY⟩;obtain⟨cZ,c1,c2,cb⟩:=cQ cW cU _ cX cY;obtain⟨_,bC,bQ,ge,c3,E,_,w0,aN,_,_,_,⟨bk,c4⟩,_⟩:=id cb;have dR:c3.length=s.funs.length+1:=by rw[c4.1];simp[gl]
  rw[aK bF.p 3 aN rfl,dt ed.u bk,dj,wrap_i64 Ω Ω];refine⟨by congr 1;omega,qg cG (kx bP cZ),c1,cH,cJ,cK.trans ((Grow.ext bP).trans c2),?_,cN,cO⟩;have e:lj s t cs=(hU t (1::cs)).set 1 (L.length:Int):=by unfold lj;rw[bE]
  rw[e];exact cb
 intro c5 c6;intro aW a6 _ _;have cc:=h.ext a6;obtain⟨_,bC,bQ,ge,L,E,_,w0,aN,_⟩:=id cc;rw[aK bF.p 3 aN rfl];have z4:=a6.size;have bG:∀ {Y:x2} {aF aA:y0} {bf aI:Nat},Ext aW Y->w.heap.size<=bf->w.heap.size<=aI->ao .i64 ac Y bf aF sc->ao .i64 an Y aI aA (1::cs)->(∀r,leads aF r\/leads aA r->¬A r)->
   ai x3 x9 [Γ aj,aA] Y λc7 aO=>
    (Ext aW aO\/bw x3 (x7 ed (.pointer (σ ⟨aj,0+3,ν⟩))) a2 aO/\bw x3 (x8 bF (Γ aj) 3) (.pointer (σ ⟨aj,0+3,ν⟩)) aO/\bw x3 (bd (Γ aj)) (Γ aj) aO/\True)/\
    U x3 (Instr.build cL #[(0,aF),(1,.agg #[aw]),(2,c7)]) aO λt22=>
    ay x3 (Y1 ed 1 #[(0,t22)]) aO λc9 aP=>
     (Ext aW aP\/bw x3 (x7 ed (.pointer (σ ⟨aj,0+3,ν⟩))) a2 aP/\bw x3 (x8 bF (Γ aj) 3) (.pointer (σ ⟨aj,0+3,ν⟩)) aP/\bw x3 (bd (Γ aj)) (Γ aj) aP/\True)/\
    ay x3 (j4 #[ed,ed] ed #[a2,c9]) aP λda bH=>
     U x3 (bd (Γ aj)) bH λt25=>
     U x3 (x8 bF t25 3) bH λdb=>
     ay x3 (o7 ed db da) bH λ(_:Unit) a7=>
      c5 a7:=by
  intro Y aF aA bf aI af cd aD ak am bR;have dc:=cc.ext af;refine (BU dc am.ls (λr W=>bR r (.inr W)) (by simp only[Z5];omega) (by simp only[Z5];omega) hm).mono ?_;rintro _ aO _ ⟨rfl,dd,bl,bg,df⟩;obtain⟨⟨ce,cg,dg,ch⟩,bC,bQ,ge,L,E,ca,w0,aN,⟨dh,di,ci⟩,⟨dk,cj,ck,aX⟩,bS,⟨bk,bD⟩,bT,dl⟩:=id df;have aU:ao .i64 ac aO bf aF sc:=be ak bg.1 λr W=>bR r (.inl W);have bI:ao .i64 ac Y (Classical.choose (show ∃gs,ao .i64 ac w gs aw szs from by obtain⟨⟨_,gs,_,q,_⟩,_⟩:=bA;exact⟨gs,q⟩)) aw szs:=((Classical.choose_spec (show ∃gs,ao .i64 ac w gs aw szs from by obtain⟨⟨_,gs,_,q,_⟩,_⟩:=bA;exact⟨gs,q⟩)).ext a6).ext af;have dm:=be bI bg.1 b8.2.2;refine⟨.inr (sH (off:=3) (z:=3) aN (λK=>by rw[aM bF.p rfl]) Ψ rfl),?_⟩;rw[c8 (cs:=#[aF,aw,Δ (t.cells.length:Int)]) (by obtain⟨_,_,_,rfl⟩:=b7 ak.ls;obtain⟨_,_,_,rfl⟩:=b7 bI.ls;kernel_rfl)];let a:oL:=⟨aF,aw,t.cells.length⟩;have dn:∀u∈jK a,u.oneCell'=true:=by
   intro u hu;simp[jK] at hu;rcases hu with rfl|rfl|rfl
   .exact ak.ls.cells.2
   .exact bI.ls.cells.2
   .rfl
  refine gg (f:=jK) (a:=a) ed.u cL.i Ω rfl rfl λdS dT aP dU al dp=>?_;refine⟨.inr (sH (off:=3) (z:=3) (aN.ext al) (λK=>by rw[aM bF.p rfl]) Ψ rfl),?_⟩;have bm:=bk.ext al;have bE:L.length=s.funs.length:=bD.1;refine gB (f:=jK) (a:=a) ed.u cL.i rfl bm (by simpa using dp.sl) dn Ω Ω λcl dq bH bn dr cm=>?_;have bo:=aN.ext al;have cp:=bo.ab cm λhe=>cn bm bo Φ he;rw[bu,aM bF.p rfl];refine bj ed.i (de bn.sl).1 (de bn.sl).2 cp Ξ λa7 bU dV bV=>?_;have bV:ad a7 aj bF [Γ br,Γ ag,bt,cl,bx]:=bV;have aQ:ae (λr=>leadsTo a2 r\/r=aj) aP a7:=(cm.mono λr _ h=>.inl h).trans (bU.mono λr _ h=>.inr h);have z9:=af.size;have dW:=bg.1.size;have dX:=al.size;have dY:=aQ.size;have bW:∀r,(leadsTo a2 r\/r=aj)->bl r:=λr W=>W.elim (λW=>(aX r (.inr (.inl W))).1) λW=>W▸ce;have bX:∀r,(leadsTo a2 r\/r=aj)->¬R r:=λr W=>cg r (bW r W);have ds:ae (cI w) w a7:=qg (kx (a6.trans af) dd) (kx al (aQ.mono λr _ W=>by
   rcases W with W|rfl
   .obtain⟨_,c,bc⟩:=dy bm W;exact .inl ⟨_,c,‹r=_› ▸bc,Φ⟩
   .exact .inl ⟨_,_,bo,Φ⟩))
  let du:ah:=λr=>bl r\/(aP.heap.size<=r/\r<a7.heap.size);let bY:ah:=λr=>R r\/(leads aw r/\r<aO.heap.size)\/(leads aF r/\r<aO.heap.size);have dZ:∀r,r<w.heap.size->bl r->A r:=λr W h=>(bg.2.1 r h).elim id λh=>Ω
  have bZ:∀r,leads aF r->w.heap.size<=r/\r<Y.heap.size:=λr W=>by obtain⟨h1,bh⟩:=bz ak W;omega
  have cq:∀r,leads aw r->r<Y.heap.size:=λr W=>by obtain⟨h1,bh⟩:=bz bI W;omega
  have bJ:∀r,leads aF r\/leads aw r->¬bl r:=λr W dw=>by
   rcases bg.2.1 r dw with h|h
   .rcases W with W|W
    .exact bR r (.inl W) h
    .exact b8.2.2 r W h
   .rcases W with W|W
    .have:=bZ r W;omega
    .have:=cq r W;omega
  refine c6 _ ⟨ds,du,bY,cl,(Grow.ext (a6.trans af)).trans (bg.trans ((Grow.ext al).trans ⟨aQ.mono λr _ W=>bW r W,λr W=>W.imp id And.left,λr W=>.inl W⟩)),?_,λr W=>.inl W,λr W=>?_⟩
  rotate_left
  .rcases W with W|W|W
   .exact .inl W
   .exact .inr (.inl W.1)
   .exact .inr (.inr (bZ r W.1).1)
  have cr:∀ {v:y0} {bp:Nat} {l:Λ},ao .i64 ac aP bp v l->(∀r,leads v r->¬bl r)->ao .i64 ac a7 bp v l:=λhm dx=>be hm aQ λr W J=>dx r W (bW r J);have ct:∀r,bY r->r<aP.heap.size:=λr W=>by
   rcases W with W|W|W
   .have:=dg r W;omega
   .omega
   .omega
  refine⟨⟨.inl ce,λr W aZ=>?_,λr W=>by have:=ct r W;omega,λr W=>W.elim (λW=>by have:=ch r W;omega) And.right⟩,bC,dq,ge,L++[a],E,ca,w0,bV,⟨dh,oM (di.trans al) aQ λr o W bB J=>bX r J (ci r o W bB),λr o W bB=>.inl (ci r o W bB)⟩,⟨(dk.ext al).ab aQ λr W J=>?_,λr W=>.inl (cj r W),ck,λr W=>?_⟩,?_,⟨bn.ab bU λr W he=>?_,?_⟩,(bT.ext al).ab aQ λr W J=>?_,?_⟩
  .have:=ct r aZ;rcases W with W|W
   .rcases aZ with aZ|aZ|aZ
    .exact cg r W aZ
    .exact bJ r (.inr aZ.1) W
    .exact bJ r (.inl aZ.1) W
   .omega
  .rcases J with J|rfl
   .exact (aX r (.inr (.inl J))).2 W
   .exact ck W
  .rcases W with W|W|W
   .exact⟨.inl (aX r (.inl W)).1,(aX r (.inl W)).2⟩
   .obtain⟨h1,bh⟩:=bn.leads W;rcases dr r W with h|h
    .exact⟨.inl (aX r (.inr (.inl h))).1,(aX r (.inr (.inl h))).2⟩
    .refine⟨.inr ⟨h,by have:=bU.size;omega⟩,λdz=>?_⟩;have:=ch r (cj r dz);omega
   .exact⟨.inl (aX r (.inr (.inr W))).1,(aX r (.inr (.inr W))).2⟩
  .rw[cF];exact be (bS.ext al) aQ λr W J=>by
    rcases J with J|rfl
    .obtain⟨rfl,c,bc⟩:=dy bm J;exact b5 (bS.ext al) bc Φ W rfl
    .exact b5 (bS.ext al) bo Φ W rfl
  .have he:r=aj:=he;subst he;exact cn bn cp Φ W
  .refine⟨by rw[r8,bE];simp[gl],λj x f bK a8=>?_⟩;have a8:(s.funs++[⟨sc,szs,1,cs⟩])[j]? =σ f:=a8;by_cases bO:j<s.funs.length
   .rw[Y3 Ω] at bK;rw[Y3 bO] at a8;obtain⟨dA,dC,dD⟩:=((((jk.ab bD (al.ab λ_=>False) λ_ _ _ h=>h).ab aQ λr _ W J=>bX r J W).mono (R':=bY) λr W=>.inl W)).2 j x f bK a8;exact⟨dA,dC,by rw[cE j bO];exact dD⟩
   .have b0:j=s.funs.length:=by have:=(x4.1 a8).1;simp at this;omega
    rw[Y5 Ω,bE,b0,V9] at bK;rw[Y5 Ω,b0,V9] at a8;cases bK;cases a8;refine⟨⟨⟨_,cr (aU.ext al) λr W=>bJ r (.inl W)⟩,λr W=>.inr (.inr ⟨W,?_⟩)⟩,⟨⟨_,cr (dm.ext al) λr W=>bJ r (.inr W)⟩,λr W=>.inr (.inl ⟨W,?_⟩)⟩,?_⟩
    .have:=bZ r W;omega
    .have:=cq r W;omega
    .rw[b0,cD]
  .rcases J with J|rfl
   .obtain⟨rfl,c,bc⟩:=dy bm J;exact cn (bT.ext al) bc Φ W
   .exact cn (bT.ext al) bo Φ W
  .exact ((kw.ab dl (al.ab λ_=>False) λ_ _ _ h=>h).ab aQ λr _ W J=>bX r J W).mono λr W=>.inl W
 have bi:=bA.ext a6;have cu:=cC.ext a6;have dE:∀r,A r->r<w.heap.size:=h.1.2.2.2;obtain⟨_,⟨_,_,ea⟩,ec,ee⟩:=id bA;have ef:cs.length<=4096:=Ω
 have bL:∀ {aR:x2} {ba bb:y0} {aE:Nat} {K:y0->x2->Prop},Ext aW aR->aW.heap.size<=aE->ao .i64 an aR aE ba [1]->aH .i64 aR bb cs->
   (∀aA aI Y,Ext aW Y->ae (λr=>r=aE) aR Y->w.heap.size<=aI->ao .i64 an Y aI aA (1::cs)->(Ext aW Y->K aA Y))->ay x3 (j4 #[au,au] au #[ba,bb]) aR K:=by
  intro aR ba bb aE K X bM aS aV dF;refine h6 au.u an.i rfl aS aV Θ Θ λaA aI Y aD am aT=>?_;have af:Ext aW Y:=X.put aT Ω;have dG:=X.size;exact dF aA aI Y af aT Ω am af
 have a1:∀ {v:y0} {bp:Nat} {dH:o6} {e:o4} {dI:x2} {l:Λ},ao dH e dI bp v l->w.heap.size<=bp-> ∀r,leads v r->¬A r:=λhm eg r W dK=>by
  obtain⟨h1,_⟩:=bz hm W;have:=dE r dK;omega
 refine⟨?_,?_⟩
 .refine (h7 cu Ω).mono ?_;rintro aF cw _ ⟨ap,bf,cd,ak⟩;have z5:=ap.size;refine⟨.inl ap,?_,?_⟩
  .refine (mZ (bi.ext ap)).mono ?_;rintro _ cz _ ⟨rfl,aq⟩;have aJ:=ap.trans aq;have eh:=aJ.size;have ej:=aq.size;have cA:=(bi.ext ap).ext aq;refine⟨.inl aJ,?_,?_⟩
   .refine dJ au.u an.i rfl λba aE aR bM X aS=>?_;refine⟨.inl (aJ.trans X),?_⟩;refine (lY (cA.ext X)).mono ?_;rintro bb b1 _ ⟨av,b2,b4,aV⟩;have aL:=(aJ.trans X).trans av;refine⟨.inl aL,?_⟩;refine bL aL Ω (aS.ext av) aV.ls λaA aI Y af aT aD am _=>⟨.inl af,?_⟩;have aU:=be (((ak.ext aq).ext X).ext av) aT λr W he=>by have he:r=aE:=he;obtain⟨h1,bh⟩:=bz ak W;omega
    exact bG af Ω aD aU am λr W=>W.elim (a1 ak Ω r) (a1 am aD r)
   .refine (lY cA).mono ?_;rintro bb aR _ ⟨X,b2,b4,aV⟩;refine⟨.inl (aJ.trans X),?_⟩;have dG:=X.size;refine dJ au.u an.i rfl λba aE b1 bM av aS=>?_;have aL:=(aJ.trans X).trans av;refine⟨.inl aL,?_⟩;refine bL aL Ω aS (aV.ls.ext av) λaA aI Y af aT aD am _=>⟨.inl af,?_⟩;have aU:=be (((ak.ext aq).ext X).ext av) aT λr W he=>by have he:r=aE:=he;obtain⟨h1,bh⟩:=bz ak W;omega
    exact bG af Ω aD aU am λr W=>W.elim (a1 ak Ω r) (a1 am aD r)
  .refine dJ au.u an.i rfl λba aE cz bM aq aS=>?_;have aJ:=ap.trans aq;refine⟨.inl aJ,?_⟩;refine (mZ ((bi.ext ap).ext aq)).mono ?_;rintro _ aR _ ⟨rfl,X⟩;have bq:=aJ.trans X;refine⟨.inl bq,?_⟩;refine (lY (((bi.ext ap).ext aq).ext X)).mono ?_;rintro bb b1 _ ⟨av,b2,b4,aV⟩;have aL:=bq.trans av;refine⟨.inl aL,?_⟩;refine bL aL Ω ((aS.ext X).ext av) aV.ls λaA aI Y af aT aD am _=>⟨.inl af,?_⟩;have aU:=be (((ak.ext aq).ext X).ext av) aT λr W he=>by have he:r=aE:=he;obtain⟨h1,bh⟩:=bz ak W;omega
   exact bG af Ω aD aU am λr W=>W.elim (a1 ak Ω r) (a1 am aD r)
 .refine dJ au.u an.i rfl λba aE cw bM ap aS=>?_;refine⟨.inl ap,?_⟩;have z5:=ap.size;have em:aE<cw.heap.size:=oF aS Ξ;refine (h7 (cu.ext ap) Ω).mono ?_;rintro aF cz _ ⟨aq,bf,cd,ak⟩;have aJ:=ap.trans aq;refine⟨.inl aJ,?_⟩;refine (mZ ((bi.ext ap).ext aq)).mono ?_;rintro _ aR _ ⟨rfl,X⟩;have bq:=aJ.trans X;refine⟨.inl bq,?_⟩;refine (lY (((bi.ext ap).ext aq).ext X)).mono ?_;rintro bb b1 _ ⟨av,b2,b4,aV⟩;have aL:=bq.trans av;refine⟨.inl aL,?_⟩;refine bL aL Ω (((aS.ext aq).ext X).ext av) aV.ls λaA aI Y af aT aD am _=>⟨.inl af,?_⟩;have aU:=be ((ak.ext X).ext av) aT λr W he=>by have he:r=aE:=he;obtain⟨h1,bh⟩:=bz ak W;omega
  exact bG af Ω aD aU am λr W=>W.elim (a1 ak Ω r) (a1 am aD r)
theorem fc {P:V2} {t ah:o4} {k:o6} {b g:Nat} {z x:y0} {m:Λ} {K:y0->x2->Prop} (aa:P.underlying t=σ (.slice e)) (hi:aO P e 1 b z) (ab:z.cells.size=1)
  (h:ao k e w g v l) (ac:aH k w x m) (ad:(l.length+m.length)*b<=140737488355328) (af:l.length+m.length<=9223372036854775807)
  (ag:∀J U w',ao k e w' U J (l++m)->(∀r,leads J r->leads v r\/w.heap.size<=r)->ae (λr=>leads v r) w w'->K J w'):ay P (j4 #[t,t] ah #[v,x]) w K:=by
 rcases h.2 with⟨W,ai⟩|⟨cap,cs,W,al,am⟩
 .have aj:l=[]:=Z8 ai;subst aj;have h':ao k e w w.heap.size v []:=by rw[W];exact ao.nil _ _ _ _
  refine h6 aa hi ab h' ac ad af λJ U w' X hm Y=>ag J U w' hm (λr V=>.inr ?_) (Y.mono λr V he=>by have he:r=w.heap.size:=he;omega);obtain⟨ak,_⟩:=bz hm V;omega
 .refine h6 aa hi ab h ac ad af λJ U w' X hm Y=>ag J U w' hm (λr V=>?_) (Y.mono λr V he=>⟨_,_,_,W,he.symm⟩);obtain⟨ak,_⟩:=bz hm V;rcases X with X|X
  .exact .inl ⟨_,_,_,W,by show g=r;omega⟩
  .exact .inr Ω
def addVar (s:aB) (u:Λ):aB:={s with vars:=s.vars++[newVar u]}
theorem Lj (s:aB) (u:Λ):gZ (addVar s u)=gZ s++[((3+(s.vars.flatMap gY).length:Nat):Int)]:=by
 unfold gZ addVar;rw[r8,U2,List.range_succ,j9];congr 1
 .apply List.map_congr_left;intro i hi;have:=List.mem_range.1 hi;unfold eY;simp only[List.take_append_of_le_length (show i<=s.vars.length by omega)]
 .simp[eY]
theorem Lk {s:aB} {u:Λ} (J:s.funs=[]):(addVar s u).cells=s.cells++(0::0::u):=by
 unfold aB.cells addVar hS;simp only[J,List.flatMap_nil,X6,List.flatMap_append,List.flatMap_singleton,Z4];rfl
def eM (n:aY) (i j:Nat):aB:=⟨n.zero,(n.unary.take i).map newVar,(n.funs.take j).map (jJ n.sizes),[]⟩
theorem BX {n:aY} {i:Nat} {u:Λ} (h:n.unary[i]? =σ u):eM n (i+1) 0=addVar (eM n i 0) u:=by
 unfold eM addVar;simp only[r9,h,j6,j9,List.map_singleton]
theorem Ll {n:aY} {i:Nat} {g:cu} (h:n.funs[j]? =σ g):eM n i (j+1)=gl (eM n i j) g.1 (bI n.sizes g.1) g.2:=by
 unfold eM gl;simp only[r9,h,j6,j9,List.map_singleton];rfl
theorem vz (n:aY):eM n n.unary.length n.funs.length=eb n:=by
 unfold eM eb;rw[o9,o9]
theorem vA {α β:Type} {f:α->List β} {b:Nat}:∀ {L:List α},(∀x∈L,(f x).length<=b)->(L.flatMap f).length<=L.length*b
 |[],_=>Ξ
 |x::L,h=>by
  rw[X3,r8,Z5,U7];have:=vA (L:=L) λy J=>h y (.tail _ J);have:=h x (.head _);omega
theorem sI {n:aY} (J:jg n) (ad:n.funs.length<=256) (i j:Nat):(eM n i j).cells.length<=2000000:=by
 rw[qa];have h1:=vA (f:=gY) (b:=34) (L:=(eM n i j).vars) λx V=>by
  obtain⟨u,hu,rfl⟩:=Z6.1 (show x∈(n.unary.take i).map newVar from V);obtain⟨p,W⟩:=X4.1 (U9 hu);have ae:=J.jI;have af:=(x4.1 W).1;obtain⟨z,X⟩:=aN (l:=n.sizes) (i:=p) Ω;have aa:=(J.unary p z u X W).1;have U:=J.sizes.2.2 z (x5 X);show u.length+2<=34;omega
 have aa:=vA (f:=gk) (b:=4097) (L:=(eM n i j).funs) λx V=>by
  obtain⟨g,ab,rfl⟩:=Z6.1 (show x∈(n.funs.take j).map (jJ n.sizes) from V);have U:=(J.funs g (U9 ab)).1;have Y:=U.len;have ac:=U.small;show g.2.length+1<=4097;omega
 have U:(eM n i j).vars.length<=64:=by
  show ((n.unary.take i).map newVar).length<=64;rw[u5,o5];have:=J.jI;have:=J.sizes.2.1;omega
 have Y:(eM n i j).funs.length<=256:=by
  show ((n.funs.take j).map (jJ n.sizes)).length<=256;rw[u5,o5];omega
 have ac:=X1 34 U;have ag:=X1 4097 Y;omega
def Plain (t:aC):Prop:=t.marks=[]/\t.olds=[]/\eC t []/\t.ever=0
theorem Plain.set {t:aC} (h:Plain t) (i:Nat) (x:Int):Plain (t.set i x):=⟨(aC.vv _ _ _).trans h.1,(aC.vx h.1 _ _).trans h.2.1,h.2.2.1.set,(aC.oN _ _ _).trans h.2.2.2⟩
theorem Plain.lay {t:aC} (h:Plain t) (l:Λ):Plain (hU t l):=⟨(nl _ _ _).trans h.1,(BQ h.1 _ _).trans h.2.1,h.2.2.1.fb l _,(vy _ _ _).trans h.2.2.2⟩
theorem Plain.put {s:aB} {t:aC} (h:Plain t) (cs:Λ):Plain (lj s t cs):=(h.lay _).set _ _
def Lm (w:x2) (R0:ah) (n:aY) (v:y0) (w':x2):Prop:=Ext w w'/\ ∃aj ag A R t,v=Γ aj/\StateM w' aj ag A R n (eb n) t/\t.b3=(eb n).cells/\Plain t/\(∀r,A r->w.heap.size<=r)/\ ∀r,R r->R0 r\/w.heap.size<=r
theorem Ln {w0:x2} {R0:ah} {n:aY} (bc:fE w0 X n) (aU:Ext w0 w) (bC:∀r o,w0.heap[r]? =σ o->fw o=true->R0 r) (bd:∀r,R0 r->r<w.heap.size) (Y:jg n) (bD:n.funs.length<=256):ai x3 xK [Γ X] w (Lm w R0 n):=by
 have h:=bc.ext aU;have ce:=Y.jI;have dh:=Y.sizes.2.1;refine az func26 ?_;rw[cR lM.u];simp only[Z7,aT];refine (K6 (n:=3) Ω).mono ?_;rintro _ V _ ⟨aV,ag,rfl,cg⟩;rw[c8 (cs:=#[Γ X,Γ ag,.slice ν 0 0,.slice ν 0 0,.slice ν 0 0]) Ψ];refine bP λaj aa di ay aA=>?_;have aA:ad aa aj bF [Γ X,Γ ag,.slice ν 0 0,.slice ν 0 0,.slice ν 0 0]:=aA;have dj:=aV.size;have dk:=ay.size;have dl:=aA.lt;have ch:ek aa aj ag X (.slice ν 0 0) (.slice ν 0 0) (.slice ν 0 0) (λr=>r=aj\/(w.heap.size<=r/\r<V.heap.size)) R0 n ⟨0,[],[],[]⟩ ⟨o8 3 ⟨0,0⟩,[],[],0⟩:=by
  refine⟨⟨.inl rfl,λr U aq=>?_,λr U=>?_,λr U=>?_⟩,0,0,0,[],[],λr=>w.heap.size<=r/\r<V.heap.size,w0,aA,⟨bc,aU.trans (aV.trans ay),bC⟩,⟨(cg.cut).ext ay,λr U=>.inr U,λU=>?_,λr U=>?_⟩,ao.nil _ _ _ _,⟨bb.nil _ _ _ _ _,rfl,λj x f aB=>by simp at aB⟩,bb.nil _ _ _ _ _,rfl,λj x f aB=>by simp at aB⟩
  .have aq:=bd r aq;rcases U with U|U<;>omega
  .have U:=bd r U;omega
  .rcases U with U|U<;>omega
  .omega
  .rcases U with U|U|U
   .obtain⟨a,dm,c,bf,dn⟩:=U;cases bf
   .exact (eT U).elim
   .exact (eT U).elim
 intro dp aD _ _;have ci:=ch.ext aD;rw[aK bF.p 1 (aA.ext aD) rfl];refine (Lf (h.ext ((aV.trans ay).trans aD))).mono ?_;rintro _ dq _ ⟨rfl,aW⟩;refine⟨.inl aW,?_⟩;have cj:=ci.ext aW;obtain⟨bg,ck,cl⟩:=cj.qc;refine (p9 (i:=0) (y:=0) ck rfl Φ ⟨Ξ,Ξ,Ξ⟩).mono ?_;rintro _ bE _ ⟨_,cm,cn,cp⟩;obtain⟨cq,bG,bh⟩:=cl cm bE _ cn cp;have bh:=bh.same (vu ⟨0,[],[],[]⟩ n.zero);have z3:=aD.size;have z4:=aW.size;have cr:=((aV.trans ay).trans aD).trans aW;have bH:Ext w bE:=cr.then bG.1 λr U he=>by rcases he with he|he<;>omega
 refine (vt (h.ext bH)).mono ?_;rintro _ dr _ ⟨rfl,bI⟩;refine b0.range n.sizes.length (λi aX=>∃A am t,Ext w aX/\ek aX aj ag X am (.slice ν 0 0) (.slice ν 0 0) A R0 n (eM n i 0) t/\t.b3=(eM n i 0).cells/\Plain t/\ ∀r,A r->w.heap.size<=r) Ω
  ⟨cq,_,_,bH.trans bI,bh.ext bI,?_,?_,λr U=>?_⟩ ?_ ?_
 .rw[aC.n7];rfl
 .exact Plain.set (t:=⟨o8 3 ⟨0,0⟩,[],[],0⟩) ⟨rfl,rfl,⟨rfl,rfl,λc ak=>by rw[(List.mem_replicate.1 ak).2];exact n9 _⟩,rfl⟩ _ _
 .rcases bG.2.1 r U with he|he
  .rcases he with he|he<;>omega
  .omega
 .rintro i aX ct hi ⟨A,am,t,av,bi,aE,aF,aZ⟩ cu;obtain⟨u,hu⟩:=aN (l:=n.unary) (i:=i) Ω;obtain⟨bJ,bK⟩:=aN (l:=n.sizes) (i:=i) Ω;have ds:u.length<=32:=by
   have dt:=(Y.unary i bJ u bK hu).1;have du:=Y.sizes.2.2 bJ (x5 bK);omega
  refine bk Ω ?_;refine (BN (h.ext av) Y).mono ?_;rintro dv dw _ ⟨cw,_,cz⟩;obtain⟨dx,dy,cA⟩:=cz u Ω (by rw[j0];exact hu);intro bl bL _ _;have bm:=cw.trans bL;have bM:=bi.ext bm;obtain⟨⟨_,_,_,aH⟩,cB,bN,ge,L,E,bg,w0,a1,_⟩:=id bM;have dz:=bm.size;have dA:=av.size;rw[aK bF.p 2 a1 rfl];refine n8 (l:=[0,0]) au.u an.i Ω rfl Ψ λcC dC dD dE a2 bO=>?_;refine⟨.inl a2,?_⟩;refine fc au.u an.i rfl bO ((cA.ext bL).ls.ext a2) Θ Θ λcD dF cE cF cG cH=>?_;have bQ:∀r,leads cC r->bl.heap.size<=r:=λr U=>by obtain⟨bf,_⟩:=bz bO U;omega
  have a6:Ext bl cE:=a2.then cH λr U he=>by have:=bQ r he;omega
  refine⟨.inl a6,?_⟩;have cI:=bM.ext a6;have cJ:∀r,leads cD r->bl.heap.size<=r:=λr U=>by
   rcases cG r U with h|h
   .exact bQ r h
   .have:=a2.size;omega
  have cK:t.cells.length<=2000000:=by
   have h1:=sI Y bD i 0;rw[<-aE] at h1;unfold aC.b3 at h1;rwa [u5] at h1
  have cL:t.olds.length=0:=by rw[aF.2.1];rfl
  have cM:t.marks.length=0:=by rw[aF.1];rfl
  refine (BU cI cF.ls (λr U W=>by have:=aH r W;have:=cJ r U;omega) Θ Θ Ω).mono ?_;rintro _ dG _ ⟨rfl,_,bn,bo,cN⟩;obtain⟨⟨bR,bS,cO,bT⟩,cB,bN,ge,L,E,bg,w0,a1,⟨cP,cQ,bU⟩,⟨cS,bV,bW,a7⟩,cT,⟨cU,cV⟩,cW,cX⟩:=id cN;refine⟨.inr (sH (off:=2) (z:=2) a1 (λK=>by rw[aM bF.p rfl]) Ψ rfl),?_⟩;refine dJ (k:=.i64) af.u ac.i rfl λdH dI bX dK al cY=>?_;have bp:=a1.ext al;refine⟨.inr (sH (off:=2) (z:=2) bp (λK=>by rw[aM bF.p rfl]) Ψ rfl),?_⟩;have bY:(gZ (eM n i 0)).length=i:=by
   unfold gZ eM;simp only[u5,List.length_range,o5];omega
  have bZ:=cT.ext al;refine fc af.u ac.i rfl bZ cY.ls (by rw[bY];simp;omega) (by rw[bY];simp;omega) λb1 cZ dL aI c1 b4=>?_;have b6:=bp.ab b4 λhe=>b5 bZ bp Φ he rfl;rw[bu,aM bF.p rfl];refine bj af.i aI.ls.cells.1 aI.ls.cells.2 b6 Ξ λbq br dM bt=>?_;have bt:ad bq aj bF [Γ X,Γ ag,b1,.slice ν 0 0,.slice ν 0 0]:=bt;rw[aL];have ak:ae (λr=>leads am r\/r=aj) bX bq:=(b4.mono λr _ h=>.inl h).trans (br.mono λr _ h=>.inr h);have dN:=a6.size;have z12:=bo.1.size;have dO:=al.size;have dP:=ak.size;have b7:∀r,bn r->w.heap.size<=r:=λr U=>(bo.2.1 r U).elim (aZ r) λh=>Ω
  have b8:∀r,(leads am r\/r=aj)->bn r:=λr U=>U.elim (λU=>(a7 r (.inl U)).1) λU=>U▸bR;have c2:(eM n (i+1) 0).cells=(eM n i 0).cells++(0::0::u):=by rw[BX hu];exact Lk rfl
  have c3:t.cells.length=3+((eM n i 0).vars.flatMap gY).length:=by
   have h1:=congrArg T9 aE;rw[qa] at h1;unfold aC.b3 at h1;rw[u5] at h1;have:((eM n i 0).funs.flatMap gk).length=0:=by simp[eM]
   omega
  refine cu _ ⟨λr=>bn r\/(bX.heap.size<=r/\r<bq.heap.size),b1,hU t ([0,0]++u),?_,⟨⟨.inl bR,λr U aq=>?_,λr U=>by have:=cO r U;omega,λr U=>?_⟩,cZ,bN,ge,L,E,bg,w0,bt,⟨cP,oM (cQ.trans al) ak λr o U c4 J=>bS r (b8 r J) (bU r o U c4),bU⟩,⟨(cS.ext al).ab ak λr U J=>?_,λr U=>.inl (bV r U),bW,λr U=>?_⟩,?_,⟨(cU.ext al).ab ak λr U J=>?_,?_⟩,(cW.ext al).ab ak λr U J=>?_,?_⟩,?_,aF.lay _,λr U=>?_⟩
  .exact ((av.trans (bm.trans a6)).then bo.1 λr U he=>by have:=aZ r he;omega).trans al |>.then ak λr U J=>by have:=b7 r (b8 r J);omega
  .rcases U with U|U
   .exact bS r U aq
   .have aq:=bd r aq;omega
  .rcases U with U|U
   .have:=bT r U;omega
   .exact U.2
  .rcases J with J|rfl
   .exact (a7 r (.inl J)).2 U
   .exact bW U
  .rcases U with U|U|U
   .have dQ:=(bz aI U);rcases c1 r U with h|h
    .exact⟨.inl (a7 r (.inl h)).1,(a7 r (.inl h)).2⟩
    .refine⟨.inr ⟨h,by have:=br.size;omega⟩,λc5=>by have:=bT r (bV r c5);omega⟩
   .exact (eT U).elim
   .exact (eT U).elim
  .rw[BX hu,Lj,<-c3];exact be aI br λr U he=>by
    have he:r=aj:=he;subst he;exact b5 aI b6 Φ U rfl
  .exact (eT U).elim
  .refine⟨cV.1,λj x f aB bw=>?_⟩;have bw:((n.funs.take 0).map (jJ n.sizes))[j]? =σ f:=bw;simp at bw
  .exact (eT U).elim
  .refine⟨cX.1,λj x e aB he=>?_⟩;have he:([]:List hx)[j]? =σ e:=he;simp at he
  .rw[BS,c2,aE];rfl
  .rcases U with U|U
   .exact b7 r U
   .omega
 .rintro aX ct ⟨A,am,t,av,bi,aE,aF,aZ⟩;refine b2 Ω ?_;refine (BM (h.ext av)).mono ?_;rintro _ dR _ ⟨rfl,b9⟩;refine b0.range n.funs.length (λj aJ=>∃A R a8 t,Ext w aJ/\ek aJ aj ag X am a8 (.slice ν 0 0) A R n (eM n n.sizes.length j) t/\t.b3=(eM n n.sizes.length j).cells/\Plain t/\(∀r,A r->w.heap.size<=r)/\ ∀r,R r->R0 r\/w.heap.size<=r) Ω
   ⟨A,_,_,t,av.trans b9,bi.ext b9,aE,aF,aZ,λ_ h=>.inl h⟩ ?_ ?_
  .rintro j aJ c6 c7 ⟨A,R,a8,t,ap,aO,aw,aP,aQ,bx⟩ c9;obtain⟨g,ba⟩:=aN (l:=n.funs) c7;have bA:=(Y.funs g (x5 ba)).1;refine bk Ω ?_;refine (Lg (h.ext ap) Y ba).mono ?_;rintro ax dS _ ⟨aR,gs,dT,ca⟩;refine (Li bc (aU.trans (ap.trans aR)) ba).mono ?_;rintro _ dU _ ⟨aS,dV,dW,da,rfl,dX,dY,db,cb⟩;have z0:=aU.size;have dc:∀r,leads da r->r<w.heap.size:=λr U=>by obtain⟨c,bB⟩:=cb r U;have:=bB.lt;omega
   have dd:=(aO.ext aR).ext aS;have aH:∀r,A r->r<aJ.heap.size:=aO.1.2.2.2;have dZ:=aR.size;have cK:t.cells.length<=2000000:=by
    have h1:=sI Y bD n.sizes.length j;rw[<-aw] at h1;unfold aC.b3 at h1;rwa [u5] at h1
   have cL:t.olds.length=0:=by rw[aP.2.1];rfl
   have cM:t.marks.length=0:=by rw[aP.1];rfl
   have ea:g.2.length<=4096:=by have:=bA.len;have:=bA.small;omega
   have ec:g.1.length<=6:=bA.scope.2;refine (BW (sc:=g.1) dd aw (ca.ls.ext aS) (λr U W=>by have:=aH r W;obtain⟨bf,_⟩:=bz ca U;omega) db ⟨λW=>by have:=aH _ W;omega,λW=>by have:=aH _ W;omega,λr U W=>by have:=aQ r W;have:=dc r U;omega⟩ Ω Ω Ω Ω ?_).mono ?_
   .show ((n.funs.take j).map (jJ n.sizes)).length<=_;rw[u5,o5];omega
   rintro _ ed _ ⟨rfl,_,aG,R',de,cc,df,ee,dg⟩;rw[aL];have cd:=Ll (i:=n.sizes.length) ba;refine c9 _ ⟨aG,R',de,lj (eM n n.sizes.length j) t g.2,((ap.trans aR).trans aS).then cc.1 (λr U W=>by have:=aQ r W;omega),?_,?_,aP.put _,λr U=>?_,λr U=>?_⟩
   .rw[cd];exact df
   .rw[cd];exact BV aw
   .rcases cc.2.1 r U with h|h
    .exact aQ r h
    .have:=ap.size;have:=aS.size;omega
   .rcases dg r U with h|h|h
    .exact bx r h
    .exact .inl (by obtain⟨c,bB⟩:=cb r h;exact bC r _ bB rfl)
    .exact .inr (by have:=ap.size;have:=aR.size;have:=aS.size;omega)
  .rintro aJ c6 ⟨A,R,a8,t,ap,aO,aw,aP,aQ,bx⟩;refine b2 Ω ?_;have e:eM n n.sizes.length n.funs.length=eb n:=by rw[<-ce];exact vz n
   rw[e] at aO aw;exact⟨ap,aj,ag,A,R,t,rfl,⟨X,am,a8,_,aO⟩,aw,aP,aQ,bx⟩
theorem Lo (aq:Bytes l) (aD:l.length<=100000):ai x3 Fu [bU l] w λv w'=>v=jC l/\Ext w w':=by
 refine az func171 ?_;refine iy (λaJ aK V=>Ext w V/\ ∃ (m:Λ) (s:Int),aJ=bU m/\aK=Δ s/\Bytes m/\m.length<=100000/\ot l m s) ?_ ?_
 .rintro _ _ V ⟨au,m,s,rfl,rfl,am,a7,ao⟩;rw[mQ c3.u,bn,ak];refine⟨λav=>?_,λav=>?_⟩
  .have aw:m=[]:=Z8 Ω;exact⟨by rw[rM ao (by rw[aw];rfl)],au⟩
  have aw:m≠[]:=λh=>av (by rw[h];rfl);refine nI.range m.length (λi _ _ ax ay X=>Ext V X/\ ∃ (n:Int) (J:Bool),ax= .int .u64 n/\ay= .bool J/\lS n J ((m.take i).foldl eS 0)/\(m.take i).all fO=true) Ω ⟨Ext.refl _,0,false,rfl,rfl,GX,rfl⟩ ?_ ?_
  .rintro i aM t3 _ _ X aO hi ⟨ag,n,J,rfl,rfl,ab,ah⟩ aP;obtain⟨b,ac⟩:=aN (l:=m) hi;have a8:=am b (x5 ac);rw[mQ c3.u];refine bk Ω ?_;refine uq (λ_ _ ax ay Y=>Ext V Y/\ ∃ (n:Int) (J:Bool),ax= .int .u64 n/\ay= .bool J/\lS n J ((m.take (i+1)).foldl eS 0)/\(m.take (i+1)).all fO=true) ?_ ?_
   .rintro ba bb a3 a4 Y aS;rw[aL];exact aP _ _ _ _ _ aS
   intro aU ae;refine aR (λv Y=>X=Y/\v= .bool (!fO b)) ?_ ?_
   rotate_left
   .intro aB W;rw[pw rfl c3.u am ac,aQ,ak];refine⟨λh=>W _ _ ⟨rfl,by unfold fO;rw[decide_eq_false Ω];rfl⟩,λh=>?_⟩;rw[pw rfl c3.u am ac,bY];refine W _ _ ⟨rfl,?_⟩;unfold fO;congr 1;by_cases aE:57<b
    .rw[decide_eq_true aE,decide_eq_false Ω];rfl
    .rw[decide_eq_false aE,decide_eq_true Ω];rfl
   rintro _ _ ⟨rfl,rfl⟩;cases aC:fO b with
   |false=>
    rw[W6,bX];exact⟨by rw[rM ao (zL ac aC)],au.trans ag⟩
   |true=>
    rw[Y6,aT];have aV:=of_decide_eq_true aC;have ap:=GW ab aV;rw[zJ ac,zI ac,ah,aC] at ae;have aW:=ab.1;have aX:=ab.2.1;refine aR (λv Y=>X=Y/\v= .bool (J||decide (461168601842738790<n))) ?_ ?_
    rotate_left
    .intro aB W;rw[bY,ak];refine⟨λh=>W _ _ ⟨rfl,by rw[decide_eq_true h,Bool.or_true]⟩,λh=>W _ _ ⟨rfl,by rw[decide_eq_false h,Bool.or_false]⟩⟩
    rintro _ _ ⟨rfl,rfl⟩;by_cases aj:J=true\/461168601842738790<n
    .have ad:(J||decide (461168601842738790<n))=true:=by rcases aj with h|h<;>simp[h]
     rw[if_pos aj,ad] at ap;rw[ad,bg,Y6,aT];exact ae _ _ _ _ _ ⟨ag,n,true,rfl,rfl,ap,rfl⟩
    .have ad:(J||decide (461168601842738790<n))=false:=by
      cases J with
      |true=>exact absurd (.inl rfl) aj
      |false=>simp;omega
     rw[if_neg aj,ad] at ap;have bc:¬461168601842738790<n:=λh=>aj (.inr h);rw[ad,bg,W6,bX,fL,pw rfl c3.u am ac,dj,wrap_u8 Ω Ω,fi cq.u eH.u,wrap_u64 Ω Ω,wrap_u64 Ω Ω,aL,wrap_u64 Ω Ω];exact ae _ _ _ _ _ ⟨ag,_,false,rfl,rfl,ap,rfl⟩
  .rintro aM t3 _ _ X aO ⟨ag,n,J,rfl,rfl,ab,ah⟩;rw[o9] at ah ab;rw[mQ c3.u];refine b2 Ω ?_;have aF:=GY ab;have aW:=ab.1;have aX:=ab.2.1;have aY:∀ {x:Int},x=m.foldl eS 0->0<=x->x<=4611686018427387904->(U x3 (convert eH an (.int .u64 x)) X λaZ=>
     U x3 (aA .mul an false false (Δ s) aZ) X λa1=>(λv w'=>v=jC l/\Ext w w') (.tuple #[a1,(Δ 0)]) X):=by
    intro x a2 av h1;rw[fi eH.u an.u,wrap_i64 Ω Ω,fL];have hw:X2.wrap (s*x)=s*x:=by
     rcases ao.1 with rfl|rfl<;>exact wrap_i64 Ω Ω
    rw[hw];refine⟨?_,au.trans ag⟩;rw[zO ao (zK aw ah),a2]
   refine aR (λv Y=>X=Y/\v= .int .u64 (m.foldl eS 0)) ?_ ?_
   .rintro _ _ ⟨rfl,rfl⟩;have aG:=rC (l:=m) (n:=0) ah ⟨Int.le_refl _,Φ⟩;exact aY rfl aG.1 aG.2
   intro aB W;refine aR (λv Y=>X=Y/\v= .bool (J||decide (4611686018427387904<n))) ?_ ?_
   .rintro _ _ ⟨rfl,rfl⟩;rw[bt];refine⟨λh=>W _ _ ⟨rfl,?_⟩,λh=>W _ _ ⟨rfl,?_⟩⟩
    .have h':J=true\/4611686018427387904<n:=by simpa using h
     rw[aF,if_pos h']
    .have h':¬(J=true\/4611686018427387904<n):=by
      intro al;rcases al with al|al
      .simp[al] at h
      .simp[al] at h
     rw[aF,if_neg h']
   .intro bd aH;cases J with
    |true=>rw[bX];exact aH _ _ ⟨rfl,rfl⟩
    |false=>rw[aT,bY];exact aH _ _ ⟨rfl,by rw[Bool.false_or]⟩
 .intro aU ae;refine aR (λv aa=>w=aa/\ ∃c:Bool,v= .bool c/\(c=true↔l[0]? =σ 45)) ?_ ?_
  .rintro _ _ ⟨rfl,c,rfl,aI⟩;rw[bt];refine⟨λa6=>?_,λad=>?_⟩
   .obtain⟨m,rfl⟩:∃m,l=45::m:=by
     have:=aI.1 a6;cases l with
     |nil=>simp at this
     |cons x m=>exact⟨m,by simp at this;rw[this]⟩
    rw[y2 (y:=1) (i:=1) rfl c3.u Ξ];exact ae _ _ _ ⟨Ext.refl _,m,-1,rfl,rfl,λb af=>aq b (.tail _ af),by simp at aD;omega,zM⟩
   .refine ae _ _ _ ⟨Ext.refl _,l,1,rfl,rfl,aq,aD,zN λb af he=>?_⟩;subst he;have:=aI.2 af;rw[ad] at this;cases this
  .intro aB W;rw[mQ c3.u,bY,ak];refine⟨λh=>?_,λh=>W _ _ ⟨rfl,false,rfl,?_⟩⟩
   .obtain⟨b,af⟩:=aN (l:=l) (i:=0) Ω;rw[pw (y:=0) (i:=0) rfl c3.u aq af,bn];refine W _ _ ⟨rfl,_,rfl,?_⟩;rw[decide_eq_true_eq,af];exact⟨λh=>by rw[h],λh=>Z9 h⟩
   .have:l=[]:=Z8 Ω;subst this;simp
theorem Lp {s:Go.Sem y0} (h:U x3 s w λu=>u=v) (hk:K v):U x3 s w K:=by
 obtain⟨u,h1,rfl⟩:=h;exact⟨u,h1,hk⟩
abbrev gG:Type:=Λ×Int
def fq (x:gG):List y0:=[bU x.1,Δ x.2]
theorem vB (x:gG):∀u∈fq x,u.oneCell'=true:=by
 intro u hu;simp[fq] at hu;rcases hu with rfl|rfl<;>rfl
def im (w:x2) (v:y0) (L:List gG):Prop:=b6 w 2 v L.length (L.flatMap fq)
theorem vC {g:Nat} {L:List gG} (h:bb fq 2 ck w g v L):im w v L:=h.sl
theorem BY {L:List gG} {J:o4} (h:im w v L):U x3 (X0 #[e6] J #[v]) w K=K (Δ (L.length:Int)):=by
 obtain⟨_,_,_,_,_,rfl,_⟩:=h;exact gP e6.u
theorem Lq {k:Nat} {cs:List y0} (h:b6 w k v n cs) (V:ae S w w') (W:∀r,leadsTo v r->¬S r):b6 w' k v n cs:=by
 obtain⟨h1,b,o,base,cap,rfl,X,Y,U,aa⟩:=h;refine⟨h1,b,o,base,cap,rfl,X,Y,U,?_⟩;rcases Nat.eq_zero_or_pos n with J|J
 .have:cs=[]:=Z8 (by rw[h1,J,Nat.zero_mul]);subst this;intro j v ab;simp at ab
 .have ac:=U J;exact nY V (W b ⟨⟨b,o,ν⟩,n,cap,by rw[ac],rfl⟩) aa
theorem im.ab {L:List gG} (h:im w v L) (J:ae S w w') (U:∀r,leadsTo v r->¬S r):im w' v L:=Lq h J U
theorem BZ {x:gG} {L:List gG} (h:im w v (x::L)) (J:∀b o,w.rangeAt b o (fq x)->K (.pointer (σ ⟨b,o,ν⟩))):U x3 (l7 e6 v (Δ 0)) w K:=by
 obtain⟨_,b,o,base,cap,rfl,_,_,V,W⟩:=h;have:=fz (P:=x3) (w:=w) (K:=K) (k:=.i64) (c:=cap) e6.u ck.i (show 0<(x::L).length by simp) V;rw[show ((0:Nat):Int)=0 from rfl] at this;rw[this];refine J _ _ λj u hu=>?_;have X:=(x4.1 hu).1;rw[Nat.zero_mul,Nat.add_zero];exact W j u (by rw[X3,Y3 X];exact hu)
theorem Lr {x:gG} {L:List gG} (h:im w v (x::L)) (X:∀V,(∀w',im w' v (x::L)->im w' V L)->(∀r,leadsTo V r->leadsTo v r)->K V):U x3 (V5 e6 v (σ (Δ 1)) ν ν) w K:=by
 have ac:=h;obtain⟨_,b,o,base,cap,rfl,ad,_⟩:=h;rw[fM e6.u ck.i (mB 1 1 rfl) h5 eJ Ξ Ω (n9 _)];refine X _ (λw' Y=>?_) λr aa=>?_
 .have:=b6.part (l:=1) (h:=(x::L).length) (m:=cap) Y Ξ (n9 _) Ω (n9 _);have e:(((x::L).flatMap fq).drop (1*2)).take (((x::L).length-1)*2)=L.flatMap fq:=by
   rw[X3];have ab:(L.flatMap fq).length=L.length*2:=fR (k:=2) λ_ _=>rfl;show (L.flatMap fq).take _=_;rw[n0 (by rw[ab,Z5,Nat.add_sub_cancel];exact n9 _)]
  rw[e] at this;exact this
 .obtain⟨a,n,c,J,W⟩:=aa;split at J
  .cases J;exact⟨_,_,_,rfl,W⟩
  .cases base with
   |none=>cases J
   |some q=>cases J;exact⟨_,_,_,rfl,W⟩
theorem Ls {g:Nat} {L:List gG} (X:y=(n:Int)) (h:bb fq 2 ck w g v L) (Y:n<=L.length) (aa:∀V,im w V (L.take n)->(∀r,leadsTo V r->leadsTo v r)->K V):U x3 (V5 e6 v ν (σ (Δ y)) ν) w K:=by
 have ab:=vC h;obtain⟨_,b,o,base,cap,rfl,ae,_⟩:=h.sl;rw[fM e6.u ck.i h4 (mC n y X) eJ (X7 _) Ω (n9 _)];refine aa _ ?_ λr ac=>?_
 .have:=b6.part (l:=0) (h:=n) (m:=cap) ab (X7 _) Y Ω (n9 _);have e:((L.flatMap fq).drop (0*2)).take ((n-0)*2)=(L.take n).flatMap fq:=by
   rw[Nat.zero_mul,List.drop_zero,Nat.sub_zero,pQ (f:=fq) (k:=2) n λ_ _=>rfl]
  rw[e] at this;have ad:(L.take n).length=n-0:=by rw[o5];omega
  unfold im;rw[ad];exact this
 .obtain⟨a,n,c,J,W⟩:=ac;split at J
  .cases J;exact⟨_,_,_,rfl,W⟩
  .cases base with
   |none=>cases J
   |some q=>cases J;exact⟨_,_,_,rfl,W⟩
def Lt (w:x2) (pl:Λ) (v:y0) (w':x2):Prop:=Ext w w'/\ ∃J L,∃bad:Int,v= .tuple #[J,Δ bad]/\im w' J L/\L.map (·.1)=(lex pl).1/\(0<=bad↔(lex pl).2=false)/\(∀r,leadsTo J r->w.heap.size<=r)/\ ∀r,leadsTo J r-> ∃c,ad w' r ck c
theorem Lu {p:y0} (an:aH .u8 w p pl) (aZ:Bytes pl) (bz:pl.length<=65536):ai x3 EF [p] w (Lt w pl):=by
 refine az func96 ?_;rw[aU cH.u an];refine nI.range pl.length (λi _ _ ab ah V=>Ext w V/\ ∃g L,∃ (W:List (Λ)) (ac:Λ) (op:Bool),ah= .bool op/\bb fq 2 ck V g ab L/\L.map (·.1)=(if op then W++[ac] else W)/\(op=true->ac.length<=i)/\L.length<=i/\hK (pl.drop i) W ac op=lex pl/\ ∀r,leadsTo ab r->w.heap.size<=r) an.le
  ⟨Ext.refl _,0,[],[],[],false,rfl,bb.nil _ _ _ _ _,rfl,(λh=>by cases h),n9 _,Hh pl,λr ad=>(eT ad).elim⟩ ?_ ?_
 rotate_left
 .rintro a1 t3 ab ah V a2 ⟨af,g,L,W,ac,op,rfl,ae,aa,_,_,X,ag⟩;refine b2 Ω ?_;rw[List.drop_length] at X;have X:(if op then W++[ac] else W,true)=lex pl:=X;exact⟨af,ab,L,-1,rfl,vC ae,by rw[aa,<-X],by rw[<-X];simp,ag,λr ad=>by obtain⟨rfl,c,au⟩:=dy ae ad;exact⟨c,au⟩⟩
 rintro i a1 t3 ab ah V a2 hi ⟨af,g,L,W,ac,op,rfl,ae,aa,aI,bA,X,ag⟩ a6;obtain⟨b,av⟩:=aN (l:=pl) hi;have bB:=aZ b (x5 av);have aJ:pl.drop i=b::pl.drop (i+1):=by rw[V4 hi,(x4.1 av).2]
 rw[aJ] at X;unfold hK at X;refine bk Ω ?_;refine uq (λ_ _ ab ah aw=>Ext w aw/\ ∃g L,∃ (W:List (Λ)) (ac:Λ) (op:Bool),ah= .bool op/\bb fq 2 ck aw g ab L/\L.map (·.1)=(if op then W++[ac] else W)/\(op=true->ac.length<=i+1)/\L.length<=i+1/\hK (pl.drop (i+1)) W ac op=lex pl/\ ∀r,leadsTo ab r->w.heap.size<=r) ?_ ?_
 .rintro bC bD a3 a4 aw a7;rw[aL];exact a6 _ _ _ _ _ a7
 intro bE aK;rw[bf cH.u cq.i Ψ (an.ext af) av];refine aR (λv aj=>V=aj/\v= .bool (ct b)) ?_ ?_
 rotate_left
 .intro ax Y;unfold ct at Y;rw[bn,ak];refine⟨λh=>Y _ _ ⟨rfl,by rw[decide_eq_true (.inl h)]⟩,λh1=>?_⟩;rw[bn,ak];refine⟨λh=>Y _ _ ⟨rfl,by rw[decide_eq_true (.inr (.inl h))]⟩,λao=>?_⟩;rw[bn,ak];refine⟨λh=>Y _ _ ⟨rfl,by rw[decide_eq_true (.inr (.inr (.inl h)))]⟩,λa8=>?_⟩;rw[bn];refine Y _ _ ⟨rfl,?_⟩;congr 1;rw[U4,decide_eq_true_eq,decide_eq_true_eq];exact⟨λh=>.inr (.inr (.inr h)),λh=>by rcases h with h|h|h|h;exact absurd h h1;exact absurd h ao;exact absurd h a8;exact h⟩
 rintro _ _ ⟨rfl,rfl⟩;cases J:ct b with
 |true=>
  rw[bX];rw[if_pos J] at X;exact aK _ _ _ _ _ ⟨af,g,L,_,[],false,rfl,ae,aa,(λh=>by cases h),Ω,X,ag⟩
 |false=>
  rw[aT];rw[if_neg (by rw[J];simp)] at X;refine aR (λv aj=>V=aj/\v= .bool (!bQ b)) ?_ ?_
  rotate_left
  .intro ax Y;unfold bQ at Y;rw[aQ,ak];refine⟨λh=>Y _ _ ⟨rfl,by rw[decide_eq_false Ω];rfl⟩,λh=>?_⟩;rw[bY];refine Y _ _ ⟨rfl,?_⟩;by_cases ao:126<b
   .rw[decide_eq_true ao,decide_eq_false Ω];rfl
   .rw[decide_eq_false ao,decide_eq_true Ω];rfl
  rintro _ _ ⟨rfl,rfl⟩;cases hw:bQ b with
  |false=>
   rw[W6,bX];rw[if_neg (by rw[hw];simp)] at X;refine aR (λv aj=>V=aj/\ ∃ap,im V v ap/\ap.map (·.1)=W/\(∀r,leadsTo v r->w.heap.size<=r)/\ ∀r,leadsTo v r->leadsTo ab r) ?_ ?_
   .rintro v _ ⟨rfl,ap,ay,ba,aq,bc⟩;exact⟨af,v,ap,(i:Int),rfl,ay,by rw[ba,<-X],by rw[<-X];simp,aq,λr ad=>by obtain⟨rfl,c,au⟩:=dy ae (bc r ad);exact⟨c,au⟩⟩
   .intro ax Y;cases op with
    |false=>
     rw[aT];rw[if_neg Ξ] at aa;exact Y _ _ ⟨rfl,L,vC ae,aa,ag,λ_ h=>h⟩
    |true=>
     rw[bX];rw[if_pos rfl] at aa;have aA:L.length=W.length+1:=by have:=congrArg T9 aa;simpa using this
     rw[dt e6.u ae,dj,wrap_i64 Ω Ω];refine Ls (n:=W.length) Ω ae Ω λal ay aq=>Y _ _ ⟨rfl,_,ay,?_,λr ad=>ag r (aq r ad),aq⟩;rw[List.map_take,aa,List.take_left]
  |true=>
   rw[Y6,aT];rw[if_pos hw] at X;refine aR (λab aB=>Ext w aB/\ ∃g M,∃x:gG,bb fq 2 ck aB g ab (M++[x])/\M.map (·.1)=W/\x.1=(if op then ac else[])/\(M++[x]).length<=i+1/\ ∀r,leadsTo ab r->w.heap.size<=r) ?_ ?_
   .rintro bF aB ⟨aO,bd,M,x,be,bh,aC,bi,aP⟩;intro aD aE _ _;have am:=be.ext aE;have aV:(M++[x])[M.length]? =σ x:=Ξ
    have bG:(M++[x]).length=M.length+1:=Ξ
    rw[dt e6.u am,dj,wrap_i64 Ω Ω,cE (i:=M.length) Ω e6.u ck.i am Ω,aM ck.p rfl,aS (o:=M.length*2+0) Ψ (am.range aV 0 _ rfl),aL,wrap_i64 Ω Ω];obtain⟨bH,aW⟩:∃al,aH .u8 aD al [b]/\U x3 (V5 cH p (σ (Δ (i:Int))) (σ (Δ ((i:Int)+1))) ν) aD (λv=>v=al):=by
     have bj:=an.ext (aO.trans aE);have:=rD (P:=x3) (low:=σ (Δ (i:Int))) (high:=σ (Δ ((i:Int)+1))) (K:=λv=>aH .u8 aD v [b]) cH.u cq.i bj (mB i _ rfl) (mC (i+1) ((i:Int)+1) Ω) Ω Ω λal aX=>by
      have e:((ints .u8 pl).drop (i*1)).take ((i+1-i)*1)=ints .u8 [b]:=by
       simp only[S2,show i+1-i=1 by omega];rw[ints,<-List.map_drop,<-List.map_take,aJ];rfl
      rw[e] at aX;exact aH.of (n:=i+1-i) aX
     obtain⟨v,bl,bm⟩:=this;exact⟨v,bm,v,bl,rfl⟩
    refine Lp aW.2 ?_;have bI:x.1.length<=65536:=by
     rw[aC];cases op with
     |true=>rw[if_pos rfl];have:=aI rfl;omega
     |false=>simp
    rw[uu cH.u cq.u c3.u aW.1,ur Θ,cE (i:=M.length) Ω e6.u ck.i am Ω,aM ck.p rfl];refine oy (f:=fq) (j:=0) (a:=x) (a':=(x.1++[b],x.2)) c3.i rfl rfl am aV rfl Ω λbJ bo bK aY=>?_;have e:(M++[x]).set M.length (x.1++[b],x.2)=M++[(x.1++[b],x.2)]:=by
     rw[T6 _ _ (n9 _),V9];rfl
    rw[e] at aY;refine aK _ _ _ _ _ ⟨(aO.trans aE).then bo (λr ad he=>by have:=aP r he;omega),bd,_,W,x.1++[b],true,rfl,aY,by rw[j9,bh];rfl,λ_=>?_,by simp at bi ⊢;omega,?_,aP⟩
    .rw[r8,aC];cases op with
     |true=>rw[if_pos rfl];have:=aI rfl;simp;omega
     |false=>simp
    .rw[<-X,aC];cases op with
     |true=>rfl
     |false=>rfl
   .intro ax Y;cases op with
    |true=>
     rw[bg,Y6,aT];rw[if_pos rfl] at aa;have aA:L.length=W.length+1:=by have:=congrArg T9 aa;simpa using this
     obtain⟨M,x,rfl⟩:∃M x,L=M++[x]:=by
      have:L≠[]:=λh=>by rw[h] at aA;simp at aA
      exact⟨L.dropLast,L.getLast this,(List.dropLast_concat_getLast this).symm⟩
     rw[j9] at aa;obtain⟨bp,aF⟩:=List.append_inj' aa Ξ;refine Y _ _ ⟨af,g,M,x,ae,bp,?_,Ω,ag⟩;rw[if_pos rfl];have aF:[x.1]=[ac]:=aF;exact (List.cons.inj aF).1
    |false=>
     rw[bg,W6,bX];rw[if_neg Ξ] at aa;rw[c8 (cs:=#[bU [],Δ (i:Int)]) Ψ];refine gg (f:=fq) (a:=(([],(i:Int)):gG)) e6.u ck.i Ω rfl rfl λv9 bL bM bN aG bq=>?_;have br:=ae.ext aG;refine gB (f:=fq) (a:=(([],(i:Int)):gG)) e6.u ck.i rfl br (by simpa using bq.sl) (vB _) Ω Ω λal bt bO bu bw bx=>?_;have bP:=af.size;have z9:=aG.size;refine Y _ _ ⟨(af.trans aG).then bx (λr ad he=>by have:=ag r he;omega),bt,L,_,bu,aa,rfl,Θ,λr ad=>?_⟩;rcases bw r ad with h|h
     .exact ag r h
     .omega
structure vD where
 v:y0
 t:Λ
 c:Int
def nn (y:vD):List y0:=[y.v,Δ y.c]
def jM (w:x2) (g:Nat) (v:y0) (l:List (Λ×Int)):Prop:=∃L:List vD,bb nn 2 cb w g v L/\(∀y∈L,∃J,ao .i64 an w J y.v y.t)/\L.map (λy=>(y.t,y.c))=l
structure io where
 ax:y0
 szv:y0
 o:Int
 ca:y0
def eN (h:io):List y0:=[h.ax,h.szv,Δ h.o,h.ca]
def gm (w:x2) (h:io) (x:ce):Prop:=(∃g,ao .i64 an w g h.ax x.scope)/\(∃g,ao .i64 an w g h.szv x.sizes)/\h.o=x.other/\ ∃g,jM w g h.ca x.lines
def gH (w:x2) (r:Nat):Prop:=∃e c,ad w r e c/\e≠an/\e≠cb
theorem ew {g:Nat} (h:ao .i64 an w g v l) (V:ae S w w') (W:∀r,S r->gH w r\/w.heap.size<=r):ao .i64 an w' g v l:=be h V λr U J=>by
 rcases W r J with⟨e,c,X,Y,_⟩|aa
 .exact b5 h X (λhe=>Y he.symm) U rfl
 .obtain⟨ab,ac⟩:=bz h U;omega
theorem vE {α:Type} {f:α->List y0} {k:Nat} {g:Nat} {L:List α} (h:bb f k e w g v L) (W:ae S w w') (X:∀r,S r->(∃U c,ad w r U c/\U≠e)\/w.heap.size<=r):bb f k e w' g v L:=h.ab W λr V J=>by
 rcases X r J with⟨U,c,Y,aa⟩|ac
 .exact cn h Y (λhe=>aa he.symm) V
 .obtain⟨af,ag⟩:=h.leads V;omega
theorem jM.dF {g:Nat} {l:List (Λ×Int)} (h:jM w g v l) (J:ae S w w') (U:∀r,S r->gH w r\/w.heap.size<=r):jM w' g v l:=by
 obtain⟨L,h1,V,W⟩:=h;refine⟨L,vE h1 J λr X=>(U r X).imp (λ⟨e,c,Y,_,aa⟩=>⟨e,c,Y,aa⟩) id,λy ab=>?_,W⟩;obtain⟨ac,hm⟩:=V y ab;exact⟨ac,ew hm J U⟩
theorem gm.dF {h:io} {x:ce} (aw:gm w h x) (J:ae S w w') (U:∀r,S r->gH w r\/w.heap.size<=r):gm w' h x:=by
 obtain⟨⟨g1,h1⟩,⟨V,W⟩,X,Y,aa⟩:=aw;exact⟨⟨g1,ew h1 J U⟩,⟨V,ew W J U⟩,X,Y,aa.dF J U⟩
theorem gm.ext {h:io} {x:ce} (aw:gm w h x) (J:Ext w w'):gm w' h x:=aw.dF (J.ab λ_=>False) λ_ h=>h.elim
theorem gm.one {h:io} {x:ce} (aw:gm w h x):∀u∈eN h,u.oneCell'=true:=by
 obtain⟨⟨g1,h1⟩,⟨V,J⟩,W,X,L,U,_⟩:=aw;intro u hu;simp[eN] at hu;rcases hu with rfl|rfl|rfl|rfl
 .exact h1.ls.cells.2
 .exact J.ls.cells.2
 .rfl
 .exact (de U.sl).2
def lk (w:x2) (J:y0) (V:List gG) (gs:Nat) (sv:y0) (L:List io) (U:List ce):Prop:=(im w J V/\ ∀r,leadsTo J r-> ∃c,ad w r ck c)/\bb eN 4 a1 w gs sv L/\U.length=L.length/\ ∀ (i:Nat) h x,L[i]? =σ h->U[i]? =σ x->gm w h x
theorem lk.dF {X:y0} {ac:List gG} {gs:Nat} {L:List io} {af:List ce} (h:lk w X ac gs sv L af) (W:ae S w w') (Y:∀r,S r->(∃e c,ad w r e c/\e≠an/\e≠cb/\e≠ck/\¬leadsTo sv r)\/w.heap.size<=r):lk w' X ac gs sv L af:=by
 obtain⟨⟨h1,ag⟩,ah,aj,ak⟩:=h;have hw:∀r,leadsTo X r->¬S r:=λr U J=>by
  obtain⟨c,V⟩:=ag r U;rcases Y r J with⟨e,al,ai,_,_,aa,_⟩|am
  .exact aa (ea ai V)
  .have:=V.lt;omega
 refine⟨⟨h1.ab W hw,λr U=>?_⟩,ah.ab W λr U J=>?_,aj,λi aw x hi ao=>(ak i aw x hi ao).dF W λr U=>(Y r U).imp (λ⟨e,c,V,ap,aq,_⟩=>⟨e,c,V,ap,aq⟩) id⟩
 .obtain⟨c,V⟩:=ag r U;exact⟨c,V.ab W (hw r U)⟩
 .rcases Y r J with⟨e,al,ai,_,_,_,aa⟩|am
  .exact aa U
  .obtain⟨au,av⟩:=ah.leads U;omega
def fU (J:y0) (U V bad W big X told:Int) (sv:y0):List y0:=[J,Δ U,Δ V,Δ bad,Δ W,Δ big,Δ X,Δ told,sv]
def Lv (N:Nat) (so:Option aE) (J:List gG) (U bad big told:Int) (L:List io) (V:List ce):Prop:=match so with
 |some s=>bad=0/\U≠0/\(big≠0↔s.big=true)/\(s.big=false->told=s.told)/\True/\J.map (·.1)=s.toks/\(∀t∈s.toks,Bytes t/\t.length<=65536)/\V.map (λx=>(x.sizes,x.lines))=s.shared/\L.length+J.length<=100000
 |none=>bad≠0/\L.length<=N
def bO (w:x2) (g B:Nat) (H:ah) (N:Nat) (so:Option aE):Prop:=100000<=N/\ ∃w0 J U gs sv L V,∃ (X W bad Y big aa told:Int),w0.heap.size=B/\ae (λr=>r=g) w0 w/\(∃c,ad w0 g bB c)/\ad w g bB (fU J X W bad Y big aa told sv)/\lk w0 J U gs sv L V/\(∀r,leadsTo sv r->H r)/\Lv N so U W bad big told L V
theorem lk.g {g:Nat} {U:y0} {V:List gG} {gs:Nat} {L:List io} {W:List ce} (h:lk w U V gs sv L W) (Y:ae (λr=>r=g) w w') (aa:∃c,ad w g bB c):lk w' U V gs sv L W:=
 h.dF Y λr J=>.inl (by
  have J:r=g:=J;subst J;obtain⟨c,X⟩:=aa;exact⟨_,c,X,Φ,Φ,Φ,λab=>cn h.2.1 X Φ ab⟩)
theorem bO.new {g:Nat} {H:ah} {so:Option aE} (h:bO w g B H N so) (U:ae S w w') (V:∀r,S r->B<=r):bO w' g B H N so:=by
 obtain⟨ac,w0,ad,af,gs,sv,L,ag,ai,aj,bad,ak,big,al,told,h1,W,X,am,an,ao,ap⟩:=h;have Y:g<w0.heap.size:=by obtain⟨c,aq⟩:=X;exact aq.lt
 exact⟨ac,w0,ad,af,gs,sv,L,ag,ai,aj,bad,ak,big,al,told,h1,⟨X8 W.size U.size,λr o aa J Y=>U.bc r o (W.bc r o aa J Y) J λau=>by
  have:=V r au;have:=(Z1.1 aa).1;omega⟩,X,am.ab U λJ=>by have:=V g J;omega,an,ao,ap⟩
theorem bO.ext {g:Nat} {H:ah} {so:Option aE} (h:bO w g B H N so) (J:Ext w w'):bO w' g B H N so:=h.new (J.ab λ_=>False) λ_ h=>h.elim
theorem bO.base {g:Nat} {H:ah} {so:Option aE} (h:bO w g B H N so):bO w g w.heap.size H N so:=by
 obtain⟨U,w0,V,W,gs,sv,L,X,Y,aa,bad,ab,big,ac,told,h1,ad,af,J,ag,ai,aj⟩:=h;exact⟨U,w,V,W,gs,sv,L,X,Y,aa,bad,ab,big,ac,told,rfl,ae.refl _ _,⟨_,J⟩,J,ag.g ad af,ai,aj⟩
theorem bO.dF {g:Nat} {H:ah} {so:Option aE} (h:bO w g B H N so) (W:ae S w w') (X:∀r,S r->(∃e c,ad w r e c/\e≠an/\e≠cb/\e≠ck/\e≠bB/\¬H r)\/w.heap.size<=r):bO w' g w'.heap.size H N so:=by
 obtain⟨ag,w0,Y,aa,gs,sv,L,ac,ai,aj,bad,ak,big,al,told,h1,am,ao,V,ap,af,aq⟩:=h.base;have au:lk w Y aa gs sv L ac:=ap.g am ao;have U:=V.ab W λJ=>by
  rcases X g J with⟨e,c,U,_,_,_,av,_⟩|aC
  .exact av (ea U V)
  .have:=V.lt;omega
 refine⟨ag,w',Y,aa,gs,sv,L,ac,ai,aj,bad,ak,big,al,told,rfl,ae.refl _ _,⟨_,U⟩,U,au.dF W λr aw=>(X r aw).imp (λ⟨e,c,U,ax,ay,az,_,aA⟩=>⟨e,c,U,ax,ay,az,λaB=>aA (af r aB)⟩) id,af,aq⟩
theorem bO.lt {g:Nat} {H:ah} {so:Option aE} (h:bO w g B H N so):g<B/\B<=w.heap.size:=by
 obtain⟨V,w0,W,X,gs,sv,L,Y,aa,ab,bad,ac,big,ad,told,h1,J,⟨c,U⟩,_⟩:=h;have:=U.lt;have:=J.size;omega
theorem hy {g:Nat} {H:ah} {so:Option aE} (h:bO w g B H N so):∃J,∃ (U V bad W big X told:Int),∃sv,ad w g bB (fU J U V bad W big X told sv)/\(so.isSome=true↔bad=0):=by
 obtain⟨ab,w0,J,ac,gs,sv,L,ae,U,V,bad,W,big,X,told,h1,af,ag,aa,ai,aj,Y⟩:=h;refine⟨J,U,V,bad,W,big,X,told,sv,aa,?_⟩;cases so with
 |none=>exact⟨(λh=>by cases h),λh=>absurd h Y.1⟩
 |some s=>exact⟨λ_=>Y.1,λ_=>rfl⟩
theorem ky {g:Nat} {H:ah} {so:Option aE} (h:bO w g B H N so):U x3 (bd (Γ g)) w (λJ=>U x3 (x8 bB J 3) w λt45=>U x3 (x7 ac t45) w λt46=>U x3 (aA .eql ac false true t46 (Δ 0)) w K)=K (.bool so.isSome):=by
 obtain⟨W,X,Y,bad,aa,big,ab,told,sv,V,hi⟩:=hy h;rw[aK bB.p 3 V rfl,bn];congr 2;rw[U4,decide_eq_true_eq];exact hi.symm
theorem qh {g:Nat} {H:ah} {so:Option aE} (h:bO w g B H N so):U x3 (bd (Γ g)) w (λW=>U x3 (x8 bB W 3) w λt45=>U x3 (x7 ac t45) w λt46=>U x3 (aA .neq ac false true t46 (Δ 0)) w K)=K (.bool (!so.isSome)):=by
 obtain⟨Y,aa,ab,bad,ad,big,ae,told,sv,X,hi⟩:=hy h;rw[aK bB.p 3 X rfl,bH];congr 2;cases V:so.isSome with
 |true=>have J:=hi.1 V;simp[J]
 |false=>
  have J:bad≠0:=λJ=>by rw[hi.2 J] at V;cases V
  simp[J]
def oO (w:x2) (g B:Nat) (H:ah) (N:Nat) (so:Option aE) (w':x2):Prop:=ae (λr=>r=g) w w'/\bO w' g B H N so
theorem np {g:Nat} {H:ah} {so:Option aE} {e at_:Int} (h:bO w g B H N so) (he:e≠0):ai x3 mu [Γ g,Δ e,Δ at_] w λ_ w'=>oO w g B H N ν w':=by
 refine az func101 ?_;rw[ky h];cases so with
 |none=>rw[Option.isSome_none,aT];exact⟨ae.refl _ _,h⟩
 |some s=>
  rw[Option.isSome_some,bX];obtain⟨af,w0,U,ag,gs,sv,L,aj,W,X,bad,aw,big,Y,told,h1,ak,al,am,an,ao,ap⟩:=h;rw[bu,aM bB.p rfl];refine bj (g:=g) (o:=3) ac.i rfl rfl am (by simp[fU]) λV aq ax au=>?_;rw[bu,aM bB.p rfl];refine bj (g:=g) (o:=4) ac.i rfl rfl au (by simp[fU]) λaa av ay J=>?_;have J:ad aa g bB (fU U W X e at_ big Y told sv):=J;have ab:=aq.trans av;obtain⟨_,_,_,_,_,_,_,_,aA⟩:=ap;exact⟨ab,af,w0,U,ag,gs,sv,L,aj,W,X,e,at_,big,Y,told,h1,ak.trans ab,al,J,an,ao,he,Ω⟩
theorem l3 {g:Nat} {H:ah} {so:Option aE} {b:Bool} {at_:Int} (h:bO w g B H N so):ai x3 rh [Γ g,.bool b,Δ at_] w λ_ w'=>oO w g B H N (so.map (a6 b)) w':=by
 refine az func98 ?_;obtain⟨ap,w0,U,aq,gs,sv,L,au,W,X,bad,Y,big,aF,told,h1,av,ax,ab,ay,aA,af⟩:=id h;refine aR (λv V=>w=V/\v= .bool (b&&decide (big=0)&&so.isSome)) ?_ ?_
 .rintro _ _ ⟨rfl,rfl⟩;rw[bt];refine⟨λaB=>?_,λaG=>⟨ae.refl _ _,ap,w0,U,aq,gs,sv,L,au,W,X,bad,Y,big,aF,told,h1,av,ax,ab,ay,aA,?_⟩⟩
  .rw[U8,U8] at aB;obtain⟨⟨aH,aO⟩,aI⟩:=aB;rw[bu,aM bB.p rfl];refine bj (g:=g) (o:=5) ac.i rfl rfl ab (by simp[fU]) λV aJ aP aL=>?_;rw[bu,aM bB.p rfl];refine bj (g:=g) (o:=6) ac.i rfl rfl aL (by simp[fU]) λaa aN aQ ag=>?_;have ag:ad aa g bB (fU U W X bad Y 5 at_ told sv):=ag;have aC:=aJ.trans aN;refine⟨aC,ap,w0,U,aq,gs,sv,L,au,W,X,bad,Y,5,at_,told,h1,av.trans aC,ax,ag,ay,aA,?_⟩;cases so with
   |none=>cases aI
   |some s=>
    obtain⟨aj,al,aD,am,an⟩:=af;exact⟨aj,al,⟨λ_=>by show (s.big||b)=true;rw[aH,Bool.or_true],λ_=>Ω⟩,λaw=>am (R3.1 aw).1,an⟩
  .cases so with
   |none=>exact af
   |some s=>
    obtain⟨aj,al,aD,am,an⟩:=af;refine⟨aj,al,?_,λaw=>am (R3.1 aw).1,an⟩;show big≠0↔(s.big||b)=true;cases b with
    |false=>rw[Bool.or_false];exact aD
    |true=>
     have J:big≠0:=by simpa using aG
     simp[J]
 .intro aS ao;cases b with
  |false=>rw[aT];exact ao _ _ ⟨rfl,Ξ⟩
  |true=>
   rw[bX,aK bB.p 5 ab rfl,bn,ak];refine⟨λJ=>?_,λJ=>ao _ _ ⟨rfl,by rw[decide_eq_false J];simp⟩⟩;rw[ky h];exact ao _ _ ⟨rfl,by rw[decide_eq_true J];simp⟩
def iK (so:Option aE):Option (Λ×aE):=so.bind dD
theorem B1 {g:Nat} {H:ah} {so:Option aE} (h:bO w g B H N so):ai x3 EG [Γ g] w λv w'=>oO w g B H N ((iK so).map (·.2)) w'/\ ∃ (t:Λ) (n:Int),v= .agg #[bU t,Δ n]/\Bytes t/\t.length<=65536/\ ∀q,iK so=σ q->t=q.1:=by
 have a6:=h.lt;refine az func97 ?_;refine bp ck.i λJ V bN ac af=>?_;have h1:=h.ext ac;have zero:∀ {X:x2},oO V g B H N ν X->ad X J ck [.string ⟨#[]⟩,Δ 0]->iK so=ν->(U x3 (Instr.build ck #[]) X λt9=>
   ay x3 (o7 ck (Γ J) t9) X λ(_:Unit) aa=>
   U x3 (do loadVar ck (<-asAddr (Γ J))) aa λa7=>(λv w'=>oO w g B H N ((iK so).map (·.2)) w'/\ ∃ (t:Λ) (n:Int),v= .agg #[bU t,Δ n]/\Bytes t/\t.length<=65536/\ ∀q,iK so=σ q->t=q.1) a7 aa):=by
  intro X Y an av;rw[c8 (cs:=#[.string ⟨#[]⟩,Δ 0]) Ψ];refine bK (vs:=[.string ⟨#[]⟩,Δ 0]) ck.i rfl rfl (by intro v aD;simp at aD;rcases aD with rfl|rfl<;>rfl) an λa8 aF bP ba=>?_;rw[eZ ck.p ck.i rfl ba.range,av];have bb:=ac.size;have bQ:=a6;refine⟨⟨gy ((ac.ab _).trans Y.1) aF λr W he=>?_,Y.2.new aF λr W=>?_⟩,[],0,rfl,(λb bc=>by cases bc),Ξ,λq aw=>by cases aw⟩
  .have he:r=J:=he;omega
  .have W:r=J:=W;omega
 rw[qh h1];cases so with
 |none=>
  rw[Option.isSome_none,W6,bX];exact zero ⟨ae.refl _ _,h1⟩ af rfl
 |some s=>
 rw[Option.isSome_some,Y6,aT];obtain⟨bd,w0,bR,ax,gs,sv,L,aG,aH,aI,bad,aJ,big,aL,told,be,aN,aO,ag,ao,bf,bg⟩:=id h1;have bh:=ao.g aN aO;obtain⟨⟨ap,bS⟩,_⟩:=id bh;obtain⟨bi,aP,bk,bl,bm,aQ,aR,bo,bq⟩:=id bg;rw[aK bB.p 0 ag rfl,BY ap,bn,ak];refine⟨λaS=>?_,λaS=>?_⟩
 .have bt:ax=[]:=Z8 Ω;have aj:s.toks=[]:=by rw[<-aQ,bt];rfl
  have av:iK (σ s)=ν:=by show dD s=ν;unfold dD;rw[aj]
  intro X aq _ _;have an:=ag.ext aq;rw[aK bB.p 2 an rfl,aK bB.p 1 an rfl];refine (np (h1.ext aq) aP).mono ?_;rintro _ a8 _ Y;have bw:=af.lt;exact zero ⟨(aq.ab _).trans Y.1,Y.2⟩ ((af.ext aq).ab Y.1 λhe=>by have he:J=g:=he;omega) av
 .obtain⟨x,al,rfl⟩:∃x l,ax=x::l:=by
   cases ax with
   |nil=>exact absurd rfl aS
   |cons x l=>exact⟨x,l,rfl⟩
  have aj:s.toks=x.1::al.map (·.1):=by rw[<-aQ];rfl
  have bx:iK (σ s)=σ (x.1,{s with toks:=al.map (·.1)}):=by show dD s=_;unfold dD;rw[aj]
  have aU:=aR x.1 (by rw[aj];exact .head _);rw[aK bB.p 0 ag rfl];refine BZ ap λb o bz=>?_;rw[br ck.p ck.i rfl bz];refine bp ck.i λaV bT bV bA bC=>?_;refine bK (vs:=fq x) ck.i rfl rfl (vB x) bC λbD bE bW aW=>?_;have au:Ext V bD:=bA.put bE Ω;have aX:=ag.ext au;rw[aK bB.p 0 aX rfl];refine Lr (ap.ab (au.ab λ_=>False) λ_ _ h=>h) λaA aY bF=>?_;have aZ:=aY V ap;rw[bu,aM bB.p rfl];refine bj (g:=g) (o:=0) e6.i (de aZ).1 (de aZ).2 aX (by simp[fU]) λam aB bY aC=>?_;have aC:ad am g bB (fU aA aH aI bad aJ big aL told sv):=aC;have bw:=ag.lt;have bZ:=aW.lt;have b0:=af.lt;have bb:=ac.size;have bG:ad am aV ck (fq x):=aW.ab aB λhe=>by have he:aV=g:=he;omega
  rw[br ck.p ck.i rfl bG.range];have bH:ad am J ck [.string ⟨#[]⟩,Δ 0]:=(ad.ext af au).ab aB λhe=>by have he:J=g:=he;omega
  refine bK (vs:=fq x) ck.i rfl rfl (vB x) bH λb1 a1 b2 bI=>?_;rw[eZ ck.p ck.i rfl bI.range];have a2:ae (λr=>r=g) V am:=(au.ab _).trans aB;rw[bx];refine⟨⟨gy ((ac.ab _).trans a2) a1 λr W he=>?_,?_⟩,x.1,x.2,rfl,aU.1,aU.2,λq aw=>by cases aw;rfl⟩
  .have he:r=J:=he;omega
  .have bJ:lk w0 aA al gs sv L aG:=⟨⟨aY w0 ao.1.1,λr W=>ao.1.2 r (bF r W)⟩,ao.2⟩;have bL:bO am g B H N (σ {s with toks:=al.map (·.1)}):=⟨bd,w0,aA,al,gs,sv,L,aG,aH,aI,bad,aJ,big,aL,told,be,aN.trans a2,aO,aC,bJ,bf,bi,aP,bk,bl,bm,rfl,λt bM=>aR t (by rw[aj];exact .tail _ bM),bo,by simp at bq;omega⟩;refine bL.new a1 λr W=>?_;have W:r=J:=W;omega
theorem Lw {lo hi:Int} {so:Option aE}:a8 lo hi so=match iK so with
  |none=>ν
  |some (w,s)=>match fP w with
   |none=>ν
   |some n=>if lo<=n/\n<=hi then σ (n,s) else ν:=by
 cases so with
 |none=>rfl
 |some s=>rfl
theorem jN {g:Nat} {H:ah} {so:Option aE} {lo hi:Int} (h:bO w g B H N so):ai x3 kT [Γ g,Δ lo,Δ hi] w λv w'=>oO w g B H N ((a8 lo hi so).map (·.2)) w'/\ ∃n at_:Int,v= .tuple #[Δ n,Δ at_]/\(∀q,a8 lo hi so=σ q->n=q.1)/\(a8 lo hi so=ν->n=0):=by
 have aY:=h.lt;refine az func99 ?_;refine (B1 h).mono ?_;rintro _ V _ ⟨⟨ap,h1⟩,t,at_,rfl,aD,aZ,aq⟩;have a1:=h1.lt;refine bp ck.i λaF aa a2 aG aH=>?_;refine bK (vs:=[bU t,Δ at_]) ck.i rfl rfl (by intro v au;simp at au;rcases au with rfl|rfl<;>rfl) aH λaI aJ a6 ax=>?_;have ay:Ext V aI:=aG.put aJ Ω;have aK:=h1.ext ay;rw[av ck.p 0 ax rfl];refine (Lo aD Ω).mono ?_;rintro _ ag _ ⟨rfl,aj⟩;have al:=aK.ext aj;have aA:=ax.ext aj;have aL:=ay.trans aj;have a7:=ap.size;obtain⟨n,e,aM,am,aN⟩:∃n e:Int,jC t= .tuple #[Δ n,Δ e]/\(∀m,fP t=σ m->n=m/\e=0)/\(fP t=ν->e≠0):=by
  unfold jC;cases fP t with
  |none=>exact⟨0,4,rfl,(λm hm=>by cases hm),λ_=>Ω⟩
  |some m=>exact⟨m,0,rfl,(λm hm=>by cases hm;exact⟨rfl,rfl⟩),λh=>by cases h⟩
 rw[aM,bL,bM];have J:=Lw (lo:=lo) (hi:=hi) (so:=so);have aB:ae (λr=>r=g) w ag:=ap.trans (aL.ab _);refine dv (λY=>ae (λr=>r=g) ag Y/\bO Y g B H N ((a8 lo hi so).map (·.2))) ?_ ?_
 .rintro Y ⟨ac,X⟩;rw[qh X];cases ad:a8 lo hi so with
  |none=>
   rw[ad] at X;rw[Option.map_none,Option.isSome_none,W6,bX];exact⟨⟨aB.trans ac,X⟩,0,0,rfl,(λq ad=>by cases ad),λ_=>rfl⟩
  |some q=>
   rw[ad] at X J;rw[Y4,Option.isSome_some,Y6,aT];intro ba an _ _;have aO:=(aA.ab ac λhe=>by have he:aF=g:=he;omega).ext an;rw[av ck.p 1 aO rfl];refine⟨⟨(aB.trans ac).trans (an.ab _),X.ext an⟩,n,at_,rfl,λbb aP=>?_,λh=>by cases h⟩;cases aP;cases W:iK so with
   |none=>rw[W] at J;cases J
   |some p=>
    obtain⟨bD,s1⟩:=p;have ao:=aq (bD,s1) W;subst ao;rw[W] at J;simp only at J;cases U:fP t with
    |none=>rw[U] at J;cases J
    |some m=>
     rw[U] at J;simp only at J;split at J
     .cases J;exact (am m U).1
     .cases J
 .intro bc aC;refine aR (λv Y=>ag=Y/\ ∃c:Bool,v= .bool c/\(c=true->a8 lo hi so=ν)/\(c=false->(a8 lo hi so).map (·.2)=(iK so).map (·.2))) ?_ ?_
  .rintro _ _ ⟨rfl,c,rfl,aS,aU⟩;rw[bt];refine⟨λh=>?_,λh=>aC _ ⟨ae.refl _ _,by rw[aU h];exact al⟩⟩;rw[av ck.p 1 aA rfl];refine (np al Ω).mono ?_;rintro _ Y _ ⟨ac,X⟩;exact aC _ ⟨ac,by rw[aS h];exact X⟩
  .intro bd af;rw[ky al];cases W:iK so with
   |none=>
    rw[W] at J;simp only at J;rw[Option.map_none,Option.isSome_none,aT];exact af _ _ ⟨rfl,false,rfl,(λh=>by cases h),λ_=>by rw[J,W];rfl⟩
   |some p=>
    obtain⟨bD,s1⟩:=p;have ao:=aq (bD,s1) W;subst ao;rw[W] at J;simp only at J;rw[Y4,Option.isSome_some,bX,bH,ak];refine⟨λhe=>?_,λhe=>?_⟩
    .refine af _ _ ⟨rfl,true,rfl,λ_=>?_,λh=>by cases h⟩;cases U:fP t with
     |none=>rw[J,U]
     |some m=>exact absurd (am m U).2 he
    .have aV:e=0:=X9.1 he;cases U:fP t with
     |none=>exact absurd aV (aN U)
     |some m=>
      rw[U] at J;simp only at J;have aW:=(am m U).1;subst aW;rw[aQ,ak];refine⟨λaX=>af _ _ ⟨rfl,true,rfl,λ_=>by rw[J,if_neg Ω],λh=>by cases h⟩,λaX=>?_⟩;rw[bY];refine af _ _ ⟨rfl,_,rfl,λaw=>?_,λaw=>?_⟩
      .rw[J,if_neg (by have:=of_decide_eq_true aw;omega)]
      .rw[J,if_pos (by have:=of_decide_eq_false aw;omega),W];rfl
theorem vF {dk bv:y0} {a b:Λ} (J:aH .i64 w dk a) (ac:aH .i64 w bv b):ai x3 ri [dk,bv] w λv w'=>v= .bool (decide (a=b))/\Ext w w':=by
 refine az func172 ?_;rw[aU au.u J,aU au.u ac,bH,ak];refine⟨λh=>⟨by rw[decide_eq_false];intro he;rw[he] at h;exact h rfl,Ext.refl _⟩,λh=>?_⟩;have ad:a.length=b.length:=by have:=X9.1 h;omega
 rw[aU au.u J];refine bA.range a.length (λi _ V=>Ext w V/\a.take i=b.take i) J.le ⟨Ext.refl _,rfl⟩ ?_ ?_
 .rintro i _ V k hi ⟨Y,U⟩ hk;obtain⟨x,W⟩:=aN (l:=a) hi;obtain⟨y,ab⟩:=aN (l:=b) (i:=i) Ω;refine bk Ω ?_;intro aa ae _ _;have X:=Y.trans ae;rw[bf au.u an.i Ψ (J.ext X) W,bf au.u an.i Ψ (ac.ext X) ab,bH,ak];refine⟨λaf=>⟨by rw[decide_eq_false];intro he;rw[he,ab] at W;exact af (Z9 W).symm,X⟩,λhe=>?_⟩;rw[aL];refine hk _ _ ⟨X,?_⟩;rw[r9,r9,U,W,ab,X9.1 he]
 .rintro _ V k ⟨Y,U⟩;rw[aQ,ak];refine⟨λh=>Ω,λ_=>⟨?_,Y⟩⟩;rw[o9,ad,o9] at U;rw[decide_eq_true U]
def gI (w:x2) (B J:Nat) (x:ce):Prop:=∃ax szv ca g1 U V,ad w J a1 [ax,szv,Δ x.other,ca]/\ao .i64 an w g1 ax x.scope/\ao .i64 an w U szv x.sizes/\jM w V ca x.lines/\(∀r,leads ax r\/leads szv r->B<=r)/\(∀r,leads ax r->¬leads szv r)/\B<=J
def B2 (w:x2) (r:Nat):Prop:=(∃e c,ad w r e c/\e≠an/\e≠cb/\e≠a1)\/w.heap.size<=r
theorem gI.dF {V:Nat} {x:ce} (h:gI w B V x) (U:ae S w w') (Y:∀r,S r->B2 w r):gI w' B V x:=by
 obtain⟨ax,szv,ca,g1,aa,ac,h1,ad,af,ag,ah,ai,aj⟩:=h;have W:∀r,S r->gH w r\/w.heap.size<=r:=λr ak=>(Y r ak).imp (λ⟨e,c,X,al,am,_⟩=>⟨e,c,X,al,am⟩) id;refine⟨ax,szv,ca,g1,aa,ac,h1.ab U λJ=>?_,ew ad U W,ew af U W,ag.dF U W,ah,ai,aj⟩;rcases Y V J with⟨e,c,X,_,_,an⟩|ao
 .exact an (ea X h1)
 .have:=h1.lt;omega
theorem gI.ext {x:ce} (h:gI w B J x) (U:Ext w w'):gI w' B J x:=h.dF (U.ab λ_=>False) λ_ h=>h.elim
theorem jO {g:Nat} {H:ah} {so:Option aE} (h:bO w g B H N so):∀r,r=g->B2 w r:=λr J=>by
 subst J;obtain⟨V,W,X,bad,Y,big,aa,told,sv,U,_⟩:=hy h;exact .inl ⟨_,_,U,Φ,Φ,Φ⟩
def gn (g B:Nat):ah:=λr=>r=g\/B<=r
theorem Lx {n:Int} {k:Nat} {acc:Λ} {s:aE}:cD (λacc s=>match ba 0 (n-1) s with
 |none=>ν
 |some (v,s)=>if v∈acc then ν else σ (v,s)) (k+1) acc s=match ba 0 (n-1) s with
  |none=>ν
  |some (v,s')=>if v∈acc then ν else cD (λacc s=>match ba 0 (n-1) s with
 |none=>ν
 |some (v,s)=>if v∈acc then ν else σ (v,s)) k (acc++[v]) s':=by
 rw[cD];cases ba 0 (n-1) s with
 |none=>rfl
 |some q=>
  obtain⟨v,s'⟩:=q;simp only;by_cases J:v∈acc
  .rw[if_pos J,if_pos J]
  .rw[if_neg J,if_neg J]
def B3 (n:Int) (k:Nat) (acc:Λ) (s:aE):Option (Λ×aE):=cD (λacc s=>match ba 0 (n-1) s with
 |none=>ν
 |some (v,s)=>if v∈acc then ν else σ (v,s)) k acc s
theorem B4 {g ar:Nat} {H:ah} {s:aE} {so:Option aE} {aK:y0} {bm bo:x2->Prop} (aw:bO w g B H N so) (cr:so=σ s\/(so=ν/\ar=0)) (ct:gI w B X ⟨[],[],0,[]⟩) (cu:∀c,ad w X a1 c->c[3]? =σ (.slice ν 0 0)) (b2:ao .i64 an w gz aK all) (cw:∀r,leads aK r->r<B) (dH:all.length<=100001) (dI:ar<=4611686018427387904) (bp:so=σ s->s.toks.length<=100000)
  (aY:so=σ s-> ∀w' x,ae (gn g B) w w'->eK all.length ar s=ν->bO w' g B H N ν->gI w' B X x->bm w')
  (cz:so=ν->bo w)
  (bq:so=σ s-> ∀w' scope s',ae (gn g B) w w'->eK all.length ar s=σ (scope,s')->bO w' g B H N (σ s')->gI w' B X ⟨scope,scope.map λv=>all.getD v.toNat 0,0,[]⟩->(∀c,ad w' X a1 c->c[3]? =σ (.slice ν 0 0))->bo w'):
  b0 (Δ 0) w λi Y k=>
   bJ (α:=y0->x2->Prop) (λ(cA:y0) (ap:x2)=>
    Split cA (U x3 (X0 #[au] ac #[aK]) ap λt53=>
   U x3 (aA .sub an false true t53 (Δ 1)) ap λcB=>
   ai x3 kT [Γ g,(Δ 0),cB] ap λt55 aa=>
   U x3 (Y0 t55 0) aa λbr=>
   U x3 (Y0 t55 1) aa λcC=>
   U x3 (bd (Γ g)) aa λcD=>
   U x3 (x8 bB cD 3) aa λcE=>
   U x3 (x7 ac cE) aa λcF=>
   U x3 (aA .neq ac false true cF (Δ 0)) aa λcG=>
   Split cG (bm aa)
    (U x3 (x8 a1 (Γ X) 0) aa λcH=>
   U x3 (x7 au cH) aa λb3=>
   U x3 (X0 #[au] ac #[b3]) aa λt66=>
   b0 (Δ 0) aa λbt ag cI=>
    U x3 (aA .lss ac false false bt t66) ag λcJ=>
    Split cJ (U x3 (l7 au b3 bt) ag λcL=>
    U x3 (x7 an cL) ag λt70=>
    U x3 (aA .eql an false false t70 br) ag λcM=>
    Split cM (ai x3 mu [Γ g,(Δ 4),cC] ag λt76 bu=>bm bu)
     (U x3 (aA .add ac false true bt (Δ 1)) ag λcN=>
    cI cN ag))
     (U x3 (x8 a1 (Γ X) 0) ag λcO=>
   U x3 (x7 au cO) ag λcP=>
   ay x3 (Y1 au 1 #[(0,br)]) ag λcQ aO=>
   ay x3 (j4 #[au,au] au #[cP,cQ]) aO λcR bx=>
   U x3 (x8 a1 (Γ X) 0) bx λcS=>
   ay x3 (o7 au cS cR) bx λ(_:Unit) aB=>
   cK aB λaD=>
   U x3 (x8 a1 (Γ X) 1) aD λbA=>
   U x3 (x7 au bA) aD λb4=>
   U x3 (l7 au aK br) aD λcT=>
   U x3 (x7 an cT) aD λcU=>
   ay x3 (Y1 au 1 #[(0,cU)]) aD λcV aJ=>
    (Ext aD aJ\/bw x3 (x7 au bA) b4 aJ/\bw x3 (x8 a1 (Γ X) 1) bA aJ/\True)/\
   ay x3 (j4 #[au,au] au #[b4,cV]) aJ λcW bC=>
    U x3 (x8 a1 (Γ X) 1) bC λcX=>
    ay x3 (o7 au cX cW) bC λ(_:Unit) aF=>
     U x3 (aA .add an false true i (Δ 1)) aF λcY=>
   k cY aF)))
     (bo ap)) λb6=>
   U x3 (aA .lss an false false i (Δ (ar:Int))) Y λcZ=>
   Split cZ (U x3 (bd (Γ g)) Y λc1=>
   U x3 (x8 bB c1 3) Y λc2=>
   U x3 (x7 ac c2) Y λt45=>
   U x3 (aA .eql ac false true t45 (Δ 0)) Y λt46=>
   b6 t46 Y)
    (b6 (.bool false) Y):=by
 have dK:=aw.lt;rcases cr with rfl|⟨rfl,rfl⟩
 rotate_left
 .refine b0.range 0 (λ_ V=>w=V) Ω rfl (λi V k hi=>Ω) ?_;rintro _ k rfl;refine aR (λv ap=>w=ap/\v= .bool false) ?_ ?_
  .rintro _ _ ⟨rfl,rfl⟩;rw[aT];exact cz rfl
  .intro b7 aP;rw[aQ,ak];exact⟨λh=>Ω,λ_=>aP _ _ ⟨rfl,rfl⟩⟩
 have h:=aw;have bp:=bp rfl;have aY:=aY rfl;have bq:=bq rfl;refine b0.range ar (λi Y=>∃scope aq,ae (gn g B) w Y/\bO Y g B H N (σ aq)/\gI Y B X ⟨scope,scope.map λv=>all.getD v.toNat 0,0,[]⟩/\scope.length=i/\scope.length+aq.toks.length<=100000/\eK all.length ar s=B3 all.length (ar-i) scope aq/\ ∀c,ad Y X a1 c->c[3]? =σ (.slice ν 0 0)) Ω ⟨[],s,ae.refl _ _,h,ct,rfl,by simpa using bp,rfl,cu⟩ ?_ ?_
 rotate_left
 .rintro Y k ⟨scope,aq,aZ,aC,a2,b8,c3,af,bD⟩;refine aR (λv ap=>Y=ap/\v= .bool false) ?_ ?_
  .rintro _ _ ⟨rfl,rfl⟩;rw[aT];rw[V9] at af;exact bq Y scope aq aZ af aC a2 bD
  .intro b7 aP;rw[aQ,ak];exact⟨λh=>Ω,λ_=>aP _ _ ⟨rfl,rfl⟩⟩
 rintro i Y k hi ⟨scope,aq,aZ,aC,a2,b8,c3,af,bD⟩ hk;refine aR (λv ap=>Y=ap/\v= .bool true) ?_ ?_
 rotate_left
 .intro b7 aP;refine bk Ω ?_;rw[ky aC];exact aP _ _ ⟨rfl,rfl⟩
 rintro _ _ ⟨rfl,rfl⟩;rw[bX];have b9:∀ {w':x2},ae (gn g B) w w'->ao .i64 an w' gz aK all:=λc4=>be b2 c4 λr W J=>by
  rcases J with rfl|J
  .obtain⟨c5,aj,aS,bad,c6,big,c7,told,sv,al,_⟩:=hy h;exact b5 b2 al Φ W rfl
  .have:=cw r W;omega
 rw[aU au.u (b9 aZ).ls,dj,wrap_i64 Ω Ω];refine (jN aC).mono ?_;rintro _ aa _ ⟨⟨bE,am⟩,n,at_,rfl,bF,c8⟩;rw[bL,bM,qh am];have bG:=a2.dF bE (jO aC);have bH:ae (gn g B) w aa:=aZ.trans (bE.mono λr _ h=>.inl h);have c9:=Lx (n:=(all.length:Int)) (k:=ar-(i+1)) (acc:=scope) (s:=aq);have da:ar-i=(ar-(i+1))+1:=Ω
 rw[da] at af;unfold B3 at af;rw[c9] at af;have dc:a8 0 ((all.length:Int)-1) (σ aq)=ba 0 ((all.length:Int)-1) aq:=rfl;rw[dc] at am bF c8 ⊢;cases a6:ba 0 ((all.length:Int)-1) aq with
 |none=>
  rw[a6] at am af;rw[Option.map_none,Option.isSome_none,W6,bX];exact aY aa _ bH af am bG
 |some q=>
  obtain⟨v,bI⟩:=q;rw[a6] at am af bF;have dd:n=v:=bF _ rfl;subst dd;have dL:=(hr a6).1;have dM:=(db a6).1;simp only at af;rw[Y4,Option.isSome_some,Y6,aT];have am:bO aa g B H N (σ bI):=am;obtain⟨ax,szv,ca,g1,de,bK,f1,f2,f3,f4,f5,f6,f7⟩:=id bG;rw[av a1.p 0 f1 rfl,aU au.u f2.ls];have dN:scope.length<=100000:=Ω
  refine b0.range scope.length (λj ag=>aa=ag/\n∉scope.take j) Ω ⟨rfl,Ξ⟩ ?_ ?_
  .rintro j _ df dg ⟨rfl,a7⟩ dh;obtain⟨u,hu⟩:=aN (l:=scope) dg;rw[aQ,ak];refine⟨λ_=>?_,λh=>by simp only at h;omega⟩;rw[bf au.u an.i Ψ f2.ls hu,bn,ak];refine⟨λhe=>?_,λdi=>?_⟩
   .refine (np am Ω).mono ?_;rintro _ bu _ ⟨cb,dk⟩;rw[if_pos (by rw[<-he];exact x5 hu)] at af;exact aY bu _ (bH.trans (cb.mono λr _ h=>.inl h)) af dk (bG.dF cb (jO am))
   .rw[aL];refine dh _ ⟨rfl,?_⟩;rw[r9,hu];intro hm;rcases l5.1 hm with hm|hm
    .exact a7 hm
    .simp at hm;exact di hm.symm
  .rintro _ df ⟨rfl,a7⟩;rw[o9] at a7;rw[aQ,ak];refine⟨λh=>by simp only at h;omega,λ_=>?_⟩;rw[if_neg a7] at af;rw[av a1.p 0 f1 rfl];refine dJ au.u an.i rfl λdO dP aO dQ az dl=>?_;have dR:=am.lt;refine fc au.u an.i rfl (f2.ext az) dl.ls Θ Θ λaG bN bx bb dm cc=>?_;have bc:=f1.ext az;have f113:=bc.ab cc λhe=>b5 (f2.ext az) bc Φ he rfl;rw[aM a1.p rfl];refine bj (g:=X) (o:=0) au.i bb.ls.cells.1 bb.ls.cells.2 f113 Ξ λaB cd dS bg=>?_;have bg:ad aB X a1 [aG,szv,Δ 0,ca]:=bg;intro aD bP _ _;have aV:ae (λr=>leads ax r\/r=X) aO aB:=(cc.mono λr _ h=>.inl h).trans (cd.mono λr _ h=>.inr h);have ce:∀r,(leads ax r\/r=X)->gn g B r:=λr W=>.inr (W.elim (λW=>f5 r (.inl W)) λW=>W▸f7);have cg:ae (gn g B) w aB:=(bH.trans (az.ab _)).trans (aV.mono λr _ W=>ce r W);have dn:ae (gn g B) w aD:=cg.trans (bP.ab _);have dp:ao .i64 an aB de szv _:=be (f3.ext az) aV λr W J=>by
    rcases J with J|rfl
    .exact f6 r J W
    .exact b5 (f3.ext az) bc Φ W rfl
   have dq:ao .i64 an aB bN aG (scope++[n]):=be bb cd λr W he=>by
    have he:r=X:=he;subst he;exact b5 bb f113 Φ W rfl
   have dr:∀r,(leads ax r\/r=X)->(∃c,ad aO r an c)\/ ∃c,ad aO r a1 c:=λr W=>by
    rcases W with W|rfl
    .obtain⟨aj,_⟩:=bz f2 W;obtain⟨_,⟨aW,_⟩|⟨_,cs,aW,al,_⟩⟩:=f2.ext az
     .rw[aW] at W;obtain⟨a,ds,c,aj,aS⟩:=W;cases aj
     .exact .inl ⟨cs,aj▸al⟩
    .exact .inr ⟨_,bc⟩
   have dt:jM aB bK ca []:=by
    obtain⟨L,aH,du,bQ⟩:=f4.dF (az.ab λ_=>False) λ_ h=>h.elim;have bR:L=[]:=List.map_eq_nil_iff.1 bQ;subst bR;refine⟨[],aH.ab aV λr W J=>?_,λy bS=>(by cases bS),rfl⟩;rcases dr r J with⟨c,al⟩|⟨c,al⟩
    .exact cn aH al Φ W
    .exact cn aH al Φ W
   have dv:bO aB g B H N (σ bI):=(am.ext az).new aV λr W=>by
    rcases ce r W with rfl|h
    .rcases W with W|W
     .exact f5 _ (.inl W)
     .exact W▸f7
    .exact h
   rw[av a1.p 1 (bg.ext bP) rfl];have dw:all[n.toNat]? =σ (all.getD n.toNat 0):=by rw[u9,x6 Ω];rfl
   rw[dY (y:=n) (i:=n.toNat) Ω au.u an.i Ψ (b9 dn).ls dw];refine dJ au.u an.i rfl λdT dU aJ dV ch dx=>?_;refine⟨.inl ch,?_⟩;have aI:=bP.trans ch;have f316:=dp.ext aI;have ci:(scope.map λv=>all.getD v.toNat 0).length=scope.length:=u5 _;refine fc au.u an.i rfl f316 dx.ls (by simp at ci ⊢;omega) (by simp at ci ⊢;omega) λbT dy bC bh cj ck=>?_;have bi:=bg.ext aI;have cl:=bi.ab ck λhe=>b5 f316 bi Φ he rfl;rw[aM a1.p rfl];refine bj (g:=X) (o:=1) au.i bh.ls.cells.1 bh.ls.cells.2 cl Ξ λaF cm dW aX=>?_;have aX:ad aF X a1 [aG,bT,Δ 0,ca]:=aX;rw[aL];have bl:ae (λr=>leads szv r\/r=X) aJ aF:=(ck.mono λr _ h=>.inl h).trans (cm.mono λr _ h=>.inr h);have cp:∀r,(leads szv r\/r=X)->B<=r:=λr W=>W.elim (λW=>f5 r (.inr W)) λW=>W▸f7;have bU:=dq.ext aI;have dX:=az.size;have dZ:=aV.size;have bV:∀r,leads aG r->B<=r/\¬leads szv r:=λr W=>by
    rcases dm r W with h|h
    .exact⟨f5 r (.inl h),f6 r h⟩
    .exact⟨Ω,λbW=>by obtain⟨aj,aS⟩:=bz f3 bW;omega⟩
   have dz:ao .i64 an aF bN aG (scope++[n]):=be bU bl λr W J=>by
    rcases J with J|rfl
    .exact (bV r W).2 J
    .exact b5 bU bi Φ W rfl
   have dA:=be bh cm λr W he=>by
    have he:r=X:=he;subst he;exact b5 bh cl Φ W rfl
   have dC:jM aF bK ca []:=by
    obtain⟨L,aH,du,bQ⟩:=dt.dF (aI.ab λ_=>False) λ_ h=>h.elim;have bR:L=[]:=List.map_eq_nil_iff.1 bQ;subst bR;refine⟨[],aH.ab bl λr W J=>?_,λy bS=>(by cases bS),rfl⟩;rcases J with J|rfl
    .obtain⟨aj,_⟩:=bz f316 J;obtain⟨_,⟨aW,_⟩|⟨_,cs,aW,al,_⟩⟩:=f316
     .rw[aW] at J;obtain⟨a,ds,c,aj,aS⟩:=J;cases aj
     .exact cn aH (aj▸al) Φ W
    .exact cn aH bi Φ W
   refine hk _ ⟨scope++[n],bI,((cg.trans (aI.ab _)).trans (bl.mono λr _ W=>.inr (cp r W))),(dv.ext aI).new bl cp,⟨aG,bT,ca,bN,dy,bK,aX,dz,by rw[j9];exact dA,dC,λr W=>?_,λr W bW=>?_,f7⟩,by rw[r8,b8];rfl,by rw[r8];simp;omega,af,λc bY=>?_⟩
   .rcases W with W|W
    .exact (bV r W).1
    .rcases cj r W with h|h
     .exact f5 r (.inr h)
     .have:=aI.size;omega
   .rcases cj r bW with h|h
    .exact (bV r W).2 h
    .obtain⟨aj,aS⟩:=bz bU W;omega
   .have dD:c=[aG,bT,Δ 0,ca]:=by
     unfold ad at bY aX;rw[aX] at bY;have:=(Obj.cells.inj (Z9 bY)).1;exact (Array.toList_inj.2 this).symm
    have dE:ca= .slice ν 0 0:=by
     obtain⟨ec,ed,ee,_,_,_,bZ,_⟩:=a2;have cq:=bD _ bZ;have b1:=bZ.ab bE λhe=>by
      have he:X=g:=he;obtain⟨c5,aj,aS,bad,c6,big,c7,told,sv,al,_⟩:=hy aC;subst he;exact absurd (ea al bZ) Φ
     unfold ad at b1 f1;rw[f1] at b1;have dG:=Array.toList_inj.2 (Obj.cells.inj (Z9 b1)).1;have aC:=congrArg (λl=>l[3]?) dG;simp at aC;simp at cq;rw[aC,cq]
    rw[dD,dE];rfl
theorem Ly {ae:y0->x2->Prop} (h:aH .i64 w sv l) (h1:∀z∈l,1<=z) (ao:∀c:Int,(4096<c↔df l=true)->ae (Δ c) w):
  bA (Δ 1) (Δ 0) w λcount Y J ap=>
   U x3 (aA .lss ac false false Y (Δ (l.length:Int))) J λaq=>
   Split aq (bJ (α:=y0->x2->Prop) (λ(av:y0) (af:x2)=>
    U x3 (aA .add ac false true Y (Δ 1)) af λax=>
    ap av ax af) λag=>
   U x3 (l7 au sv Y) J λay=>
   U x3 (x7 an ay) J λah=>
   bJ (α:=y0->x2->Prop) (λ(az:y0) (W:x2)=>
    U x3 (aA .mul an false false count az) W λai=>
    U x3 (aA .gtr an false true ai (Δ 4096)) W λaB=>
    Split aB (ag (Δ 4097) W)
     (ag ai W)) λaj=>
   U x3 (aA .gtr an false true ah (Δ 4096)) J λaC=>
   Split aC (aj (Δ 4097) J)
    (aj ah J))
    (ae count J):=by
 refine bA.range l.length (λi c V=>w=V/\ ∃p:Int,p=aJ ((l.take i).map λk=>min k 4097)/\1<=p/\c=Δ (if 4096<p then 4097 else p)) h.le ⟨rfl,1,by simp[aJ],Ω,by rw[if_neg Ω]⟩ ?_ ?_
 .rintro i _ _ aD hi ⟨rfl,p,X,aE,rfl⟩ aF;obtain⟨z,ab⟩:=aN (l:=l) hi;have aI:=h1 z (x5 ab);have e:aJ ((l.take (i+1)).map λk=>min k 4097)=p*min z 4097:=by
   rw[X,r9,ab,j6,j9,T2,List.map_nil,rU]
  have aK:p*1<=p*min z 4097:=Int.mul_le_mul_of_nonneg_left Ω Ω;refine bk Ω ?_;refine aR (λv aa=>w=aa/\v=Δ (if 4096<p*min z 4097 then 4097 else p*min z 4097)) ?_ ?_
  .rintro _ _ ⟨rfl,rfl⟩;rw[aL];exact aF _ _ ⟨rfl,_,e.symm,Ω,rfl⟩
  intro aM ad;rw[bf au.u an.i Ψ h ab];refine aR (λv aa=>w=aa/\v=Δ (min z 4097)) ?_ ?_
  .rintro _ _ ⟨rfl,rfl⟩;rw[fL];by_cases al:4096<p
   .rw[if_pos al];have aG:(4097:Int)*1<=4097*min z 4097:=Int.mul_le_mul_of_nonneg_left Ω Ω;rw[wrap_i64 Ω Ω,bY,ak];refine⟨λ_=>ad _ _ ⟨rfl,by rw[if_pos Ω]⟩,λaO=>Ω⟩
   .rw[if_neg al];have aG:p*min z 4097<=4096*4097:=by
     have aP:=Int.mul_le_mul_of_nonneg_right (show p<=4096 by omega) (show 0<=min z 4097 by omega);have aS:=Int.mul_le_mul_of_nonneg_left (show min z 4097<=4097 by omega) (show (0:Int)<=4096 by omega);omega
    rw[wrap_i64 Ω Ω,bY,ak];exact⟨λaw=>ad _ _ ⟨rfl,by rw[if_pos aw]⟩,λaw=>ad _ _ ⟨rfl,by rw[if_neg aw]⟩⟩
  .intro aT am;rw[bY,ak];exact⟨λaw=>am _ _ ⟨rfl,by congr 1;omega⟩,λaw=>am _ _ ⟨rfl,by congr 1;omega⟩⟩
 .rintro _ _ aD ⟨rfl,p,X,aE,rfl⟩;rw[o9] at X;rw[aQ,ak];refine⟨λh=>Ω,λ_=>ao _ ?_⟩;unfold df;rw[<-X,decide_eq_true_eq];split
  .exact⟨λ_=>Ω,λ_=>Ω⟩
  .exact Iff.rfl
theorem Lz {g am:Nat} {H:ah} {so:Option aE} {aQ:x2->Prop} (h:bO w g B H N so) (al:ao .i64 an w gz szv sizes) (bb:∀z∈sizes,1<=z/\z<=aq) (bS:sizes.length<=100001)
  (aI:ad w am cb [.slice ν 0 0,Δ 0]) (bc:B<=am)
  (aR:∀t w' aF X,t.length=sizes.length->ae (λr=>r=g\/r=am\/w.heap.size<=r) w w'->ad w' am cb [aF,Δ 0]->ao .i64 an w' X aF t->(∀r,leads aF r->w.heap.size<=r)->bO w' g B H N ((eU sizes [] so).map (·.2))->(∀q,eU sizes [] so=σ q->t=q.1)->aQ w'):
  b0 (Δ 0) w λaJ af bd=>
      U x3 (aA .lss ac false false aJ (Δ (sizes.length:Int))) af λbg=>
      Split bg (U x3 (l7 au szv aJ) af λbh=>
      U x3 (x7 an bh) af λbi=>
      U x3 (aA .sub an false true bi (Δ 1)) af λbl=>
      ai x3 kT [Γ g,(Δ 0),bl] af λaS ap=>
      U x3 (Y0 aS 0) ap λbm=>
      U x3 (Y0 aS 1) ap λbT=>
      U x3 (x8 cb (Γ am) 0) ap λbn=>
      U x3 (x7 au bn) ap λbo=>
      ay x3 (Y1 au 1 #[(0,bm)]) ap λbp bq=>
      ay x3 (j4 #[au,au] au #[bo,bp]) bq λbr aT=>
      U x3 (x8 cb (Γ am) 0) aT λbt=>
      ay x3 (o7 au bt br) aT λ(_:Unit) aU=>
      U x3 (aA .add ac false true aJ (Δ 1)) aU λbu=>
      bd bu aU)
       (aQ af):=by
 have bU:=aI.lt;have bV:=h.lt;refine b0.range sizes.length (λj V=>∃t aF X s1,t.length=j/\ae (λr=>r=g\/r=am\/w.heap.size<=r) w V/\ad V am cb [aF,Δ 0]/\ao .i64 an V X aF t/\(∀r,leads aF r->w.heap.size<=r)/\bO V g B H N s1/\eU sizes [] so=eU (sizes.drop j) t s1) al.ls.le
  ⟨[],_,0,so,rfl,ae.refl _ _,aI,ao.nil _ _ _ _,(λr W=>by obtain⟨a,n,c,aB,aK⟩:=W;cases aB),h,rfl⟩ ?_ ?_
 rotate_left
 .rintro V bw ⟨t,aF,X,s1,aC,ag,aD,aw,aj,ax,he⟩;refine b2 Ω ?_;rw[List.drop_length] at he;cases s1 with
  |none=>
   have he:eU sizes [] so=ν:=he;exact aR t V aF X aC ag aD aw aj (by rw[he];exact ax) (λq Y=>by rw[he] at Y;cases Y)
  |some s1=>
   have he:eU sizes [] so=σ (t,s1):=he;exact aR t V aF X aC ag aD aw aj (by rw[he];exact ax) (λq Y=>by rw[he] at Y;cases Y;rfl)
 rintro j V bw aV ⟨t,aF,X,s1,aC,ag,aD,aw,aj,ax,he⟩ bx;obtain⟨z,aO⟩:=aN (l:=sizes) aV;have bA:=bb z (x5 aO);have bW:z<=4611686018427387904:=bA.2;have bC:ao .i64 an V gz szv sizes:=be al ag λr W J=>by
  rcases J with rfl|rfl|J
  .obtain⟨bD,aB,aK,bad,bE,big,bF,told,sv,az,_⟩:=hy h;exact b5 al az Φ W rfl
  .exact b5 al aI Φ W rfl
  .obtain⟨aB,aK⟩:=bz al W;omega
 refine bk Ω ?_;rw[bf au.u an.i Ψ bC.ls aO,dj,wrap_i64 Ω Ω];refine (jN ax).mono ?_;rintro _ aa _ ⟨⟨aG,bG⟩,n,at_,rfl,bH,bX⟩;rw[bL,bM];have bI:am≠g:=Ω
 have aW:=aD.ab aG λhe=>bI he;have bJ:∃c,ad V g bB c:=by obtain⟨bD,aB,aK,bad,bE,big,bF,told,sv,az,_⟩:=hy ax;exact⟨_,az⟩
 have aX:ao .i64 an aa X aF t:=be aw aG λr W he=>by
  have he:r=g:=he;obtain⟨c,az⟩:=bJ;exact b5 aw az Φ W he
 rw[av cb.p 0 aW rfl];refine dJ au.u an.i rfl λa3 bY bK bZ ak bN=>?_;refine fc au.u an.i rfl (aX.ext ak) bN.ls Θ Θ λaY bP b1 aH bQ aZ=>?_;have a1:=aW.ext ak;have a2:=a1.ab aZ λhe=>b5 (aX.ext ak) a1 Φ he rfl;rw[aM cb.p rfl];refine bj (g:=am) (o:=0) au.i aH.ls.cells.1 aH.ls.cells.2 a2 Ξ λa6 a7 b3 aP=>?_;have aP:ad a6 am cb [aY,Δ 0]:=aP;rw[aL];have ba:ae (λr=>leads aF r\/r=am) bK a6:=(aZ.mono λr _ h=>.inl h).trans (a7.mono λr _ h=>.inr h);have b4:=ag.size;have b6:=aG.size;have z3:=ak.size;refine bx _ ⟨t++[n],aY,bP,(a8 0 (z-1) s1).map (·.2),by simp[aC],?_,aP,be aH a7 λr W he=>?_,λr W=>?_,?_,?_⟩
 .refine (ag.trans (aG.mono λr _ h=>.inl h)).trans ((ak.ab _).trans (ba.mono λr _ h=>?_));exact h.elim (λh=>.inr (.inr (aj r h))) λh=>.inr (.inl h)
 .have he:r=am:=he;subst he;exact b5 aH a2 Φ W rfl
 .rcases bQ r W with h|h
  .exact aj r h
  .omega
 .refine (bG.ext ak).new ba λr W=>?_;rcases W with W|rfl
  .have:=aj r W;omega
  .exact bc
 .rw[he];have bR:sizes.drop j=z::sizes.drop (j+1):=by rw[V4 aV,(x4.1 aO).2]
  rw[bR,AD];cases Y:a8 0 (z-1) s1 with
  |none=>rfl
  |some q=>
   obtain⟨v,b7⟩:=q;have:=bH _ Y;subst this;rfl
theorem vG {g:Nat} {c:Int} (h:ao .i64 an w g v t):∀u∈nn ⟨v,t,c⟩,u.oneCell'=true:=by
 intro u hu;simp[nn] at hu;rcases hu with rfl|rfl
 .exact h.ls.cells.2
 .rfl
def LA (sizes:Λ) (cnt i:Nat) (s0:aE) (A:List (Λ×Int)) (so:Option aE):Prop:=(∃s,so=σ s/\cD (dK sizes) cnt [] s0=cD (dK sizes) (cnt-i) A s/\A.length+s.toks.length<=100000)\/(so=ν/\cD (dK sizes) cnt [] s0=ν)
theorem LB {g af g1 bt aC:Nat} {H:ah} {s0:aE} {ax ca:y0} {scope:Λ} {o n:Int} {a2:List (Λ×Int)} {ci:x2->Prop} (h:bO w g B H N (σ s0)) (f1:ad w af a1 [ax,szv,Δ o,ca]) (f2:ao .i64 an w g1 ax scope) (f3:ao .i64 an w bt szv sizes) (f4:jM w aC ca a2)
  (f5:∀r,leads ax r\/leads szv r->B<=r) (f6:∀r,leads ax r->¬leads szv r) (f7:B<=af) (da:∀z∈sizes,1<=z/\z<=aq) (dc:sizes.length<=100001) (fb:n<=4611686018427387904) (bP:0<n->a2=[]/\ ∀r,¬leadsTo ca r) (dd:s0.toks.length<=100000)
  (cj:∀w' A bQ,ae (gn g B) w w'->gI w' B af ⟨scope,sizes,o,A⟩->bO w' g B H N bQ->(n<=0->A=a2/\bQ=σ s0)->(0<n->bQ=(cD (dK sizes) n.toNat [] s0).map (·.2)/\ ∀q,cD (dK sizes) n.toNat [] s0=σ q->A=q.1)->ci w'):
  b0 (Δ 0) w λck aI df=>
     bJ (α:=y0->x2->Prop) (λ(dg:y0) (cl:x2)=>
      Split dg (ay x3 (S8 cb true (.tuple #[])) cl λx aD=>
     U x3 (x8 a1 (Γ af) 1) aD λdh=>
     U x3 (x7 au dh) aD λcm=>
     U x3 (X0 #[au] ac #[cm]) aD λdi=>
     b0 (Δ 0) aD λbR aJ dj=>
      U x3 (aA .lss ac false false bR di) aJ λdk=>
      Split dk (U x3 (l7 au cm bR) aJ λdl=>
      U x3 (x7 an dl) aJ λdm=>
      U x3 (aA .sub an false true dm (Δ 1)) aJ λdn=>
      ai x3 kT [Γ g,(Δ 0),dn] aJ λcp a6=>
      U x3 (Y0 cp 0) a6 λdp=>
      U x3 (Y0 cp 1) a6 λfc=>
      U x3 (x8 cb x 0) a6 λdq=>
      U x3 (x7 au dq) a6 λdr=>
      ay x3 (Y1 au 1 #[(0,dp)]) a6 λds du=>
      ay x3 (j4 #[au,au] au #[dr,ds]) du λdw cq=>
      U x3 (x8 cb x 0) cq λdx=>
      ay x3 (o7 au dx dw) cq λ(_:Unit) cr=>
      U x3 (aA .add ac false true bR (Δ 1)) cr λdz=>
      dj dz cr)
       (ai x3 kT [Γ g,(Δ 0),(Δ 4611686018427387904)] aJ λct X=>
     U x3 (Y0 ct 0) X λdA=>
     U x3 (Y0 ct 1) X λdC=>
     U x3 (x8 a1 (Γ af) 3) X λdD=>
     U x3 (x7 dT dD) X λcu=>
     U x3 (X0 #[dT] ac #[cu]) X λdE=>
     b0 (Δ 0) X λbS ag dG=>
      U x3 (aA .lss ac false false bS dE) ag λdH=>
      Split dH (bJ (α:=x2->Prop) (λ(aW:x2)=>
       U x3 (aA .add ac false true bS (Δ 1)) aW λdI=>
       dG dI aW) λcw=>
      U x3 (l7 dT cu bS) ag λdJ=>
      U x3 (x7 cb dJ) ag λdL=>
      ay x3 (S8 cb true (.tuple #[])) ag λy cz=>
      ay x3 (o7 cb y dL) cz λ(_:Unit) aj=>
      bJ (α:=y0->x2->Prop) (λ(dM:y0) (a7:x2)=>
       Split dM (ai x3 mu [Γ g,(Δ 4),dC] a7 λfd cA=>
        cw cA)
        (cw a7)) λcB=>
      U x3 (bd (Γ g)) aj λdN=>
      U x3 (x8 bB dN 3) aj λdO=>
      U x3 (x7 ac dO) aj λdP=>
      U x3 (aA .eql ac false true dP (Δ 0)) aj λdQ=>
      Split dQ (U x3 (x8 cb x 0) aj λdR=>
       U x3 (x7 au dR) aj λdS=>
      U x3 (x8 cb y 0) aj λdU=>
      U x3 (x7 au dU) aj λdV=>
      ai x3 ri [dS,dV] aj λdW cC=>
      cB dW cC)
       (cB (.bool false) aj))
       (U x3 (x8 cb x 1) ag λdX=>
     ay x3 (o7 an dX dA) ag λ(_:Unit) aG=>
     U x3 (x8 a1 (Γ af) 3) aG λdY=>
     U x3 (x7 dT dY) aG λdZ=>
     U x3 (x7 cb x) aG λea=>
     ay x3 (Y1 dT 1 #[(0,ea)]) aG λec bu=>
     ay x3 (j4 #[dT,dT] dT #[dZ,ec]) bu λed bT=>
     U x3 (x8 a1 (Γ af) 3) bT λee=>
     ay x3 (o7 dT ee ed) bT λ(_:Unit) aH=>
     U x3 (aA .add an false true ck (Δ 1)) aH λef=>
     df ef aH)))
       (ci cl)) λcF=>
     U x3 (aA .lss an false false ck (Δ n)) aI λeg=>
     Split eg (U x3 (bd (Γ g)) aI λeh=>
     U x3 (x8 bB eh 3) aI λei=>
     U x3 (x7 ac ei) aI λej=>
     U x3 (aA .eql ac false true ej (Δ 0)) aI λek=>
     cF ek aI)
      (cF (.bool false) aI):=by
 have em:=h.lt;refine b0.range n.toNat (λi V=>∃A so ca aC,ae (gn g B) w V/\ad V af a1 [ax,szv,Δ o,ca]/\ao .i64 an V g1 ax scope/\ao .i64 an V bt szv sizes/\jM V aC ca A/\(0<n-> ∀r,leadsTo ca r->B<=r)/\bO V g B H N so/\(n<=0->A=a2/\so=σ s0)/\(0<n->LA sizes n.toNat i s0 A so)) Ω
  ⟨a2,σ s0,ca,aC,ae.refl _ _,f1,f2,f3,f4,λaz r W=>absurd W ((bP az).2 r),h,λ_=>⟨rfl,rfl⟩,λaz=>.inl ⟨s0,rfl,by rw[(bP az).1];rfl,by rw[(bP az).1];simpa using dd⟩⟩ ?_ ?_
 rotate_left
 .rintro V k ⟨A,so,ca,aC,bb,aX,bw,bc,bf,bU,aK,cG,Y⟩;refine aR (λv aa=>V=aa/\v= .bool false) ?_ ?_
  .rintro _ _ ⟨rfl,rfl⟩;rw[aT];refine cj V A so bb ⟨ax,szv,ca,g1,bt,aC,aX,bw,bc,bf,f5,f6,f7⟩ aK cG λaz=>?_;rcases Y az with⟨s,rfl,he,_⟩|⟨rfl,he⟩
   .rw[V9] at he;rw[he];exact⟨rfl,λq al=>by cases al;rfl⟩
   .rw[he];exact⟨rfl,λq al=>by cases al⟩
  .intro en bV;rw[aQ,ak];exact⟨λh=>Ω,λ_=>bV _ _ ⟨rfl,rfl⟩⟩
 rintro i V k hi ⟨A,so,ca,aC,bb,aX,bw,bc,bf,bU,aK,cG,Y⟩ hk;have az:0<n:=Ω
 refine aR (λv aa=>V=aa/\v= .bool so.isSome) ?_ ?_
 rotate_left
 .intro en bV;refine bk Ω ?_;rw[ky aK];exact bV _ _ ⟨rfl,rfl⟩
 rintro _ _ ⟨rfl,rfl⟩;rcases Y az with⟨cJ,rfl,he,fe⟩|⟨rfl,he⟩
 rotate_left
 .rw[Option.isSome_none,aT];refine cj V A ν bb ⟨ax,szv,ca,g1,bt,aC,aX,bw,bc,bf,f5,f6,f7⟩ aK (λh=>Ω) λ_=>?_;rw[he];exact⟨rfl,λq al=>by cases al⟩
 rw[Option.isSome_some,bX];have ff:=aK.lt;refine bp cb.i λam aD fg bg bW=>?_;have bW:ad aD am cb [.slice ν 0 0,Δ 0]:=bW;have eo:=aX.ext bg;have cH:=bc.ext bg;have fh:=bg.size;have fi:=aX.lt;rw[aM a1.p rfl,aS Ψ (eo.cell (o:=0+1) rfl),aU au.u cH.ls];refine Lz (aK.ext bg) cH da dc bW Ω λt aJ aF cI fj ep er es et eu ev=>?_;refine (jN eu).mono ?_;rintro _ X _ ⟨⟨bY,bx⟩,c,at_,rfl,ey,fk⟩;rw[bL,bM];have bZ:am≠g:=Ω
 have cK:af≠g:=by have:=h.lt;omega
 have ez:ae (λr=>r=g\/r=am\/aD.heap.size<=r) aD X:=ep.trans (bY.mono λr _ h=>.inl h);have cL:∀ {S:Nat->Prop},(∀r,S r->r=g\/V.heap.size<=r)-> ∀r,S r->gH V r\/V.heap.size<=r:=λeA r W=>(eA r W).imp (λhe=>by
  subst he;obtain⟨cM,bh,bi,bad,cN,big,cO,told,sv,Y,_⟩:=hy aK;exact⟨_,_,Y,Φ,Φ⟩) id
 have bz:ae (λr=>r=g\/V.heap.size<=r) V X:=(bg.ab _).trans (ez.mono λr _ h=>h.elim .inl λh=>h.elim (λh=>.inr Ω) λh=>.inr Ω);have cP:ad X af a1 [ax,szv,Δ o,ca]:=aX.ab bz λh=>h.elim cK λh=>Ω
 obtain⟨L,bA,cQ,b1⟩:=bf.dF bz (cL λr W=>W);have cR:ad X am cb [aF,Δ 0]:=er.ab bY λhe=>bZ he;have cS:ao .i64 an X cI aF t:=be es bY λr W he=>by
  have he:r=g:=he;have:=et r W;omega
 have fm:L.length=A.length:=by rw[<-b1,u5]
 rw[av a1.p 3 cP rfl,dt dT.u bA];generalize cT:(a8 0 4611686018427387904 (U6 (λx=>x.snd) (eU sizes [] (σ cJ)))).map (·.2)=aO at bx;have fo:=bz.size;refine b0.range L.length (λj ag=>ae (λr=>r=g) X ag/\bO ag g B H N (if t∈(L.take j).map (·.t) then ν else aO)) bA.le ⟨ae.refl _ _,by simpa using bx⟩ ?_ ?_
 .rintro j ag eB cU ⟨ap,bl⟩ eC;obtain⟨y,aw⟩:=aN (l:=L) cU;have b3:∃c,ad X g bB c:=by obtain⟨cM,bh,bi,bad,cN,big,cO,told,sv,Y,_⟩:=hy bx;exact⟨_,Y⟩
  have aP:∀r,r=g->gH X r\/X.heap.size<=r:=λr W=>by
   subst W;obtain⟨c,Y⟩:=b3;exact .inl ⟨_,c,Y,Φ,Φ⟩
  have bC:=vE bA ap λr W=>(aP r W).imp (λ⟨e,c,Y,_,bm⟩=>⟨e,c,Y,bm⟩) id;obtain⟨fp,eD⟩:=cQ y (x5 aw);have cV:=ew eD ap aP;have b4:=ew cS ap aP;have bE:=cR.ab ap λhe=>bZ he;refine bk Ω ?_;have b6:t∈(L.take (j+1)).map (·.t)↔t∈(L.take j).map (·.t)\/t=y.t:=by
   rw[r9,aw,j6,j9,l5];simp
  refine dv (λaW=>ae (λr=>r=g) X aW/\bO aW g B H N (if t∈(L.take (j+1)).map (·.t) then ν else aO)) ?_ ?_
  .rintro aW eE;rw[aL];exact eC _ eE
  intro fq cW;rw[cE rfl dT.u cb.i bC cU,br cb.p cb.i rfl (bC.range aw)];refine bp cb.i λaY cz fs eF eH=>?_;refine bK (vs:=nn y) cb.i rfl rfl (vG cV) eH λaj eI ft eJ=>?_;have bn:Ext ag aj:=eF.put eI Ω;have cX:=bl.ext bn;have cY:ae (λr=>r=g) X aj:=ap.trans (bn.ab _);refine aR (λv a7=>∃b:Bool,v= .bool b/\Ext aj a7/\(b=true->t=y.t)/\(b=false->t≠y.t\/(if t∈(L.take j).map (·.t) then ν else aO)=ν)) ?_ ?_
  .rintro _ a7 ⟨b,rfl,b7,eK,eL⟩;have aV:=cX.ext b7;cases b with
   |true=>
    rw[bX];refine (np aV Ω).mono ?_;rintro _ cA _ ⟨eM,eN⟩;refine cW _ ⟨(cY.trans (b7.ab _)).trans eM,?_⟩;rw[if_pos (b6.2 (.inr (eK rfl)))];exact eN
   |false=>
    rw[aT];refine cW _ ⟨cY.trans (b7.ab _),?_⟩;by_cases hm:t∈(L.take j).map (·.t)
    .rw[if_pos (b6.2 (.inl hm))];rw[if_pos hm] at aV;exact aV
    .rw[if_neg hm] at aV;rcases eL rfl with bm|cZ
     .rw[if_neg (λh=>(b6.1 h).elim hm bm)];exact aV
     .rw[if_neg hm] at cZ;rw[cZ] at aV ⊢;split<;>exact aV
  .intro fu c1;rw[ky cX];cases bo:(if t∈(L.take j).map (·.t) then ν else aO) with
   |none=>
    rw[Option.isSome_none,aT];exact c1 _ _ ⟨false,rfl,Ext.refl _,(λh=>by cases h),λ_=>.inr bo⟩
   |some fv=>
    rw[Option.isSome_some,bX];have eO:=bE.ext bn;rw[av cb.p 0 eO rfl,av cb.p 0 eJ rfl];refine (vF (b4.ls.ext bn) (cV.ls.ext bn)).mono ?_;rintro _ cC _ ⟨rfl,eP⟩;exact c1 _ _ ⟨_,rfl,eP,λh=>of_decide_eq_true h,λh=>.inl (of_decide_eq_false h)⟩
 .rintro ag eB ⟨ap,bl⟩;rw[o9] at bl;have eQ:L.map (·.t)=A.map (·.1):=by rw[<-b1,List.map_map];rfl
  rw[eQ] at bl;have b3:∃c,ad X g bB c:=by obtain⟨cM,bh,bi,bad,cN,big,cO,told,sv,Y,_⟩:=hy bx;exact⟨_,Y⟩
  have aP:∀r,r=g->gH X r\/X.heap.size<=r:=λr W=>by
   subst W;obtain⟨c,Y⟩:=b3;exact .inl ⟨_,c,Y,Φ,Φ⟩
  have c2:∀r,(r=g\/V.heap.size<=r)->gH V r\/V.heap.size<=r:=cL λr W=>W;have bF:ae (λr=>r=g\/V.heap.size<=r) V ag:=bz.trans (ap.mono λr _ h=>.inl h);have eR:=cP.ab ap λhe=>cK he;have eS:=ew bw bF c2;have eV:=ew bc bF c2;have bC:=vE bA ap λr W=>(aP r W).imp (λ⟨e,c,Y,_,bm⟩=>⟨e,c,Y,bm⟩) id;have eW:∀y∈L,∃aY,ao .i64 an ag aY y.v y.t:=λy aw=>by
   obtain⟨aY,hm⟩:=cQ y aw;exact⟨aY,ew hm ap aP⟩
  have b4:=ew cS ap aP;have bE:=cR.ab ap λhe=>bZ he;refine b2 Ω ?_;rw[aM cb.p rfl];refine bj (g:=am) (o:=1) an.i rfl rfl bE Ξ λaG aZ fw b8=>?_;have b8:ad aG am cb [aF,Δ c]:=b8;have eX:af≠am:=Ω
  have c3:=eR.ab aZ λhe=>eX he;have fx:V.heap.size<=am:=Ω
  have eY:∀r,leadsTo ca r->r≠am:=λr W=>by obtain⟨bh,bi⟩:=bf.choose_spec.1.leads W;omega
  have eZ:=bC.ab aZ λr W he=>eY r W he;rw[av a1.p 3 c3 rfl,br cb.p cb.i rfl b8.range];let a:vD:=⟨aF,t,c⟩;have bG:∀ {v:y0} {bq:Nat} {l:Λ},ao .i64 an ag bq v l->ao .i64 an aG bq v l:=λhm=>be hm aZ λr W he=>by
   have he:r=am:=he;exact b5 hm bE Φ W he
  have c4:=bG b4;refine gg (f:=nn) (a:=a) dT.u cb.i Ω rfl rfl λv45 fy bu fz aB e0=>?_;have b9:=eZ.ext aB;refine gB (f:=nn) (a:=a) dT.u cb.i rfl b9 (by simpa using e0.sl) (vG (c4.ext aB)) Ω Ω λcc c5 bT bH e1 c6=>?_;have cd:=c3.ext aB;have c7:=cd.ab c6 λhe=>cn b9 cd Φ he;rw[aM a1.p rfl];refine bj (g:=af) (o:=3) dT.i (de bH.sl).1 (de bH.sl).2 c7 Ξ λaH c8 fA ce=>?_;have ce:ad aH af a1 [ax,szv,Δ o,cc]:=ce;rw[aL];have cg:ae (λr=>leadsTo ca r\/r=af) bu aH:=(c6.mono λr _ h=>.inl h).trans (c8.mono λr _ h=>.inr h);have bI:∀ {v:y0} {bq:Nat} {l:Λ},ao .i64 an bu bq v l->ao .i64 an aH bq v l:=λhm=>be hm cg λr W J=>by
   rcases J with J|rfl
   .obtain⟨rfl,fB,Y⟩:=dy b9 J;exact b5 hm Y Φ W rfl
   .exact b5 hm cd Φ W rfl
  have c9:∀r,(leadsTo ca r\/r=af)->B<=r:=λr W=>W.elim (λW=>bU az r W) λW=>W▸f7;have e2:bO aG g B H N (if t∈A.map (·.1) then ν else aO):=bl.new aZ λr W=>by
   have W:r=am:=W;omega
  have e3:=(e2.ext aB).new cg c9;have e4:ae (gn g B) V aH:=((bF.mono λr _ h=>h.elim .inl λh=>.inr Ω).trans (aZ.mono λr _ h=>.inr (by have h:r=am:=h;omega))).trans ((aB.ab _).trans (cg.mono λr _ h=>.inr (c9 r h)));have e5:jM aH c5 cc (A++[(t,c)]):=⟨L++[a],bH.ab c8 λr W he=>by
   have he:r=af:=he;subst he;exact cn bH c7 Φ W,λy aw=>by
   rcases l5.1 aw with aw|aw
   .obtain⟨aY,hm⟩:=eW y aw;exact⟨aY,bI ((bG hm).ext aB)⟩
   .rw[l9.1 aw];exact⟨cI,bI (c4.ext aB)⟩,by rw[j9,b1];rfl⟩
  refine hk _ ⟨A++[(t,c)],_,cc,c5,bb.trans e4,ce,bI ((bG eS).ext aB),bI ((bG eV).ext aB),e5,λ_ r W=>?_,e3,λh=>Ω,λ_=>?_⟩
  .rcases e1 r W with h|h
   .exact bU az r h
   .have:=bb.size;have:=bF.size;have:=aZ.size;have:=aB.size;have:=em.2;omega
  .have e6:n.toNat-i=(n.toNat-(i+1))+1:=Ω
   rw[e6] at he;obtain⟨e7,e8⟩:=AH (sizes:=sizes) (acc:=A) (st:=cJ) (t:=t) (c:=c) ev ey;cases al:a8 0 aq ((eU sizes [] (σ cJ)).map (·.2)) with
   |none=>
    have bo:aO=ν:=by rw[<-cT];show (a8 0 aq _).map _=ν;rw[al];rfl
    rw[ow (e7 al)] at he;refine .inr ⟨?_,he⟩;rw[bo];split<;>rfl
   |some q=>
    have bo:aO=σ q.2:=by rw[<-cT];show (a8 0 aq _).map _=_;rw[al];rfl
    have bN:=e8 q al;by_cases hm:t∈A.map (·.1)
    .rw[if_pos hm] at bN;rw[ow bN] at he;exact .inr ⟨by rw[if_pos hm],he⟩
    .rw[if_neg hm] at bN;rw[rV bN] at he;refine .inl ⟨q.2,by rw[if_neg hm,bo],he,?_⟩;cases ch:eU sizes [] (σ cJ) with
     |none=>rw[ch] at al;cases al
     |some p=>
      rw[ch] at al;obtain⟨bD,s1⟩:=p;have bh:h8 sizes [] cJ=σ (bD,s1):=ch;obtain⟨u,_,_,e9⟩:=uJ bh;have bi:ba 0 aq s1=σ q:=al;obtain⟨fC,fD⟩:=q;have fa:=db bi;have:=e9.1;have:=fa.1;rw[r8];simp only[U2];omega
def jm (s:aE):Prop:=s.big=false->0<=s.told/\s.told<=16384
def jn (neg:Bool) (ar:Nat) (scope sizes:Λ) (U:Option aE):Option (ce×aE):=match a8 0 aq (U.map (a6 (decide (6<ar)||df sizes))) with
 |none=>ν
 |some (other,V)=>match ds sizes V with
  |none=>ν
  |some (lines,J)=>σ (⟨scope,sizes,other,lines⟩,if neg=true then {J with shared:=J.shared++[(sizes,lines)]} else J)
theorem B5 {s s':aE} {l:List (Λ×Int)} (h:ds sizes s=σ (l,s')):s'.toks.length+1<=s.toks.length/\s'.shared=s.shared:=by
 unfold ds at h;cases J:ba (-aq) aq s with
 |none=>rw[J] at h;cases h
 |some q=>
  obtain⟨n,s1⟩:=q;have V:=db J;have ab:=V.1;have W:=V.eqs.2.2;rw[J] at h;simp only at h;split at h
  .split at h
   .cases h
   .split at h
    .cases h;exact⟨Ω,W⟩
    .cases h
  .have h':cD (dK sizes) n.toNat [] (a6 (decide (16384<min (s1.told+n) aq)) {s1 with told:=min (s1.told+n) aq})=σ (l,s'):=h;have:=ia (f:=dK sizes) (λ_ t=>t.toks.length<=s1.toks.length/\t.shared=s1.shared) (λacc t a bD X aa=>by
    obtain⟨_,_,_,Y⟩:=mX aa;have h1:=Y.1;have U:=Y.eqs.2.2;exact⟨by have:=X.1;omega,U.trans X.2⟩) n.toNat [] (a6 (decide (16384<min (s1.told+n) aq)) {s1 with told:=min (s1.told+n) aq}) l s' ⟨n9 _,rfl⟩ h'
   obtain⟨⟨h1,U⟩,_⟩:=this;exact⟨Ω,U.trans W⟩
theorem sJ {g:Nat} {H:ah} {s:aE} (h:bO w g B H N (σ s)):s.toks.length<=100000/\s.shared.length+s.toks.length<=100000:=by
 obtain⟨W,w0,X,Y,gs,sv,L,aa,ab,ac,bad,ad,big,ae,told,h1,af,ag,ai,U,aj,ak,al,am,an,ao,J,ap,V,aq⟩:=h;have au:=U.2.2.1;refine⟨by rw[<-J,u5];omega,by rw[<-J,<-V,u5,u5];omega⟩
def B6 (w:x2) (g W B:Nat) (H:ah) (U:Option (ce×aE)) (v:y0) (w':x2):Prop:=∃V x J,ae (λr=>r=g\/H r\/r=W\/B<=r) w w'/\v= .agg (eN V).toArray/\gm w' V x/\bO w' g w'.heap.size J 100001 (U.map (·.2))/\(∀q,U=σ q->x=q.1)/\(∀r,H r->J r)/\(∀r,J r->H r\/B<=r)/\ ∀r,J r->r<w'.heap.size
theorem B7 {g Y ar:Nat} {H:ah} {ap:Option aE} {neg:Bool} {dW:Int} {scope:Λ} {Q:y0->x2->Prop}
  (h:bO w g B H 100000 ap) (dX:gI w B Y ⟨scope,sizes,0,[]⟩) (fB:∀c,ad w Y a1 c->c[3]? =σ (.slice ν 0 0)) (dY:∀z∈sizes,1<=z/\z<=aq) (fC:sizes.length<=100001) (dZ:ad w aj a1 [.slice ν 0 0,.slice ν 0 0,Δ 0,.slice ν 0 0]) (jG:aj<B) (cV:¬H aj) (cW:∀r,H r->r<B) (fD:∀aV,ap=σ aV->jm aV)
  (fE:∀v w',B6 w g aj B H (jn neg ar scope sizes ap) v w'->Q v w'):
  U x3 (x8 a1 (Γ Y) 1) w λfF=>
  U x3 (x7 au fF) w λec=>
  U x3 (X0 #[au] ac #[ec]) w λfG=>
  bA (Δ 1) (Δ 0) w λcount dd a7 fH=>
   U x3 (aA .lss ac false false dd fG) a7 λfI=>
   Split fI (bJ (α:=y0->x2->Prop) (λ(fJ:y0) (ed:x2)=>
    U x3 (aA .add ac false true dd (Δ 1)) ed λfK=>
    fH fJ fK ed) λee=>
   U x3 (l7 au ec dd) a7 λfL=>
   U x3 (x7 an fL) a7 λef=>
   bJ (α:=y0->x2->Prop) (λ(fM:y0) (cX:x2)=>
    U x3 (aA .mul an false false count fM) cX λeg=>
    U x3 (aA .gtr an false true eg (Δ 4096)) cX λfN=>
    Split fN (ee (Δ 4097) cX)
     (ee eg cX)) λeh=>
   U x3 (aA .gtr an false true ef (Δ 4096)) a7 λfO=>
   Split fO (eh (Δ 4097) a7)
    (eh ef a7))
    (bJ (α:=x2->Prop) (λ(ch:x2)=>
   ai x3 kT [(Γ g),(Δ 0),(Δ 4611686018427387904)] ch λei bW=>
   U x3 (Y0 ei 0) bW λfP=>
   U x3 (Y0 ei 1) bW λjH=>
   U x3 (x8 a1 (Γ Y) 2) bW λfQ=>
   ay x3 (o7 an fQ fP) bW λ(_:Unit) bC=>
   ai x3 kT [(Γ g),(Δ (-4611686018427387904)),(Δ 4611686018427387904)] bC λej al=>
   U x3 (Y0 ej 0) al λbZ=>
   U x3 (Y0 ej 1) al λek=>
   U x3 (bd (Γ g)) al λfR=>
   U x3 (x8 bB fR 3) al λfS=>
   U x3 (x7 ac fS) al λfV=>
   U x3 (aA .neq ac false true fV (Δ 0)) al λfW=>
   Split fW (U x3 (x7 a1 (Γ Y)) al λci=>
    ay x3 (o7 a1 (Γ aj) ci) al λ(_:Unit) bD=>
    U x3 (do loadVar a1 (<-asAddr (Γ aj))) bD λcj=>
 Q cj bD)
    (bJ (α:=x2->Prop) (λ(bk:x2)=>
    b0 (Δ 0) bk λem bN fX=>
     bJ (α:=y0->x2->Prop) (λ(fY:y0) (ck:x2)=>
      Split fY (ay x3 (S8 cb true (.tuple #[])) ck λx cY=>
     U x3 (x8 a1 (Γ Y) 1) cY λfZ=>
     U x3 (x7 au fZ) cY λen=>
     U x3 (X0 #[au] ac #[en]) cY λga=>
     b0 (Δ 0) cY λdg b1 gb=>
      U x3 (aA .lss ac false false dg ga) b1 λgc=>
      Split gc (U x3 (l7 au en dg) b1 λgd=>
      U x3 (x7 an gd) b1 λgf=>
      U x3 (aA .sub an false true gf (Δ 1)) b1 λgh=>
      ai x3 kT [(Γ g),(Δ 0),gh] b1 λeo cl=>
      U x3 (Y0 eo 0) cl λgi=>
      U x3 (Y0 eo 1) cl λjI=>
      U x3 (x8 cb x 0) cl λgj=>
      U x3 (x7 au gj) cl λgk=>
      ay x3 (Y1 au 1 #[(0,gi)]) cl λgl gp=>
      ay x3 (j4 #[au,au] au #[gk,gl]) gp λgq ep=>
      U x3 (x8 cb x 0) ep λgt=>
      ay x3 (o7 au gt gq) ep λ(_:Unit) er=>
      U x3 (aA .add ac false true dg (Δ 1)) er λgu=>
      gb gu er)
       (ai x3 kT [(Γ g),(Δ 0),(Δ 4611686018427387904)] b1 λes b2=>
     U x3 (Y0 es 0) b2 λgv=>
     U x3 (Y0 es 1) b2 λgw=>
     U x3 (x8 a1 (Γ Y) 3) b2 λgx=>
     U x3 (x7 dT gx) b2 λet=>
     U x3 (X0 #[dT] ac #[et]) b2 λgy=>
     b0 (Δ 0) b2 λdh b3 gA=>
      U x3 (aA .lss ac false false dh gy) b3 λgC=>
      Split gC (bJ (α:=x2->Prop) (λ(eu:x2)=>
       U x3 (aA .add ac false true dh (Δ 1)) eu λgD=>
       gA gD eu) λev=>
      U x3 (l7 dT et dh) b3 λgE=>
      U x3 (x7 cb gE) b3 λgF=>
      ay x3 (S8 cb true (.tuple #[])) b3 λy gJ=>
      ay x3 (o7 cb y gF) gJ λ(_:Unit) bb=>
      bJ (α:=y0->x2->Prop) (λ(gK:y0) (ey:x2)=>
       Split gK (ai x3 mu [(Γ g),(Δ 4),gw] ey λjJ gL=>
        ev gL)
        (ev ey)) λez=>
      U x3 (bd (Γ g)) bb λgM=>
      U x3 (x8 bB gM 3) bb λgN=>
      U x3 (x7 ac gN) bb λgO=>
      U x3 (aA .eql ac false true gO (Δ 0)) bb λgP=>
      Split gP (U x3 (x8 cb x 0) bb λgQ=>
       U x3 (x7 au gQ) bb λgR=>
      U x3 (x8 cb y 0) bb λgS=>
      U x3 (x7 au gS) bb λgT=>
      ai x3 ri [gR,gT] bb λgU gV=>
      ez gU gV)
       (ez (.bool false) bb))
       (U x3 (x8 cb x 1) b3 λgW=>
     ay x3 (o7 an gW gv) b3 λ(_:Unit) cZ=>
     U x3 (x8 a1 (Γ Y) 3) cZ λgX=>
     U x3 (x7 dT gX) cZ λgY=>
     U x3 (x7 cb x) cZ λgZ=>
     ay x3 (Y1 dT 1 #[(0,gZ)]) cZ λg0 g2=>
     ay x3 (j4 #[dT,dT] dT #[gY,g0]) g2 λg3 eA=>
     U x3 (x8 a1 (Γ Y) 3) eA λg4=>
     ay x3 (o7 dT g4 g3) eA λ(_:Unit) eB=>
     U x3 (aA .add an false true em (Δ 1)) eB λg5=>
     fX g5 eB)))
       (bJ (α:=x2->Prop) (λ(aI:x2)=>
     U x3 (x7 a1 (Γ Y)) aI λg6=>
     ay x3 (o7 a1 (Γ aj) g6) aI λ(_:Unit) eC=>
     U x3 (do loadVar a1 (<-asAddr (Γ aj))) eC λg7=>
 Q g7 eC) λeD=>
    Split (.bool neg) (cK ck λaW=>
     U x3 (bd (Γ g)) aW λdi=>
     U x3 (x8 bB di 8) aW λdk=>
     U x3 (x7 dq dk) aW λeE=>
     U x3 (x7 a1 (Γ Y)) aW λg8=>
     ay x3 (Y1 dq 1 #[(0,g8)]) aW λg9 bl=>
     (Ext aW bl\/bw x3 (x7 dq dk) eE bl/\bw x3 (x8 bB di 8) dk bl/\bw x3 (bd (Γ g)) di bl/\True)/\
     ay x3 (j4 #[dq,dq] dq #[eE,g9]) bl λha c1=>
      U x3 (bd (Γ g)) c1 λhb=>
      U x3 (x8 bB hb 8) c1 λhc=>
      ay x3 (o7 dq hc ha) c1 λ(_:Unit) bP=>
      eD bP)
     (eD ck))) λeF=>
     U x3 (aA .lss an false false em bZ) bN λhd=>
     Split hd (U x3 (bd (Γ g)) bN λhf=>
     U x3 (x8 bB hf 3) bN λhg=>
     U x3 (x7 ac hg) bN λhh=>
     U x3 (aA .eql ac false true hh (Δ 0)) bN λhj=>
     eF hj bN)
      (eF (.bool false) bN)) λeH=>
   U x3 (aA .lss an false true bZ (Δ 0)) al λhl=>
   Split hl (bJ (α:=y0->x2->Prop) (λ(hn:y0) (aC:x2)=>
     Split hn (ai x3 mu [(Γ g),(Δ 4),ek] aC λjK dl=>
     U x3 (x7 a1 (Γ Y)) dl λho=>
     ay x3 (o7 a1 (Γ aj) ho) dl λ(_:Unit) eI=>
     U x3 (do loadVar a1 (<-asAddr (Γ aj))) eI λhp=>
 Q hp eI)
     (U x3 (bd (Γ g)) aC λhq=>
    U x3 (x8 bB hq 8) aC λhs=>
    U x3 (x7 dq hs) aC λht=>
    U x3 (Op.unary .neg bZ) aC λhv=>
    U x3 (aA .sub an false true hv (Δ 1)) aC λhx=>
    U x3 (l7 dq ht hx) aC λhz=>
    U x3 (x8 a1 hz 3) aC λhA=>
    U x3 (x7 dT hA) aC λhB=>
    U x3 (x8 a1 (Γ Y) 3) aC λhC=>
    ay x3 (o7 dT hC hB) aC λ(_:Unit) eJ=>
    eH eJ)) λeK=>
    cK al λam=>
    U x3 (Op.unary .neg bZ) am λhD=>
    U x3 (bd (Γ g)) am λhE=>
    U x3 (x8 bB hE 8) am λhF=>
    U x3 (x7 dq hF) am λhG=>
    U x3 (X0 #[dq] ac #[hG]) am λhH=>
    U x3 (aA .gtr an false false hD hH) am λhI=>
    Split hI (eK (.bool true) am)
    (U x3 (bd (Γ g)) am λhJ=>
    U x3 (x8 bB hJ 8) am λhK=>
    U x3 (x7 dq hK) am λhL=>
    U x3 (Op.unary .neg bZ) am λhM=>
    U x3 (aA .sub an false true hM (Δ 1)) am λhN=>
    U x3 (l7 dq hL hN) am λhO=>
    U x3 (x8 a1 hO 1) am λhP=>
    U x3 (x7 au hP) am λhQ=>
    U x3 (x8 a1 (Γ Y) 1) am λhR=>
    U x3 (x7 au hR) am λhS=>
    ai x3 ri [hQ,hS] am λhT dm=>
    U x3 (Op.unary .not hT) dm λhU=>
    eK hU dm))
    (U x3 (bd (Γ g)) al λhV=>
    U x3 (x8 bB hV 7) al λhW=>
    U x3 (x7 an hW) al λhX=>
    U x3 (aA .add an false false hX bZ) al λhY=>
    U x3 (bd (Γ g)) al λhZ=>
    U x3 (x8 bB hZ 7) al λh0=>
    ay x3 (o7 an h0 hY) al λ(_:Unit) bc=>
    bJ (α:=x2->Prop) (λ(be:x2)=>
     U x3 (bd (Γ g)) be λh2=>
     U x3 (x8 bB h2 7) be λh3=>
     U x3 (x7 an h3) be λh4=>
     U x3 (aA .gtr an false true h4 (Δ 16384)) be λh5=>
     ai x3 rh [(Γ g),h5,ek] be λjL dn=>
     eH dn) λeL=>
    U x3 (bd (Γ g)) bc λh6=>
    U x3 (x8 bB h6 7) bc λh7=>
    U x3 (x7 an h7) bc λh8=>
    U x3 (aA .gtr an false true h8 (Δ 4611686018427387904)) bc λh9=>
    Split h9 (U x3 (bd (Γ g)) bc λia=>
    U x3 (x8 bB ia 7) bc λib=>
    ay x3 (o7 an ib (Δ 4611686018427387904)) bc λ(_:Unit) eM=>
    eL eM)
    (eL bc)))) λeO=>
  U x3 (aA .gtr an false true (Δ (ar:Int)) (Δ 6)) a7 λic=>
  Split ic (ai x3 rh [(Γ g),(.bool true),(Δ dW)] a7 λjP ie=>
  eO ie)
   (U x3 (aA .gtr an false true count (Δ 4096)) a7 λig=>
  ai x3 rh [(Γ g),ig,(Δ dW)] a7 λjQ ih=>
  eO ih)):=by
 have ii:=h.lt;have eP:aj≠g:=λhe=>by
  obtain⟨aX,aF,aG,bad,aY,big,aZ,told,sv,X,_⟩:=hy h;subst he;exact absurd (ea X dZ) Φ
 obtain⟨ax,szv,ca,g1,c2,c3,f1,f2,f3,f4,f5,f6,f7⟩:=id dX;have cm:Y≠g:=Ω
 have ret:∀ {aa:x2} {x:ce} {aw:ah},gI aa B Y x->ad aa aj a1 [.slice ν 0 0,.slice ν 0 0,Δ 0,.slice ν 0 0]->ae (λr=>r=g\/H r\/B<=r) w aa->bO aa g aa.heap.size aw 100001 ((jn neg ar scope sizes ap).map (·.2))->(∀q,jn neg ar scope sizes ap=σ q->x=q.1)->¬aw aj->(∀r,H r->aw r)->(∀r,aw r->H r\/B<=r)->(∀r,aw r->r<aa.heap.size)->
   (U x3 (x7 a1 (Γ Y)) aa λci=>
    ay x3 (o7 a1 (Γ aj) ci) aa λ(_:Unit) bD=>
    U x3 (do loadVar a1 (<-asAddr (Γ aj))) bD λcj=>Q cj bD):=by
  intro aa x aw dp dr ij ik il im du ip iq;obtain⟨ax,szv,ca,g1,c2,c3,dw,dx,dz,dA,dC,eQ,eR⟩:=dp;let aH:io:=⟨ax,szv,x.other,ca⟩;have cp:gm aa aH x:=⟨⟨g1,dx⟩,⟨c2,dz⟩,rfl,c3,dA⟩;rw[br a1.p a1.i rfl (show aa.rangeAt Y 0 (eN aH) from dw.range)];refine bK (vs:=eN aH) a1.i rfl rfl cp.one dr λjR dD ir it=>?_;rw[eZ a1.p a1.i rfl it.range];have iu:∀r,r=aj->gH aa r\/aa.heap.size<=r:=λr W=>by subst W;exact .inl ⟨_,_,dr,Φ,Φ⟩
  refine fE _ _ ⟨aH,x,aw,(ij.mono λr _ h=>?_).trans (dD.mono λr _ h=>.inr (.inr (.inl h))),rfl,cp.dF dD iu,ik.dF dD λr W=>.inl ?_,il,du,ip,λr W=>by rw[ir];exact iq r W⟩
  .exact h.elim .inl λh=>h.elim (λh=>.inr (.inl h)) λh=>.inr (.inr (.inr h))
  .have W:r=aj:=W;subst W;exact⟨_,_,dr,Φ,Φ,Φ,Φ,im⟩
 have dE:∀ {aa:x2},ae (gn g B) w aa->ad aa aj a1 [.slice ν 0 0,.slice ν 0 0,Δ 0,.slice ν 0 0]:=λbm=>dZ.ab bm λJ=>J.elim eP λh=>Ω
 have dG:∀ {aa:x2},ae (gn g B) w aa->ae (λr=>r=g\/H r\/B<=r) w aa:=λbm=>bm.mono λr _ h=>h.elim .inl λh=>.inr (.inr h);have eS:∀ {aa:x2} {eU:Nat} {aw:ah} {so:Option aE},bO aa g eU aw 100000 so->bO aa g eU aw 100001 so:=λW=>by
  obtain⟨cq,w0,aX,bE,gs,sv,L,a2,aF,aG,bad,aY,big,aZ,told,h1,iv,iw,ix,iy,dH,dI⟩:=W;refine⟨Ω,w0,aX,bE,gs,sv,L,a2,aF,aG,bad,aY,big,aZ,told,h1,iv,iw,ix,iy,dH,?_⟩;rename_i so;cases so with
  |none=>exact⟨dI.1,by have:=dI.2;omega⟩
  |some s=>exact dI
 have eV:∀ {aa:x2} {x:ce},gI aa B Y x->ae (gn g B) w aa->bO aa g B H 100000 ν->jn neg ar scope sizes ap=ν->(U x3 (x7 a1 (Γ Y)) aa λci=>
    ay x3 (o7 a1 (Γ aj) ci) aa λ(_:Unit) bD=>
    U x3 (do loadVar a1 (<-asAddr (Γ aj))) bD λcj=>Q cj bD):=λdp bm W eW=>
  ret dp (dE bm) (dG bm) (by rw[eW];exact eS W.base) (λq az=>by rw[eW] at az;cases az) cV (λ_ h=>h) (λ_ h=>.inl h) λr W=>by have:=cW r W;have:=bm.size;omega
 rw[av a1.p 1 f1 rfl,aU au.u f3.ls];refine Ly f3.ls (λz iz=>(dY z iz).1) λc bm=>?_;refine dv (λch=>ae (λr=>r=g) w ch/\bO ch g B H 100000 (ap.map (a6 (decide (6<ar)||df sizes)))) ?_ ?_
 rotate_left
 .intro dJ bn;rw[bY,ak];refine⟨λdH=>?_,λdH=>?_⟩
  .refine (l3 h).mono ?_;rintro _ V _ bo;refine bn _ ⟨bo.1,?_⟩;rw[decide_eq_true (show 6<ar by omega),Bool.true_or];exact bo.2
  .rw[bY];refine (l3 h).mono ?_;rintro _ V _ bo;refine bn _ ⟨bo.1,?_⟩;have e:df sizes=decide (4096<c):=by rw[U4,decide_eq_true_eq];exact bm.symm
   rw[decide_eq_false (show ¬6<ar by omega),Bool.false_or,e];exact bo.2
 rintro ch ⟨iA,iB⟩;refine (jN iB).mono ?_;rintro _ bW _ ⟨⟨iC,iD⟩,o,jS,rfl,iE,jT⟩;rw[bL,bM];have b4:ae (λr=>r=g) w bW:=iA.trans iC;have jU:=dX.dF b4 (jO h);have f123:=f1.ab b4 λhe=>cm he;rw[aM a1.p rfl];refine bj (g:=Y) (o:=2) an.i rfl rfl f123 Ξ λbC cr jV b5=>?_;have b5:ad bC Y a1 [ax,szv,Δ o,ca]:=b5;have dL:∀r,r=g->gH w r\/w.heap.size<=r:=λr W=>(jO h r W).imp (λ⟨e,c,X,bp,bq,_⟩=>⟨e,c,X,bp,bq⟩) id;have b6:∀ {aa:x2} {c:List y0},ad aa Y a1 c-> ∀r,r=Y->gH aa r\/aa.heap.size<=r:=λX r W=>by subst W;exact .inl ⟨_,_,X,Φ,Φ⟩
 have f224:=ew (ew f2 b4 dL) cr (b6 f123);have f324:=ew (ew f3 b4 dL) cr (b6 f123);have eX:=(f4.dF b4 dL).dF cr (b6 f123);have b7:=iD.new cr λr W=>by have W:r=Y:=W;omega
 have eY:ae (gn g B) w bC:=(b4.mono λr _ h=>.inl h).trans (cr.mono λr _ h=>.inr (by have h:r=Y:=h;omega));refine (jN b7).mono ?_;rintro _ al _ ⟨⟨bF,bt⟩,n,jW,rfl,iF,e0⟩;rw[bL,bM,qh bt];have e1:ae (gn g B) w al:=eY.trans (bF.mono λr _ h=>.inl h);have iG:gI bC B Y ⟨scope,sizes,o,[]⟩:=⟨ax,szv,ca,g1,c2,c3,b5,f224,f324,eX,f5,f6,f7⟩;have e2:=iG.dF bF (jO b7);cases bx:a8 (-4611686018427387904) 4611686018427387904 (U6 (λx=>x.snd) (a8 0 4611686018427387904 (ap.map (a6 (decide (6<ar)||df sizes))))) with
 |none=>
  rw[bx] at bt;rw[Option.map_none,Option.isSome_none,W6,bX];refine eV e2 e1 bt ?_;unfold jn;cases aB:a8 0 aq (ap.map (a6 (decide (6<ar)||df sizes))) with
  |none=>rfl
  |some p=>
   obtain⟨o',ag⟩:=p;have iH:a8 0 4611686018427387904 (ap.map (a6 (decide (6<ar)||df sizes)))=σ (o',ag):=aB;rw[iH] at bx;have e:ba (-aq) aq ag=ν:=bx;simp only;unfold ds;rw[e]
 |some q=>
 obtain⟨jX,af⟩:=q;have iI:=iF _ bx;subst iI;rw[bx] at bt;have bt:bO al g B H 100000 (σ af):=bt;rw[Y4,Option.isSome_some,Y6,aT];obtain⟨ag,aB,dM⟩:∃ag,a8 0 aq (ap.map (a6 (decide (6<ar)||df sizes)))=σ (o,ag)/\ba (-aq) aq ag=σ (n,af):=by
  cases aB:a8 0 4611686018427387904 (ap.map (a6 (decide (6<ar)||df sizes))) with
  |none=>rw[aB] at bx;cases bx
  |some p=>
   obtain⟨o',ag⟩:=p;have:=iE _ aB;subst this;rw[aB] at bx;exact⟨ag,aB,bx⟩
 have ct:jn neg ar scope sizes ap=match ds sizes ag with
   |none=>ν
   |some (lines,af)=>σ (⟨scope,sizes,o,lines⟩,if neg=true then {af with shared:=af.shared++[(sizes,lines)]} else af):=by
  unfold jn;rw[aB]
 have iJ:=(hr dM).1;have iK: -4611686018427387904<=n/\n<=4611686018427387904:=iJ;have e3:ds sizes ag=(if n<0 then match af.shared[(-n-1).toNat]? with
   |none=>ν
   |some (z,l)=>if z=sizes then σ (l,af) else ν
  else cD (dK sizes) n.toNat [] (a6 (decide (16384<min (af.told+n) aq)) {af with told:=min (af.told+n) aq})):=by
  unfold ds;rw[dM];rfl
 have iL:jm af:=by
  cases b8:ap with
  |none=>rw[b8] at aB;cases aB
  |some aV=>
   rw[b8] at aB;have dN:ba 0 aq (a6 (decide (6<ar)||df sizes) aV)=σ (o,ag):=aB;have c4:=(db dN).eqs;have cu:=(db dM).eqs;intro X;rw[cu.2.1,c4.2.1] at X;rw[cu.1,c4.1];exact fD aV b8 (R3.1 X).1
 refine dv (λbk=>ae (gn g B) w bk/\ ∃bQ cw c5 bG,ad bk Y a1 [ax,szv,Δ o,bQ]/\ao .i64 an bk g1 ax scope/\ao .i64 an bk c2 szv sizes/\jM bk cw bQ c5/\bO bk g B H 100000 (σ bG)/\(0<n->c5=[]/\ ∀r,¬leadsTo bQ r)/\ds sizes ag=(if n<=0 then σ (c5,bG) else cD (dK sizes) n.toNat [] bG)) ?_ ?_
 .rintro bk ⟨iM,bQ,cw,c5,bG,dw,dx,dz,dA,dC,eQ,eR⟩;refine LB dC dw dx dz dA f5 f6 f7 dY fC iK.2 eQ (sJ dC).1 λck A dO iN e4 e5 iO cz=>?_;have b9:=iM.trans iN;have bR:dO=(ds sizes ag).map (·.2)/\ ∀q,ds sizes ag=σ q->A=q.1:=by
   rw[eR];by_cases dP:n<=0
   .obtain⟨aF,aG⟩:=iO dP;rw[if_pos dP];exact⟨aG,λq az=>by cases az;exact aF⟩
   .rw[if_neg dP];exact cz Ω
  obtain⟨bR,bo⟩:=bR;cases neg with
  |false=>
   refine dv (λaI=>ck=aI) ?_ ?_
   .rintro _ rfl;refine ret e4 (dE b9) (dG b9) ?_ ?_ cV (λ_ h=>h) (λ_ h=>.inl h) λr W=>by have:=cW r W;have:=b9.size;omega
    .have:(jn false ar scope sizes ap).map (·.2)=dO:=by
      rw[ct,bR];cases ds sizes ag with
      |none=>rfl
      |some p=>rfl
     rw[this];exact eS e5.base
    .intro q az;rw[ct] at az;cases aJ:ds sizes ag with
     |none=>rw[aJ] at az;cases az
     |some p=>
      rw[aJ] at az;have:=bo p aJ;cases az;rw[this]
   .intro dJ bn;rw[aT];exact bn _ rfl
  |true=>
   refine dv (λaI=>∃aw,ae (λr=>r=g\/H r\/B<=r) w aI/\gI aI B Y ⟨scope,sizes,o,A⟩/\ad aI aj a1 [.slice ν 0 0,.slice ν 0 0,Δ 0,.slice ν 0 0]/\bO aI g aI.heap.size aw 100001 ((jn true ar scope sizes ap).map (·.2))/\¬aw aj/\(∀r,H r->aw r)/\(∀r,aw r->H r\/B<=r)/\ ∀r,aw r->r<aI.heap.size) ?_ ?_
   .rintro aI ⟨aw,iP,iQ,a3,a4,a5,iR,iS,iT⟩;refine ret iQ a3 iP a4 ?_ a5 iR iS iT;intro q az;rw[ct] at az;cases aJ:ds sizes ag with
    |none=>rw[aJ] at az;cases az
    |some p=>
     rw[aJ] at az;have:=bo p aJ;cases az;rw[this]
   .intro dJ bn;rw[bX];intro aW cA _ _;have iU:=e5.ext cA;have iV:=e4.ext cA;have iW:=(dE b9).ext cA;obtain⟨cq,w0,aX,bE,gs,sv,L,a2,aF,aG,bad,aY,big,aZ,told,c6,bS,bT,aO,bU,bH,bV⟩:=id iU;have iX:=bU.g bS bT;obtain⟨⟨iY,e6⟩,bf,cB,cC⟩:=id iX;have iZ:∀r,leadsTo sv r->r<B:=λr W=>cW r (bH r W);rw[aK bB.p 8 aO rfl];obtain⟨e7,e8,bQ,e9,fa,cw,fb,fc,fd,fe,i0,i1,i2⟩:=id iV;let aH:io:=⟨e7,e8,o,bQ⟩;let x:ce:=⟨scope,sizes,o,A⟩;have cp:gm aW aH x:=⟨⟨e9,fc⟩,⟨fa,fd⟩,rfl,cw,fe⟩;rw[br a1.p a1.i rfl (show aW.rangeAt Y 0 (eN aH) from fb.range)];refine gg (f:=eN) (a:=aH) dq.u a1.i Ω rfl rfl λjY jZ bl j0 aD i3=>?_;refine⟨.inl aD,?_⟩;have j1:L.length<=100000:=by
     cases dO with
     |none=>exact bV.2
     |some s=>have:=bV.2.2.2.2.2.2.2.2;omega
    have dQ:=bf.ext aD;refine gB (f:=eN) (a:=aH) dq.u a1.i rfl dQ (by simpa using i3.sl) (cp.ext aD).one Ω Ω λff i4 c1 cF i5 fg=>?_;have dR:=aO.ext aD;have fh:=dR.ab fg λhe=>cn dQ dR Φ he;rw[bu,aM bB.p rfl];refine bj (g:=g) (o:=8) dq.i (de cF.sl).1 (de cF.sl).2 fh (by simp[fU]) λbP dS j2 c7=>?_;have c7:ad bP g bB (fU aX aF aG bad aY big aZ told ff):=c7;have bh:ae (λr=>leadsTo sv r\/r=g) bl bP:=(fg.mono λr _ h=>.inl h).trans (dS.mono λr _ h=>.inr h);have c8:∀r,(leadsTo sv r\/r=g)->gH bl r\/bl.heap.size<=r:=λr W=>by
     rcases W with W|rfl
     .obtain⟨rfl,c,X⟩:=dy dQ W;exact .inl ⟨_,c,X,Φ,Φ⟩
     .exact .inl ⟨_,_,dR,Φ,Φ⟩
    have fi:∀ {aH x},gm aW aH x->gm bP aH x:=λhe=>(he.ext aD).dF bh c8;have z50:=cA.size;have j3:=aD.size;have z53:=bh.size;have j6:=b9.size;have j7:=ii.2;refine bn _ ⟨λr=>H r\/(aW.heap.size<=r/\r<bP.heap.size),?_,?_,?_,?_,?_,λr W=>.inl W,λr W=>W.imp id λW=>Ω,λr W=>?_⟩
    .refine (((dG b9).trans (cA.ab _)).trans (aD.ab _)).trans (bh.mono λr _ W=>?_);exact W.elim (λW=>.inr (.inl (bH r W))) .inl
    .have i6:=fb.ext aD;refine⟨e7,e8,bQ,e9,fa,cw,i6.ab bh λW=>?_,ew (fc.ext aD) bh c8,ew (fd.ext aD) bh c8,(fe.dF (aD.ab λ_=>False) λ_ h=>h.elim).dF bh c8,i0,i1,i2⟩;rcases W with W|W
     .have:=iZ _ W;omega
     .exact cm W
    .exact (iW.ext aD).ab bh λW=>W.elim (λW=>cV (bH _ W)) eP
    .refine⟨Ω,bP,aX,bE,i4,ff,L++[aH],a2++[x],aF,aG,bad,aY,big,aZ,told,rfl,ae.refl _ _,⟨_,c7⟩,c7,⟨⟨?_,λr W=>?_⟩,cF.ab dS λr W he=>?_,by rw[r8,r8,cB];rfl,λi i7 i8 hi cG=>?_⟩,λr W=>?_,?_⟩
     .refine (iY.ab (aD.ab λ_=>False) λ_ _ h=>h).ab bh λr W J=>?_;obtain⟨c,X⟩:=e6 r W;rcases J with J|rfl
      .obtain⟨rfl,i9,dU⟩:=dy bf J;exact absurd (ea X dU) Φ
      .exact absurd (ea X aO) Φ
     .obtain⟨c,X⟩:=e6 r W;refine⟨c,(X.ext aD).ab bh λJ=>?_⟩;rcases J with J|rfl
      .obtain⟨rfl,i9,dU⟩:=dy bf J;exact absurd (ea X dU) Φ
      .exact absurd (ea X aO) Φ
     .have he:r=g:=he;subst he;exact cn cF fh Φ W
     .by_cases ja:i<L.length
      .rw[Y3 ja] at hi;rw[Y3 Ω] at cG;exact fi (cC i i7 i8 hi cG)
      .rw[Y5 Ω] at hi;rw[Y5 Ω] at cG;have jb:i-L.length=0:=by have:=(x4.1 hi).1;simp at this;omega
       have du:i-a2.length=0:=Ω
       rw[jb] at hi;rw[du] at cG;cases hi;cases cG;exact fi cp
     .rcases i5 r W with h|h
      .exact .inl (bH r h)
      .have:=(cF.leads W);have:=dS.size;exact .inr ⟨Ω,Ω⟩
     .rw[ct];cases aJ:ds sizes ag with
      |none=>
       rw[aJ] at bR;rw[bR] at bV;exact⟨bV.1,by rw[r8];simp;have:=bV.2;omega⟩
      |some p=>
       obtain⟨lines,bG⟩:=p;rw[aJ] at bR;rw[bR] at bV;have jc:=bo _ aJ;obtain⟨cH,cI,cJ,cL,cM,cc,cN,bi,c9⟩:=id bV;have fj:=B5 aJ;refine⟨cH,cI,cJ,cL,cM,cc,cN,?_,?_⟩
       .show (a2++[x]).map _=bG.shared++[(sizes,lines)];rw[j9,bi];simp only[x,T2,List.map_nil];rw[jc]
       .have j8:ag.shared.length+ag.toks.length<=100000:=by
         cases b8:ap with
         |none=>rw[b8] at aB;cases aB
         |some aV=>
          rw[b8] at aB h;have dN:ba 0 aq (a6 (decide (6<ar)||df sizes) aV)=σ (o,ag):=aB;have t9:=db dN;have c4:=t9.1;have cu:=t9.eqs.2.2;have t3:=(sJ h).2;have fk:(a6 (decide (6<ar)||df sizes) aV).toks=aV.toks:=rfl;have fm:(a6 (decide (6<ar)||df sizes) aV).shared=aV.shared:=rfl;rw[fk] at c4;rw[fm] at cu;rw[cu];omega
        have fo:L.length=bG.shared.length:=by rw[<-bi,u5,cB]
        have jd:bE.length=bG.toks.length:=by rw[<-cc,u5]
        rw[fj.2] at fo;rw[r8,fo,jd];simp only[U2];have:=fj.1;omega
    .rintro (W|W)
     .exact cV W
     .omega
    .rcases W with W|W
     .have:=cW r W;omega
     .exact W.2
 .intro dJ bn;rw[aQ,ak];refine⟨λje=>?_,λjf=>?_⟩
  .
   refine aR (λv aC=>Ext al aC/\ ∃b:Bool,v= .bool b/\(b=true->ds sizes ag=ν)/\(b=false-> ∃lines,ds sizes ag=σ (lines,af)/\af.shared[(-n-1).toNat]? =σ (sizes,lines))) ?_ ?_
   .rintro _ aC ⟨cd,b,rfl,jg,jh⟩;have da:=bt.ext cd;have ji:=e2.ext cd;have fp:=e1.trans (cd.ab _);cases b with
    |true=>
     rw[bX];refine (np da Ω).mono ?_;rintro _ dl _ ⟨fq,jj⟩;exact eV (ji.dF fq (jO da)) (fp.trans (fq.mono λr _ h=>.inl h)) jj (by rw[ct,jg rfl])
    |false=>
     rw[aT];obtain⟨lines,jk,cg⟩:=jh rfl;obtain⟨cq,w0,aX,bE,gs,sv,L,a2,aF,aG,bad,aY,big,aZ,told,c6,bS,bT,aO,bU,bH,cH,cI,cJ,cL,cM,cc,cN,bi,c9⟩:=id da;obtain⟨_,bf,cB,cC⟩:=bU.g bS bT;have cO:(-n-1).toNat<L.length:=by
      have h1:=(x4.1 cg).1;rw[<-bi,u5] at h1;omega
     obtain⟨hk,cP⟩:∃h,L[(-n-1).toNat]? =σ h:=⟨_,x6 cO⟩;obtain⟨bz,cQ⟩:=aN (l:=a2) (i:=(-n-1).toNat) Ω;obtain⟨_,_,_,jl,aP⟩:=cC _ hk bz cP cQ;have jo:bz.lines=lines:=by
      rw[<-bi,u4,cQ] at cg;have:=Z9 cg;exact (R8.inj this).2
     rw[aK bB.p 8 aO rfl,kW,wrap_i64 Ω Ω,dj,wrap_i64 Ω Ω,cE (i:=(-n-1).toNat) Ω dq.u a1.i bf cO,aM a1.p rfl,aS Ψ (bf.range cP 3 _ rfl)];obtain⟨ka,fs,kb,kc⟩:=id aP;have dc:ad aC Y a1 [ax,szv,Δ o,ca]:=(b5.ab bF λhe=>cm he).ext cd;have jp:=(ew f224 bF λr W=>(jO b7 r W).imp (λ⟨e,c,X,bp,bq,_⟩=>⟨e,c,X,bp,bq⟩) id).ext cd;have jq:=(ew f324 bF λr W=>(jO b7 r W).imp (λ⟨e,c,X,bp,bq,_⟩=>⟨e,c,X,bp,bq⟩) id).ext cd;rw[aM a1.p rfl];refine bj (g:=Y) (o:=3) dT.i (de fs.sl).1 (de fs.sl).2 dc Ξ λeJ cR kd jr=>?_;refine bn _ ⟨fp.trans (cR.mono λr _ h=>.inr (by have h:r=Y:=h;omega)),hk.ca,jl,lines,af,jr,ew jp cR (b6 dc),ew jq cR (b6 dc),?_,da.new cR λr W=>by have W:r=Y:=W;omega,λh=>Ω,by rw[jk,if_pos Ω]⟩;rw[<-jo];exact aP.dF cR (b6 dc)
   .intro ke ft;intro am cS _ _;have js:=bt.ext cS;obtain⟨cq,w0,aX,bE,gs,sv,L,a2,aF,aG,bad,aY,big,aZ,told,c6,bS,bT,aO,bU,bH,cH,cI,cJ,cL,cM,cc,cN,bi,c9⟩:=id js;obtain⟨_,bf,cB,cC⟩:=bU.g bS bT;have kf:af.shared.length=L.length:=by rw[<-bi,u5,cB]
    have aP:=e3;rw[if_pos je] at aP;rw[kW,wrap_i64 Ω Ω,aK bB.p 8 aO rfl,dt dq.u bf,bY,ak];refine⟨λcz=>ft _ _ ⟨cS,true,rfl,λ_=>?_,λh=>by cases h⟩,λcz=>?_⟩
    .rw[aP,Y9 Ω]
    have cO:(-n-1).toNat<L.length:=Ω
    obtain⟨hk,cP⟩:∃h,L[(-n-1).toNat]? =σ h:=⟨_,x6 cO⟩;obtain⟨bz,cQ⟩:=aN (l:=a2) (i:=(-n-1).toNat) Ω;obtain⟨_,⟨gz,jt⟩,_,_⟩:=cC _ hk bz cP cQ;have cg:af.shared[(-n-1).toNat]? =σ (bz.sizes,bz.lines):=by rw[<-bi,u4,cQ];rfl
    rw[cg] at aP;simp only at aP;rw[aK bB.p 8 aO rfl,kW,wrap_i64 Ω Ω,dj,wrap_i64 Ω Ω,cE (i:=(-n-1).toNat) Ω dq.u a1.i bf cO,aM a1.p rfl,aS Ψ (bf.range cP 1 _ rfl)];have ju:ad am Y a1 [ax,szv,Δ o,ca]:=(b5.ab bF λhe=>cm he).ext cS;have jv:=(ew f324 bF λr W=>(jO b7 r W).imp (λ⟨e,c,X,bp,bq,_⟩=>⟨e,c,X,bp,bq⟩) id).ext cS;rw[av a1.p 1 ju rfl];refine (vF jt.ls jv.ls).mono ?_;rintro _ dm _ ⟨rfl,jw⟩;rw[bg];refine ft _ _ ⟨cS.trans jw,_,rfl,λX=>?_,λX=>?_⟩
    .have jx:bz.sizes≠sizes:=by simpa using X
     rw[aP,if_neg jx]
    .have fu:bz.sizes=sizes:=by simpa using X
     exact⟨bz.lines,by rw[aP,if_pos fu],by rw[cg,fu]⟩
  .
   have aP:=e3;rw[if_neg jf] at aP;obtain⟨cq,w0,aX,bE,gs,sv,L,a2,aF,aG,bad,aY,big,aZ,told,c6,bS,bT,aO,bU,bH,cH,cI,cJ,cL,cM,cc,cN,bi,c9⟩:=id bt;rw[aK bB.p 7 aO rfl,aL];generalize jy:X2.wrap (told+n)=bI;have fv:af.big=false->bI=af.told+n/\0<=bI:=λX=>by
    obtain⟨fk,fm⟩:=iL X;have jz:=cL X;rw[<-jy,jz,wrap_i64 Ω Ω];exact⟨rfl,Ω⟩
   rw[bu,aM bB.p rfl];refine bj (g:=g) (o:=7) an.i rfl rfl aO (by simp[fU]) λbc fw kg cT=>?_;have cT:ad bc g bB (fU aX aF aG bad aY big aZ bI sv):=cT;refine dv (λbe=>ae (λr=>r=g) al be/\ad be g bB (fU aX aF aG bad aY big aZ (min bI aq) sv)) ?_ ?_
   rotate_left
   .intro kh fx;rw[aK bB.p 7 cT rfl,bY,ak];refine⟨λcz=>?_,λcz=>fx _ ⟨fw,?_⟩⟩
    .rw[bu,aM bB.p rfl];refine bj (g:=g) (o:=7) an.i rfl rfl cT (by simp[fU]) λeM jA ki jB=>?_;refine fx _ ⟨fw.trans jA,?_⟩;have e:min bI aq=4611686018427387904:=by unfold aq;omega
     rw[e];exact jB
    .have e:min bI aq=bI:=by unfold aq;omega
     rw[e];exact cT
   rintro be ⟨fy,fz⟩;have jC:bO be g B H 100000 (σ {af with told:=min (af.told+n) aq}):=⟨cq,w0,aX,bE,gs,sv,L,a2,aF,aG,bad,aY,big,aZ,_,c6,bS.trans fy,bT,fz,bU,bH,cH,cI,cJ,λX=>by
    have X:af.big=false:=X;rw[(fv X).1],cM,cc,cN,bi,c9⟩
   rw[aK bB.p 7 fz rfl,bY];refine (l3 jC).mono ?_;rintro _ dn _ ⟨jD,fA⟩;have jE:(σ {af with told:=min (af.told+n) aq}).map (a6 (decide (16384<min bI aq)))=σ (a6 (decide (16384<min (af.told+n) aq)) {af with told:=min (af.told+n) aq}):=by
    show σ (a6 _ _)=_;congr 1;unfold a6;cases X:af.big with
    |true=>simp
    |false=>rw[(fv X).1]
   rw[jE] at fA;have cU:ae (λr=>r=g) bC dn:=(bF.trans fy).trans jD;have dV:∀r,r=g->gH bC r\/bC.heap.size<=r:=λr W=>(jO b7 r W).imp (λ⟨e,c,X,bp,bq,_⟩=>⟨e,c,X,bp,bq⟩) id;have jF:ca= .slice ν 0 0:=by
    have:=fB _ f1;simpa using this
   refine bn _ ⟨eY.trans (cU.mono λr _ h=>.inl h),ca,c3,[],_,b5.ab cU λhe=>cm he,ew f224 cU dV,ew f324 cU dV,eX.dF cU dV,fA,λ_=>⟨rfl,λr W=>by rw[jF] at W;exact eT W⟩,?_⟩;rw[aP];by_cases e0:n<=0
   .have:n=0:=Ω
    subst this;rw[if_pos (Int.le_refl _)];rfl
   .rw[if_neg e0]
theorem B8 {s:aE}:cW all s=match ba (-aq) aq s with
  |none=>ν
  |some (a,s1)=>match eK all.length a.natAbs s1 with
   |none=>ν
   |some (scope,J)=>jn (decide (a<0)) a.natAbs scope (scope.map λv=>all.getD v.toNat 0) (σ J):=by
 unfold cW;cases ba (-aq) aq s with
 |none=>rfl
 |some q=>
  obtain⟨a,s1⟩:=q;simp only;cases eK all.length a.natAbs s1 with
  |none=>rfl
  |some p=>
   obtain⟨scope,J⟩:=p;simp only;unfold jn;show _=match ba 0 aq (a6 (decide (6<a.natAbs)||df (scope.map λv=>all.getD v.toNat 0)) J) with
    |none=>ν
    |some (other,U)=>_
   cases ba 0 aq (a6 (decide (6<a.natAbs)||df (scope.map λv=>all.getD v.toNat 0)) J) with
   |none=>rfl
   |some W=>
    obtain⟨o,U⟩:=W;simp only;cases ds (scope.map λv=>all.getD v.toNat 0) U with
    |none=>rfl
    |some X=>
     obtain⟨ls,Y⟩:=X;by_cases V:a<0
     .simp[V]
     .simp[V]
def vH (w:x2) (g:Nat) (H:ah) (U:Option (ce×aE)) (v:y0) (w':x2):Prop:=∃V x J,ae (λr=>r=g\/H r) w w'/\v= .agg (eN V).toArray/\gm w' V x/\bO w' g w'.heap.size J 100001 (U.map (·.2))/\(∀q,U=σ q->x=q.1)/\(∀r,H r->J r)/\(∀r,J r->H r\/w.heap.size<=r)/\ ∀r,J r->r<w'.heap.size
theorem B9 {n:Int} {k:Nat} {s s':aE} (h:eK n k s=σ (l,s')):s'.toks.length+l.length<=s.toks.length/\s'.told=s.told/\s'.big=s.big/\s'.shared=s.shared/\ ∀v∈l,0<=v/\v<n:=by
 have:=ia (f:=jD n) (λ(acc:Λ) t=>t.toks.length+acc.length<=s.toks.length/\t.told=s.told/\t.big=s.big/\t.shared=s.shared/\ ∀v∈acc,0<=v/\v<n) (λacc t a bD U J=>by
  unfold jD at J;cases W:ba 0 (n-1) t with
  |none=>rw[W] at J;cases J
  |some q=>
   obtain⟨v,ad⟩:=q;rw[W] at J;simp only at J;split at J
   .cases J
   .cases J;have X:=db W;have ae:=(hr W).1;obtain⟨Y,aa,ab⟩:=X.eqs;have t0:=X.1;refine⟨by have:=U.1;rw[r8];simp only[U2];omega,Y.trans U.2.1,aa.trans U.2.2.1,ab.trans U.2.2.2.1,λy V=>?_⟩;rcases l5.1 V with V|V
    .exact U.2.2.2.2 y V
    .rw[l9.1 V];omega) k [] s l s' ⟨Ξ,rfl,rfl,rfl,λv ac=>by cases ac⟩ h
 exact this.1
theorem LC {g B0:Nat} {H:ah} {s:aE} {aA:y0} (h:bO w g B0 H 100000 (σ s)) (aK:ao .i64 an w gz aA all) (aL:∀z∈all,1<=z/\z<=aq) (bj:all.length<=100001) (aB:∀r,H r->r<w.heap.size) (bH:jm s):
  ai x3 x0 [Γ g,aA] w (vH w g H (cW all s)):=by
 have ci:=h.lt;refine az func100 ?_;refine bp a1.i λal V cj aC aD=>?_;have aD:ad V al a1 [.slice ν 0 0,.slice ν 0 0,Δ 0,.slice ν 0 0]:=aD;refine bp a1.i λap aa ck aF aG=>?_;have aG:ad aa ap a1 [.slice ν 0 0,.slice ν 0 0,Δ 0,.slice ν 0 0]:=aG;have h1:=(h.ext aC).base;have aM:=h1.ext aF;have cl:=aC.size;have bk:=aD.lt;have cm:=aG.lt;refine (jN aM).mono ?_;rintro _ aj _ ⟨⟨aH,Y⟩,a,cn,rfl,aN,aO⟩;rw[bL,bM,aQ];have bI:ap≠g:=Ω
 have aP:al≠g:=Ω
 have aS:=aG.ab aH λhe=>bI he;have aT:=(aD.ext aF).ab aH λhe=>aP he;have bl:ao .i64 an aj gz aA all:=be ((aK.ext aC).ext aF) aH λr W he=>by
  have he:r=g:=he;obtain⟨bm,af,am,bad,bn,big,bo,told,sv,aI,_⟩:=hy h;subst he;exact b5 aK aI Φ W rfl
 have bq:∀r,leads aA r->r<V.heap.size:=λr W=>by obtain⟨af,am⟩:=bz aK W;omega
 have aU:gI aj V.heap.size ap ⟨[],[],0,[]⟩:=⟨_,_,_,0,0,0,aS,ao.nil _ _ _ _,ao.nil _ _ _ _,⟨[],bb.nil _ _ _ _ _,λy bJ=>(by cases bJ),rfl⟩,(λr W=>by rcases W with⟨a,n,c,af,am⟩|⟨a,n,c,af,am⟩<;>cases af),(λr W=>by obtain⟨a,n,c,af,am⟩:=W;cases af),Ω⟩;have aV:∀c,ad aj ap a1 c->c[3]? =σ (.slice ν 0 0):=λc aW=>by
  unfold ad at aW aS;rw[aS] at aW;have:=Array.toList_inj.2 (Obj.cells.inj (Z9 aW)).1;simp at this;rw[<-this];rfl
 have bt:ae (λr=>r=g) V aj:=(aF.ab _).trans aH;have cp:V.heap.size<=aj.heap.size:=bt.size;have aX:∀ {X:x2} {aY:Option (ce×aE)} {v:y0} {w':x2},ae (gn g V.heap.size) aj X->aY=cW all s->B6 X g al V.heap.size H aY v w'->vH w g H (cW all s) v w':=by
  rintro X aY v w' ag rfl ⟨av,x,bN,aZ,a2,a6,a7,bu,bw,bx,bP⟩;refine⟨av,x,bN,?_,a2,a6,a7,bu,bw,λr W=>(bx r W).imp id λh=>Ω,bP⟩;refine gy (gy ((aC.ab _).trans (bt.mono λr _ h=>.inl h)) ag λr W he=>?_) aZ λr W he=>?_
  .exact he.elim .inl λhe=>Ω
  .rcases he with he|he|he|he
   .exact .inl he
   .exact .inr he
   .omega
   .omega
 have bQ:∀ {X:x2} {x:ce},ae (gn g V.heap.size) aj X->cW all s=ν->bO X g V.heap.size H 100000 ν->gI X V.heap.size ap x->
   (U x3 (x7 a1 (Γ ap)) X λbR=>
    ay x3 (o7 a1 (Γ al) bR) X λ(_:Unit) bA=>
    U x3 (do loadVar a1 (<-asAddr (Γ al))) bA λbS=>vH w g H (cW all s) bS bA):=by
  intro X x ag bB bc bT;obtain⟨ax,szv,ca,g1,bU,bV,aZ,a2,a6,a7,bu,bw,bx⟩:=bT;let av:io:=⟨ax,szv,x.other,ca⟩;have bC:gm X av x:=⟨⟨g1,a2⟩,⟨bU,a6⟩,rfl,bV,a7⟩;have bd:=aT.ab ag λJ=>J.elim aP λh=>Ω
  rw[br a1.p a1.i rfl (show X.rangeAt ap 0 (eN av) from aZ.range)];refine bK (vs:=eN av) a1.i rfl rfl bC.one bd λcq bf cr bW=>?_;rw[eZ a1.p a1.i rfl bW.range];have bX:∀r,r=al->gH X r\/X.heap.size<=r:=λr W=>by subst W;exact .inl ⟨_,_,bd,Φ,Φ⟩
  have ct:=ag.size;refine aX ag rfl ⟨av,x,H,bf.mono λr _ h=>.inr (.inr (.inl h)),rfl,bC.dF bf bX,?_,(λq ac=>by rw[bB] at ac;cases ac),λ_ h=>h,λ_ h=>.inl h,λr W=>by have:=aB r W;omega⟩;rw[bB];have bY:bO X g V.heap.size H 100001 ν:=by
   obtain⟨cu,w0,bm,bZ,gs,sv,L,b0,af,am,bad,bn,big,bo,told,h1,aM,Y,b1,b2,bg,bD⟩:=bc;exact⟨Ω,w0,bm,bZ,gs,sv,L,b0,af,am,bad,bn,big,bo,told,h1,aM,Y,b1,b2,bg,bD.1,by have:=bD.2;omega⟩
  refine bY.dF bf λr W=>.inl ?_;have W:r=al:=W;subst W;exact⟨_,_,bd,Φ,Φ,Φ,Φ,λaw=>by have:=aB _ aw;omega⟩
 have au:=B8 (all:=all) (s:=s);have b3:a8 (-4611686018427387904) 4611686018427387904 (σ s)=ba (-aq) aq s:=rfl;rw[b3] at Y aN aO;have cw: -4611686018427387904<=a/\a<=4611686018427387904:=by
  cases ac:ba (-aq) aq s with
  |none=>have:=aO ac;omega
  |some q=>have:=aN q ac;rw[this];exact (hr (n:=q.1) (s':=q.2) ac).1
 refine aR (λv b4=>aj=b4/\v=Δ (a.natAbs:Int)) ?_ ?_
 rotate_left
 .intro cz bE;rw[ak];refine⟨λcA=>?_,λcB=>bE _ _ ⟨rfl,by congr 1;omega⟩⟩;rw[kW,wrap_i64 Ω Ω];exact bE _ _ ⟨rfl,by congr 1;omega⟩
 rintro _ _ ⟨rfl,rfl⟩;have bF:∀r,H r->r<V.heap.size:=λr W=>by have:=aB r W;omega
 have bG:¬H al:=λaw=>by have:=aB _ aw;omega
 have b6:∀ {scope:Λ},(∀v∈scope,0<=v/\v<(all.length:Int))-> ∀z∈scope.map (λv=>all.getD v.toNat 0),1<=z/\z<=aq:=λb7 z b8=>by
  obtain⟨v,b9,rfl⟩:=Z6.1 b8;have:=b7 v b9;refine aL _ ?_;rw[u9,x6 Ω];exact S3 _
 cases ac:ba (-aq) aq s with
 |none=>
  rw[ac] at Y au;have cb:=aO ac;subst cb;refine B4 (s:=s) (ar:=(0:Int).natAbs) Y (.inr ⟨rfl,rfl⟩) aU aV bl bq bj Φ (λh=>by cases h) ?_ ?_ ?_
  .intro h;cases h
  .intro _;exact B7 (neg:=decide ((0:Int)<0)) Y aU aV (λz aL=>by cases aL) Ξ aT bk bG bF (λcc J=>by cases J) λv w' bh=>aX (ae.refl _ _) (by rw[au];rfl) bh
  .intro h;cases h
 |some q=>
  obtain⟨a',s1⟩:=q;rw[ac] at Y au;have:=aN _ ac;subst this;simp only at au;have Y:bO aj g V.heap.size H 100000 (σ s1):=Y;have cd:=db ac;refine B4 (s:=s1) (ar:=a.natAbs) Y (.inl rfl) aU aV bl bq bj Ω (λ_=>(sJ Y).1) ?_ ?_ ?_
  .intro _ X x ag aJ bc bi;exact bQ ag (by rw[au,aJ]) bc bi
  .intro h;cases h
  .intro _ X scope s' ag aJ bg bi cg;obtain⟨cC,ch,t3,t4,t5⟩:=B9 aJ;rw[aJ] at au;obtain⟨af,am,cD⟩:=cd.eqs;refine B7 (neg:=decide (a<0)) bg bi cg (b6 t5) ?_ (aT.ab ag λJ=>J.elim aP λh=>Ω) bk bG bF (λcc J=>?_) λv w' bh=>aX ag au.symm bh
   .rw[u5];have:=(sJ Y).1;omega
   .cases J;intro aI;rw[t3,am] at aI;rw[ch,af];exact bH aI
theorem LD {s s':aE} {l:List (Λ×Int)} (h:ds sizes s=σ (l,s')) (W:jm s):jm s':=by
 unfold ds at h;cases U:ba (-aq) aq s with
 |none=>rw[U] at h;cases h
 |some q=>
  obtain⟨n,s1⟩:=q;obtain⟨X,Y,t3⟩:=(db U).eqs;have V:jm s1:=λJ=>by rw[X];exact W (by rw[<-Y];exact J)
  rw[U] at h;simp only at h;split at h
  .split at h
   .cases h
   .split at h
    .cases h;exact V
    .cases h
  .rename_i ah;have h':cD (dK sizes) n.toNat [] (a6 (decide (16384<min (s1.told+n) aq)) {s1 with told:=min (s1.told+n) aq})=σ (l,s'):=h;have:=ia (f:=dK sizes) (λ_ t=>jm t) (λacc t a bD aa ab=>by
    obtain⟨_,_,_,ac⟩:=mX ab;obtain⟨ad,ae,ai⟩:=ac.eqs;intro J;rw[ad];exact aa (by rw[<-ae];exact J)) n.toNat [] (a6 (decide (16384<min (s1.told+n) aq)) {s1 with told:=min (s1.told+n) aq}) l s' (λJ=>by
     obtain⟨af,ag⟩:=R3.1 J;have aj:=V af;have ak:=of_decide_eq_false ag;show 0<=min (s1.told+n) aq/\min (s1.told+n) aq<=16384;unfold aq at*;omega) h'
   exact this.1
theorem LF {s s':aE} {x:ce} (h:cW all s=σ (x,s')):s'.toks.length+1<=s.toks.length/\(jm s->jm s'):=by
 rw[B8] at h;cases W:ba (-aq) aq s with
 |none=>rw[W] at h;cases h
 |some q=>
  obtain⟨a,s1⟩:=q;rw[W] at h;simp only at h;have ab:=db W;cases J:eK all.length a.natAbs s1 with
  |none=>rw[J] at h;cases h
  |some p=>
   obtain⟨scope,U⟩:=p;rw[J] at h;simp only at h;obtain⟨aw,af,t3,_⟩:=B9 J;unfold jn at h;have e:a8 0 aq ((σ U).map (a6 (decide (6<a.natAbs)||df (scope.map λv=>all.getD v.toNat 0))))=ba 0 aq (a6 (decide (6<a.natAbs)||df (scope.map λv=>all.getD v.toNat 0)) U):=rfl;rw[e] at h;cases X:ba 0 aq (a6 (decide (6<a.natAbs)||df (scope.map λv=>all.getD v.toNat 0)) U) with
   |none=>rw[X] at h;cases h
   |some ag=>
    obtain⟨o,ac⟩:=ag;rw[X] at h;simp only at h;have ad:=db X;cases V:ds (scope.map λv=>all.getD v.toNat 0) ac with
    |none=>rw[V] at h;cases h
    |some ah=>
     obtain⟨ls,Y⟩:=ah;rw[V] at h;simp only[Y8,T5] at h;obtain⟨_,ai⟩:=h;have ax:=B5 V;have aj:(a6 (decide (6<a.natAbs)||df (scope.map λv=>all.getD v.toNat 0)) U).toks=U.toks:=rfl;have ak:=ad.1;rw[aj] at ak;have ay:=ab.1;obtain⟨al,am,_⟩:=ab.eqs;obtain⟨f1,f2,_⟩:=ad.eqs;have aa:s'.toks=Y.toks/\s'.told=Y.told/\s'.big=Y.big:=by
      rw[<-ai];split<;>exact⟨rfl,rfl,rfl⟩
     refine⟨by rw[aa.1];omega,λan=>?_⟩;have ao:jm ac:=λae=>by
      rw[f2] at ae;rw[f1];have ap:U.big=false:=(R3.1 ae).1;show 0<=U.told/\U.told<=16384;rw[af,al];exact an (by rw[<-am,<-t3];exact ap)
     have au:=LD V ao;intro av;rw[aa.2.1];exact au (by rw[<-aa.2.2];exact av)
theorem bO.shrink {g:Nat} {H:ah} {so:Option aE} (h:bO w g B H N so):∃J,bO w g B J N so/\(∀r,J r->H r)/\ ∀r,J r-> ∃c,ad w r a1 c:=by
 obtain⟨aa,w0,ac,ae,gs,sv,L,af,ag,ai,bad,aj,big,ak,told,h1,V,W,al,X,am,an⟩:=h;refine⟨λr=>leadsTo sv r,⟨aa,w0,ac,ae,gs,sv,L,af,ag,ai,bad,aj,big,ak,told,h1,V,W,al,X,λr U=>U,an⟩,am,λr U=>?_⟩;obtain⟨rfl,c,Y⟩:=dy X.2.1 U;refine⟨c,Y.ab V λhe=>?_⟩;obtain⟨ap,ao⟩:=W;subst he;exact absurd (ea Y ao) Φ
theorem bO.low {g:Nat} {H:ah} {s:aE} (h:bO w g B H N (σ s)):bO w g B H 100000 (σ s):=by
 obtain⟨ai,w0,J,U,gs,sv,L,V,W,X,bad,Y,big,aa,told,h1,ab,ac,ad,ae,af,ag⟩:=h;exact⟨n9 _,w0,J,U,gs,sv,L,V,W,X,bad,Y,big,aa,told,h1,ab,ac,ad,ae,af,ag⟩
theorem bO.up {g M:Nat} {H:ah} {so:Option aE} (h:bO w g B H N so) (ai:N<=M):bO w g B H M so:=by
 obtain⟨aj,w0,U,V,gs,sv,L,W,X,Y,bad,aa,big,ab,told,h1,ac,ad,ae,af,ag,J⟩:=h;refine⟨Ω,w0,U,V,gs,sv,L,W,X,Y,bad,aa,big,ab,told,h1,ac,ad,ae,af,ag,?_⟩;cases so with
 |none=>exact⟨J.1,by have:=J.2;omega⟩
 |some s=>exact J
def kz {α:Type} (f:List α->aE->Option (α×aE)) (cnt i:Nat) (J:Option aE) (A:List α) (so:Option aE):Prop:=J.bind (cD f cnt [])=(match so with
 |none=>ν
 |some s=>cD f (cnt-i) A s)
theorem kz.step {α:Type} {f:List α->aE->Option (α×aE)} {cnt i:Nat} {U:Option aE} {A:List α} {s:aE} {a:α} {V:Option aE} (h:kz f cnt i U A (σ s)) (hi:i<cnt) (h1:V=(f A s).map (·.2)) (W:∀q,f A s=σ q->a=q.1):kz f cnt (i+1) U (A++[a]) V:=by
 unfold kz at*;rw[h,show cnt-i=(cnt-(i+1))+1 by omega];simp only;cases J:f A s with
 |none=>rw[ow J,h1,J];rfl
 |some q=>
  obtain⟨a',s'⟩:=q;have:=W _ J;subst this;rw[rV J,h1,J];rfl
theorem LG {s0:aE} {acc:Λ} {n most count:Int} {ai:List ce} {ab ac ad ae aj so6 U:Option aE} (h1:ab=((dD s0).map (·.2)).map (a6 (decide (64<t.length)))) (aw:∀q,dD s0=σ q->t=q.1)
  (Y:ac=((a8 1 aq ab).map (·.2)).map (a6 (decide (64<n)))) (ap:∀q,a8 1 aq ab=σ q->n=q.1) (W:ad=(a8 1 aq ac).map (·.2)) (hm:∀q,a8 1 aq ac=σ q->most=q.1)
  (V:ae=((a8 0 aq ad).map (·.2)).map (a6 (decide (256<count)))) (au:∀q,a8 0 aq ad=σ q->count=q.1) (J:aj=((a8 1 aq ae).map (·.2)).map (a6 (decide (2147483648<k)))) (hk:∀q,a8 1 aq ae=σ q->k=q.1)
  (aa:aj.bind (cD (e0 most) n.toNat [])=so6.map λs=>(acc,s)) (X:so6.bind (cD (λ_ s=>cW acc s) count.toNat [])=U.map λs=>(ai,s)):gx s0=U.map λs=>(⟨t,k,acc,ai⟩,s):=by
 unfold gx;cases ak:dD s0 with
 |none=>
  rw[ak] at h1;subst h1;subst Y;subst W;subst V;subst J;have:so6=ν:=by cases so6 with|none=>rfl|some s=>cases aa
  subst this;cases U with|none=>rfl|some s=>cases X
 |some ax=>
 obtain⟨bD,s1⟩:=ax;have:=aw _ ak;subst this;rw[ak] at h1;have h1:ab=σ (a6 (decide (64<t.length)) s1):=h1;subst h1;simp only;have ay:a8 1 aq (σ (a6 (decide (64<t.length)) s1))=ba 1 aq (a6 (decide (64<t.length)) s1):=rfl;rw[ay] at Y ap;cases al:ba 1 aq (a6 (decide (64<t.length)) s1) with
 |none=>
  rw[al] at Y;subst Y;subst W;subst V;subst J;have:so6=ν:=by cases so6 with|none=>rfl|some s=>cases aa
  subst this;cases U with|none=>rfl|some s=>cases X
 |some az=>
 obtain⟨aI,af⟩:=az;have:=ap _ al;subst this;rw[al] at Y;have Y:ac=σ (a6 (decide (64<n)) af):=Y;subst Y;simp only;have aA:a8 1 aq (σ (a6 (decide (64<n)) af))=ba 1 aq (a6 (decide (64<n)) af):=rfl;rw[aA] at W hm;cases am:ba 1 aq (a6 (decide (64<n)) af) with
 |none=>
  rw[am] at W;subst W;subst V;subst J;have:so6=ν:=by cases so6 with|none=>rfl|some s=>cases aa
  subst this;cases U with|none=>rfl|some s=>cases X
 |some aB=>
 obtain⟨c7,ag⟩:=aB;have:=hm _ am;subst this;rw[am] at W;have W:ad=σ ag:=W;subst W;simp only;have aC:a8 0 aq (σ ag)=ba 0 aq ag:=rfl;rw[aC] at V au;cases an:ba 0 aq ag with
 |none=>
  rw[an] at V;subst V;subst J;have:so6=ν:=by cases so6 with|none=>rfl|some s=>cases aa
  subst this;cases U with|none=>rfl|some s=>cases X
 |some aD=>
 obtain⟨aJ,ah⟩:=aD;have:=au _ an;subst this;rw[an] at V;have V:ae=σ (a6 (decide (256<count)) ah):=V;subst V;simp only;have aF:a8 1 aq (σ (a6 (decide (256<count)) ah))=ba 1 aq (a6 (decide (256<count)) ah):=rfl;rw[aF] at J hk;cases ao:ba 1 aq (a6 (decide (256<count)) ah) with
 |none=>
  rw[ao] at J;subst J;have:so6=ν:=by cases so6 with|none=>rfl|some s=>cases aa
  subst this;cases U with|none=>rfl|some s=>cases X
 |some aG=>
 obtain⟨aK,av⟩:=aG;have:=hk _ ao;subst this;rw[ao] at J;have J:aj=σ (a6 (decide (2147483648<k)) av):=J;subst J;simp only;have aa:cD (e0 most) n.toNat [] (a6 (decide (2147483648<k)) av)=so6.map λs=>(acc,s):=aa;rw[aa];cases so6 with
 |none=>cases U with|none=>rfl|some s=>cases X
 |some aH=>
  simp only[Y4];have X:cD (λ_ s=>cW acc s) count.toNat [] aH=U.map λs=>(ai,s):=X;rw[X];cases U<;>rfl
def oP (w:x2) (gr:Nat) (U:y0) (J:List ce):Prop:=∃L,bb eN 4 a1 w gr U L/\J.length=L.length/\ ∀ (i:Nat) h x,L[i]? =σ h->J[i]? =σ x->gm w h x
def nq (w:x2) (U:Nat) (f:b4):Prop:=∃szv gz J gr,ad w U dx [bU f.name,Δ f.k,szv,J]/\ao .i64 an w gz szv f.sizes/\oP w gr J f.funs
theorem oP.ext {gr:Nat} {J:y0} {U:List ce} (h:oP w gr J U) (V:Ext w w'):oP w' gr J U:=by
 obtain⟨L,h1,W,X⟩:=h;exact⟨L,h1.ext V,W,λi aw x hi Y=>(X i aw x hi Y).ext V⟩
theorem nq.ext {U:Nat} {f:b4} (h:nq w U f) (J:Ext w w'):nq w' U f:=by
 obtain⟨szv,gz,V,gr,h1,W,X⟩:=h;exact⟨szv,gz,V,gr,h1.ext J,W.ext J,X.ext J⟩
def LH (w:x2) (pl:Λ) (v:y0) (w':x2):Prop:=Ext w w'/\ ∃n e:Int,(fj pl=ν->v= .tuple #[.pointer ν,Δ n,Δ e])/\ ∀f,fj pl=σ f-> ∃J,v= .tuple #[Γ J,Δ n,Δ e]/\nq w' J f
theorem LI {w0:x2} {g W:Nat} {so6:Option aE} {acc:Λ} {count bad:Int} {p:y0} {Q:y0->x2->Prop} (dr:ae (λr=>w0.heap.size<=r) w0 w) (ch:ad w W dx [bU t,Δ k,szv,.slice ν 0 0]) (ds:ao .i64 an w gz szv acc)
  (h:bO w g B bC 100000 so6) (dt:∀s,so6=σ s->jm s/\s.toks.length<=100000/\(∀z∈acc,1<=z/\z<=aq)/\acc.length<=100001) (ft:w0.heap.size<=g) (fu:w0.heap.size<=W) (du:aH .u8 w0 p pl) (fv:0<=count/\count<=4611686018427387904)
  (bF:∀v w' aj bG,Ext w0 w'->so6.bind (cD (λ_ s=>cW acc s) count.toNat [])=bG.map (λs=>(aj,s))->
   (∀s,bG=σ s->s.toks=[]/\¬0<=bad/\s.big=false->v= .tuple #[Γ W,Δ (pl.length:Int),Δ 0]/\nq w' W ⟨t,k,acc,aj⟩)->
   ((∀s,bG=σ s->¬(s.toks=[]/\¬0<=bad/\s.big=false))-> ∃n e:Int,v= .tuple #[.pointer ν,Δ n,Δ e])->Q v w'):
  b0 (Δ 0) w λci Y dw=>
   bJ (α:=y0->x2->Prop) (λ(dz:y0) (al:x2)=>
    Split dz (cK al λaf=>
   U x3 (bd (Γ W)) af λa6=>
   U x3 (x8 dx a6 3) af λa7=>
   U x3 (x7 dq a7) af λbI=>
   U x3 (bd (Γ W)) af λdA=>
   U x3 (x8 dx dA 2) af λdC=>
   U x3 (x7 au dC) af λdD=>
   ai x3 x0 [(Γ g),dD] af λdE aJ=>
    (Ext af aJ\/bw x3 (x7 dq a7) bI aJ/\bw x3 (x8 dx a6 3) a7 aJ/\bw x3 (bd (Γ W)) a6 aJ/\True)/\
   ay x3 (Y1 dq 1 #[(0,dE)]) aJ λdG av=>
    (Ext af av\/bw x3 (x7 dq a7) bI av/\bw x3 (x8 dx a6 3) a7 av/\bw x3 (bd (Γ W)) a6 av/\True)/\
    ay x3 (j4 #[dq,dq] dq #[bI,dG]) av λdH bk=>
     U x3 (bd (Γ W)) bk λdI=>
     U x3 (x8 dx dI 3) bk λdJ=>
     ay x3 (o7 dq dJ dH) bk λ(_:Unit) a8=>
     U x3 (aA .add an false true ci (Δ 1)) a8 λdK=>
   dw dK a8)
     (bJ (α:=x2->Prop) (λ(ap:x2)=>
   bJ (α:=x2->Prop) (λ(aa:x2)=>
    U x3 (bd (Γ g)) aa λdL=>
    U x3 (x8 bB dL 3) aa λdM=>
    U x3 (x7 ac dM) aa λdN=>
    U x3 (aA .neq ac false true dN (Δ 0)) aa λdO=>
    Split dO (cK aa λaD=>
     U x3 (bd (Γ g)) aD λdP=>
     U x3 (x8 bB dP 4) aD λdQ=>
     U x3 (x7 ac dQ) aD λdR=>
     U x3 (bd (Γ g)) aD λdS=>
     U x3 (x8 bB dS 3) aD λdT=>
     U x3 (x7 ac dT) aD λdU=>
     Q (.tuple #[(.pointer ν),dR,dU]) aD)
     (U x3 (bd (Γ g)) aa λdV=>
    U x3 (x8 bB dV 5) aa λdW=>
    U x3 (x7 ac dW) aa λdX=>
    U x3 (aA .neq ac false true dX (Δ 0)) aa λdY=>
    Split dY (cK aa λaF=>
     U x3 (bd (Γ g)) aF λdZ=>
     U x3 (x8 bB dZ 6) aF λec=>
     U x3 (x7 ac ec) aF λed=>
     U x3 (bd (Γ g)) aF λee=>
     U x3 (x8 bB ee 5) aF λef=>
     U x3 (x7 ac ef) aF λeg=>
     Q (.tuple #[(.pointer ν),ed,eg]) aF)
     (U x3 (X0 #[cH] ac #[p]) aa λeh=>
    Q (.tuple #[(Γ W),eh,(Δ 0)]) aa))) λcj=>
   bJ (α:=y0->x2->Prop) (λ(ei:y0) (bl:x2)=>
    Split ei (ai x3 mu [(Γ g),(Δ 11),(Δ bad)] bl λfw cl=>
     cj cl)
     (cj bl)) λcm=>
   U x3 (bd (Γ g)) ap λej=>
   U x3 (x8 bB ej 3) ap λek=>
   U x3 (x7 ac ek) ap λem=>
   U x3 (aA .eql ac false true em (Δ 0)) ap λen=>
   Split en (U x3 (aA .geq ac false true (Δ bad) (Δ 0)) ap λeo=>
   cm eo ap)
    (cm (.bool false) ap)) λcp=>
  bJ (α:=y0->x2->Prop) (λ(ep:y0) (ax:x2)=>
   Split ep (U x3 (bd (Γ g)) ax λer=>
    U x3 (x8 bB er 0) ax λes=>
    U x3 (x7 e6 es) ax λet=>
    U x3 (l7 e6 et (Δ 0)) ax λeu=>
    U x3 (x8 ck eu 1) ax λev=>
    U x3 (x7 ac ev) ax λey=>
    ai x3 mu [(Γ g),(Δ 4),ey] ax λfx bK=>
    cp bK)
    (cp ax)) λcq=>
  U x3 (bd (Γ g)) al λez=>
  U x3 (x8 bB ez 3) al λeA=>
  U x3 (x7 ac eA) al λeB=>
  U x3 (aA .eql ac false true eB (Δ 0)) al λeC=>
  Split eC (U x3 (bd (Γ g)) al λeD=>
  U x3 (x8 bB eD 0) al λeE=>
  U x3 (x7 e6 eE) al λeF=>
  U x3 (X0 #[e6] ac #[eF]) al λeH=>
  U x3 (aA .gtr ac false true eH (Δ 0)) al λeI=>
  cq eI al)
   (cq (.bool false) al))) λct=>
   U x3 (aA .lss an false false ci (Δ count)) Y λeJ=>
   Split eJ (U x3 (bd (Γ g)) Y λeK=>
   U x3 (x8 bB eK 3) Y λeL=>
   U x3 (x7 ac eL) Y λeM=>
   U x3 (aA .eql ac false true eM (Δ 0)) Y λeO=>
   ct eO Y)
    (ct (.bool false) Y):=by
 have cu:W≠g:=λhe=>by
  obtain⟨aN,aG,aI,bad,aO,big,aP,told,sv,X,_⟩:=hy h;subst he;exact absurd (ea X ch) Φ
 refine⟨λbL Y=>∃i:Nat,bL=Δ (i:Int)/\i<=count.toNat/\ae (λr=>w0.heap.size<=r) w0 Y/\ ∃am gr aj so,∃H:ah,ad Y W dx [bU t,Δ k,szv,am]/\ao .i64 an Y gz szv acc/\oP Y gr am aj/\(∀r,leadsTo am r->w0.heap.size<=r/\¬H r)/\¬H W/\(∀r,leads szv r->¬H r)/\(∀r,H r->w0.heap.size<=r)/\bO Y g Y.heap.size H 100001 so/\kz (λ_ s=>cW acc s) count.toNat i so6 aj so/\
   ∀s,so=σ s->jm s/\aj.length+s.toks.length<=100000/\(∀z∈acc,1<=z/\z<=aq)/\acc.length<=100001,λbL _=>count.toNat-(bS bL).toNat,
  ⟨0,rfl,X7 _,dr,_,0,[],so6,bC,ch,ds,⟨[],bb.nil _ _ _ _ _,rfl,λi h x hi=>by simp at hi⟩,λr V=>(eT V).elim,id,λr _ h=>h,λr h=>h.elim,h.base.up Ω,?_,λs J=>?_⟩,?_⟩
 .unfold kz;cases so6<;>rfl
 .obtain⟨eP,eQ,a3,a4⟩:=dt s J;exact⟨eP,by simpa using eQ,a3,a4⟩
 rintro _ Y ⟨i,rfl,hi,bm,am,gr,aj,so,H,cw,cz,cA,ba,bM,eR,cB,aC,bN,eS⟩;refine aR (λv al=>Y=al/\((v= .bool true/\i<count.toNat/\ ∃s,so=σ s)\/(v= .bool false/\(so=ν\/i=count.toNat)))) ?_ ?_
 rotate_left
 .intro fy bP;rw[aQ,ak];refine⟨λcC=>?_,λfz=>bP _ _ ⟨rfl,.inr ⟨rfl,.inr Ω⟩⟩⟩;rw[ky aC];cases so with
  |none=>exact bP _ _ ⟨rfl,.inr ⟨rfl,.inl rfl⟩⟩
  |some s=>exact bP _ _ ⟨rfl,.inl ⟨rfl,Ω,s,rfl⟩⟩
 rintro _ _ ⟨rfl,⟨rfl,cC,s,rfl⟩|⟨rfl,eU⟩⟩
 .
  rw[bX];intro af aV _ _;obtain⟨cE,fA,cF,cG⟩:=eS s rfl;have bc:=cw.ext aV;obtain⟨eV,cI,be,cJ⟩:=(aC.ext aV).low.shrink;have bQ:=cz.ext aV;have eW:=cA.ext aV;rw[aK dx.p 3 bc rfl,aK dx.p 2 bc rfl];refine (LC cI bQ cF cG (λr V=>by obtain⟨c,X⟩:=cJ r V;exact X.lt) cE).mono ?_;rintro _ aJ _ ⟨bR,x,cL,aW,rfl,cM,eX,eY,fB,cN,eZ⟩;have cO:∃c,ad af g bB c:=by obtain⟨aN,aG,aI,bad,aO,big,aP,told,sv,X,_⟩:=hy cI;exact⟨_,X⟩
  have cP:∀r,(r=g\/eV r)->gH af r\/af.heap.size<=r:=λr V=>by
   rcases V with rfl|V
   .obtain⟨c,X⟩:=cO;exact .inl ⟨_,c,X,Φ,Φ⟩
   .obtain⟨c,X⟩:=cJ r V;exact .inl ⟨_,c,X,Φ,Φ⟩
  have bT:=bc.ab aW λV=>V.elim (λhe=>cu he) λV=>bM (be _ V);have st:∀ {w':x2},ad w' W dx [bU t,Δ k,szv,am]->bw x3 (x7 dq (.pointer (σ ⟨W,0+3,ν⟩))) am w'/\bw x3 (x8 dx (Γ W) 3) (.pointer (σ ⟨W,0+3,ν⟩)) w'/\bw x3 (bd (Γ W)) (Γ W) w'/\True:=λX=>
   ⟨iF Ψ (X.cell (o:=0+3) rfl),gU (by rw[aM dx.p rfl]),gU (by rw[bu]),trivial⟩
  refine⟨.inr (st bT),?_⟩;refine gg (f:=eN) (a:=bR) dq.u a1.i Ω rfl rfl λfC fD av fE az e0=>?_;refine⟨.inr (st (bT.ext az)),?_⟩;obtain⟨L,aX,bV,bW⟩:=id eW;have e1:bb eN 4 a1 aJ gr am L:=aX.ab aW λr V J=>J.elim (λhe=>by
   obtain⟨c,X⟩:=cO;subst he;exact cn aX X Φ V) λJ=>(ba r V).2 (be r J)
  have bZ:=e1.ext az;refine gB (f:=eN) (a:=bR) dq.u a1.i rfl bZ (by simpa using e0.sl) (cM.ext az).one Ω Ω λcQ e2 bk bn e3 cR=>?_;have b1:=bT.ext az;have cS:=b1.ab cR λhe=>cn bZ b1 Φ he;rw[bu,aM dx.p rfl];refine bj (g:=W) (o:=3) dq.i (de bn.sl).1 (de bn.sl).2 cS Ξ λa8 cT fF b2=>?_;have b2:ad a8 W dx [bU t,Δ k,szv,cQ]:=b2;have fG:i<=4611686018427387904:=Ω
  rw[aL,wrap_i64 Ω Ω];have aY:ae (λr=>leadsTo am r\/r=W) av a8:=(cR.mono λr _ h=>.inl h).trans (cT.mono λr _ h=>.inr h);have cU:∀r,(leadsTo am r\/r=W)-> ∃e c,ad av r e c/\e≠an/\e≠cb/\e≠ck/\e≠bB:=λr V=>by
   rcases V with V|rfl
   .obtain⟨rfl,c,X⟩:=dy bZ V;exact⟨_,c,X,Φ,Φ,Φ,Φ⟩
   .exact⟨_,_,b1,Φ,Φ,Φ,Φ⟩
  have b3:∀r,(leadsTo am r\/r=W)->gH av r\/av.heap.size<=r:=λr V=>by
   obtain⟨e,c,X,b4,b5,_⟩:=cU r V;exact .inl ⟨e,c,X,b4,b5⟩
  have fH:=aV.size;have fI:=aW.size;have fJ:=az.size;have fK:=aY.size;have cV:∀r,leadsTo am r->r<af.heap.size:=λr V=>by obtain⟨aG,aI⟩:=aX.leads V;omega
  have bf:∀r,r<af.heap.size->¬H r->¬cL r:=λr V e4 b6=>(cN r b6).elim (λh=>e4 (be r h)) λh=>Ω
  have e5:∀r,leads szv r->r<af.heap.size:=λr V=>by obtain⟨aG,aI⟩:=bz bQ V;omega
  refine⟨⟨i+1,rfl,Ω,?_,cQ,e2,aj++[x],_,cL,b2,ew ((ew bQ aW cP).ext az) aY b3,⟨L++[bR],bn.ab cT λr V he=>?_,by rw[r8,r8,bV];rfl,λj cX e7 aZ bg=>?_⟩,λr V=>?_,bf W bc.lt bM,λr V=>bf r (e5 r V) (eR r V),λr V=>?_,?_,bN.step cC rfl λq ag=>eY q ag,λs' aB=>?_⟩,by simp only[bS];omega⟩
  .refine (((bm.trans (aV.ab _)).trans (aW.mono λr _ h=>?_)).trans (az.ab _)).trans (aY.mono λr _ h=>?_)
   .exact h.elim (λh=>Ω) λh=>cB r (be r h)
   .exact h.elim (λh=>(ba r h).1) λh=>Ω
  .have he:r=W:=he;subst he;exact cn bn cS Φ V
  .by_cases e8:j<L.length
   .rw[Y3 e8] at aZ;rw[Y3 Ω] at bg;exact (((bW j cX e7 aZ bg).dF aW cP).ext az).dF aY b3
   .rw[Y5 Ω] at aZ;rw[Y5 Ω] at bg;have e9:j-L.length=0:=by have:=(x4.1 aZ).1;simp at this;omega
    have fa:j-aj.length=0:=Ω
    rw[e9] at aZ;rw[fa] at bg;cases aZ;cases bg;exact (cM.ext az).dF aY b3
  .rcases e3 r V with h|h
   .exact⟨(ba r h).1,bf r (cV r h) (ba r h).2⟩
   .exact⟨by have:=bm.size;omega,λb6=>by have:=eZ r b6;omega⟩
  .rcases cN r V with h|h
   .exact cB r (be r h)
   .have:=bm.size;omega
  .refine (eX.ext az).dF aY λr V=>.inl ?_;obtain⟨e,c,X,b4,b5,fb,fc⟩:=cU r V;refine⟨e,c,X,b4,b5,fb,fc,?_⟩;rcases V with V|rfl
   .exact bf r (cV r V) (ba r V).2
   .exact bf _ bc.lt bM
  .cases b7:cW acc s with
   |none=>rw[b7] at aB;cases aB
   |some q=>
    obtain⟨fL,cY⟩:=q;rw[b7] at aB;cases aB;obtain⟨fM,fd⟩:=LF b7;refine⟨fd cE,?_,cF,cG⟩;rw[r8];simp only[U2];omega
 .
  rw[aT];have b8:so6.bind (cD (λ_ s=>cW acc s) count.toNat [])=so.map λs=>(aj,s):=by
   unfold kz at bN;rw[bN];cases so with
   |none=>rfl
   |some s=>
    rcases eU with h|rfl
    .cases h
    .simp only[V9];rfl
  have row:∀ {w':x2},ae (λr=>r=g) Y w'->oP w' gr am aj/\ad w' W dx [bU t,Δ k,szv,am]/\ao .i64 an w' gz szv acc:=λbo=>by
   obtain⟨aN,aG,aI,bad,aO,big,aP,told,sv,X,_⟩:=hy aC;have cZ:∀r,r=g->gH Y r\/Y.heap.size<=r:=λr V=>by subst V;exact .inl ⟨_,_,X,Φ,Φ⟩
   obtain⟨L,aX,bV,bW⟩:=id cA;refine⟨⟨L,aX.ab bo λr V he=>?_,bV,λi h x hi fe=>(bW i h x hi fe).dF bo cZ⟩,cw.ab bo λhe=>cu he,ew cz bo cZ⟩;have he:r=g:=he;subst he;exact cn aX X Φ V
  refine dv (λap=>ae (λr=>r=g) Y ap/\bO ap g Y.heap.size H 100001 (so.bind λs=>if s.toks=[] then σ s else ν)) ?_ ?_
  rotate_left
  .intro fN c1;refine aR (λv ax=>Y=ax/\ ∃b:Bool,v= .bool b/\(b=true-> ∃s,so=σ s/\s.toks≠[])/\(b=false-> ∀s,so=σ s->s.toks=[])) ?_ ?_
   .rintro _ _ ⟨rfl,b,rfl,b9,ca⟩;cases b with
    |true=>
     obtain⟨s,rfl,bp⟩:=b9 rfl;rw[bX];obtain⟨c2,c3,aN,bh,gs,sv,L,c4,aG,aI,cc,aO,big,aP,told,c5,bq,br,a2,bt,c6,c7,c8,bx,c9,da,bA,db,dc,dd⟩:=id aC;obtain⟨⟨cd,ff⟩,_⟩:=bt.g bq br;obtain⟨x,fO,rfl⟩:∃x l,bh=x::l:=by
      cases bh with
      |nil=>exact absurd bA.symm (by simpa using bp)
      |cons x l=>exact⟨x,l,rfl⟩
     rw[aK bB.p 0 a2 rfl];refine BZ cd λb o fg=>?_;rw[aM ck.p rfl,aS Ψ (fg 1 _ rfl)];refine (np aC Ω).mono ?_;rintro _ bK _ ⟨fh,fi⟩;refine c1 _ ⟨fh,?_⟩;show bO bK g _ H 100001 (if s.toks=[] then σ s else ν);rw[if_neg bp];exact fi
    |false=>
     rw[aT];refine c1 _ ⟨ae.refl _ _,?_⟩;cases so with
     |none=>exact aC
     |some s=>
      show bO _ g _ H 100001 (if s.toks=[] then σ s else ν);rw[if_pos (ca rfl s rfl)];exact aC
   .intro fP df;rw[ky aC];cases so with
    |none=>
     rw[Option.isSome_none,aT];exact df _ _ ⟨rfl,false,rfl,(λh=>by cases h),λ_ s J=>by cases J⟩
    |some s=>
     rw[Option.isSome_some,bX];obtain⟨c2,c3,aN,bh,gs,sv,L,c4,aG,aI,cc,aO,big,aP,told,c5,bq,br,a2,bt,c6,c7,c8,bx,c9,da,bA,db,dc,dd⟩:=id aC;obtain⟨⟨cd,ff⟩,_⟩:=bt.g bq br;rw[aK bB.p 0 a2 rfl,BY cd,bY];have fQ:bh.length=s.toks.length:=by rw[<-bA,u5]
     refine df _ _ ⟨rfl,_,rfl,λh=>⟨s,rfl,λbi=>?_⟩,λh s' aB=>?_⟩
     .have:=of_decide_eq_true h;have cX:s.toks.length=0:=by rw[bi];rfl
      omega
     .cases aB;have:=of_decide_eq_false h;exact Z8 Ω
  rintro ap ⟨dg,ce⟩;refine dv (λaa=>ae (λr=>r=g) Y aa/\bO aa g Y.heap.size H 100001 (so.bind λs=>if s.toks=[]/\¬0<=bad then σ s else ν)) ?_ ?_
  rotate_left
  .intro fR dh;refine aR (λv bl=>ap=bl/\ ∃b:Bool,v= .bool b/\(b=true->(so.bind λs=>if s.toks=[]/\¬0<=bad then σ s else ν)=ν)/\(b=false->(so.bind λs=>if s.toks=[]/\¬0<=bad then σ s else ν)=so.bind λs=>if s.toks=[] then σ s else ν)) ?_ ?_
   .rintro _ _ ⟨rfl,b,rfl,b9,ca⟩;cases b with
    |true=>
     rw[bX];refine (np ce Ω).mono ?_;rintro _ cl _ ⟨fj,fk⟩;exact dh _ ⟨dg.trans fj,by rw[b9 rfl];exact fk⟩
    |false=>
     rw[aT];exact dh _ ⟨dg,by rw[ca rfl];exact ce⟩
   .intro fS di;rw[ky ce];cases ag:(so.bind λs=>if s.toks=[] then σ s else ν) with
    |none=>
     rw[Option.isSome_none,aT];refine di _ _ ⟨rfl,false,rfl,(λh=>by cases h),λ_=>?_⟩;cases so with
     |none=>rfl
     |some s=>
      have ag:(if s.toks=[] then σ s else ν)=ν:=ag;show (if s.toks=[]/\¬0<=bad then σ s else ν)=(if s.toks=[] then σ s else ν);rw[ag];split at ag
      .cases ag
      .rename_i bp;rw[if_neg (λh=>bp h.1)]
    |some s=>
     rw[Option.isSome_some,bX,cr];refine di _ _ ⟨rfl,_,rfl,λh=>?_,λh=>?_⟩
     .have bi:=of_decide_eq_true h;cases so with
      |none=>rfl
      |some s=>exact if_neg λh=>h.2 bi
     .have bi:=of_decide_eq_false h;cases so with
      |none=>rfl
      |some s=>
       show (if s.toks=[]/\¬0<=bad then σ s else ν)=(if s.toks=[] then σ s else ν);by_cases J:s.toks=[]
       .rw[if_pos J,if_pos ⟨J,bi⟩]
       .rw[if_neg J,if_neg λh=>J h.1]
  rintro aa ⟨dj,bD⟩;obtain⟨fm,fo,fp⟩:=row dj;have fq:ae (λr=>w0.heap.size<=r) w0 aa:=bm.trans (dj.mono λr _ h=>by have h:r=g:=h;omega);have bE:Ext w0 aa:=fq.ext λr V he=>Ω
  rw[qh bD];cases ag:(so.bind λs=>if s.toks=[]/\¬0<=bad then σ s else ν) with
  |none=>
   rw[Option.isSome_none,W6,bX];intro aD dk _ _;obtain⟨aN,aG,aI,cc,aO,big,aP,told,sv,X,_⟩:=hy (bD.ext dk);rw[aK bB.p 4 X rfl,aK bB.p 3 X rfl];refine bF _ _ aj so (bE.trans dk) b8 (λs J aw=>?_) λ_=>⟨_,_,rfl⟩;subst J;have ag:(if s.toks=[]/\¬0<=bad then σ s else ν)=ν:=ag;rw[if_pos ⟨aw.1,aw.2.1⟩] at ag;cases ag
  |some s=>
   rw[ag] at bD;rw[Option.isSome_some,Y6,aT];obtain⟨s',rfl,aB⟩:∃s',so=σ s'/\(if s'.toks=[]/\¬0<=bad then σ s' else ν)=σ s:=by
    cases so with
    |none=>cases ag
    |some s'=>exact⟨s',rfl,ag⟩
   split at aB
   .rename_i dl;cases aB;obtain⟨c2,c3,aN,bh,gs,sv,L,c4,aG,aI,cc,aO,big,aP,told,c5,bq,br,a2,bt,c6,c7,c8,bx,c9,da,bA,db,dc,dd⟩:=id bD;rw[aK bB.p 5 a2 rfl,bH,ak];refine⟨λcg=>?_,λcg=>?_⟩
    .intro aF dm _ _;have dn:=a2.ext dm;rw[aK bB.p 6 dn rfl,aK bB.p 5 dn rfl];refine bF _ _ aj _ (bE.trans dm) b8 (λcY dp aw=>?_) λ_=>⟨_,_,rfl⟩;cases dp;rw[bx.1 cg] at aw;cases aw.2.2
    .rw[aU cH.u (du.ext bE)];refine bF _ _ aj _ bE b8 (λcY dp aw=>⟨rfl,szv,gz,am,gr,fo,fp,fm⟩) λfs=>?_;refine absurd ⟨dl.1,dl.2,?_⟩ (fs s rfl);cases X:s.big with
     |false=>rfl
     |true=>exact absurd (bx.2 X) cg
   .cases aB
def Zero (so:Option aE):Prop:=∀s,so=σ s->s.told=0/\s.toks.length<=100000
theorem Zero.big {so:Option aE} (h:Zero so) (b:Bool):Zero (so.map (a6 b)):=λs J=>by
 cases so with
 |none=>cases J
 |some s0=>cases J;exact h s0 rfl
theorem zero_num {lo hi:Int} {so:Option aE} (h:Zero so):Zero ((a8 lo hi so).map (·.2)):=λs J=>by
 cases so with
 |none=>cases J
 |some s0=>
  have J:U6 (λx=>x.2) (ba lo hi s0)=σ s:=J;cases U:ba lo hi s0 with
  |none=>rw[U] at J;cases J
  |some q=>
   obtain⟨n,s1⟩:=q;rw[U] at J;cases J;have V:=db U;have:=V.1;obtain⟨h1,W⟩:=h s0 rfl;exact⟨V.eqs.1.trans h1,by show s1.toks.length<=100000;omega⟩
theorem LJ {so:Option aE} (h:Zero so):Zero ((iK so).map (·.2)):=λs J=>by
 cases so with
 |none=>cases J
 |some s0=>
  have J:U6 (λx=>x.2) (dD s0)=σ s:=J;cases U:dD s0 with
  |none=>rw[U] at J;cases J
  |some q=>
   obtain⟨n,s1⟩:=q;rw[U] at J;cases J;obtain⟨V,aa⟩:=pF U;obtain⟨h1,W⟩:=h s0 rfl;have:s0.toks.length=s1.toks.length+1:=by rw[V];rfl
   exact⟨by show s1.told=0;rw[aa];exact h1,by show s1.toks.length<=100000;omega⟩
theorem LK {so:Option aE} {f:b4} (h:gx ⟨(lex pl).1,0,false,[]⟩=so.map λs=>(f,s)) (J:¬65536<pl.length):fj pl=so.bind λs=>if s.toks=[]/\(lex pl).2=true/\s.big=false then σ f else ν:=by
 unfold fj;rw[if_neg J,h];cases so<;>rfl
theorem LL (J:pl.length<=60000):(∀t∈(lex pl).1,Bytes t/\t.length<=65536)/\(lex pl).1.length<=60000:=by
 refine⟨λt U=>?_,X8 (n5 pl.length pl (n9 _)) J⟩;obtain⟨_,V,X⟩:=rB pl.length pl (n9 _) t U;refine⟨λb W=>?_,Ω⟩;have:=of_decide_eq_true (V b W);omega
theorem Ca {p:y0} (aV:aH .u8 w p pl) (cQ:Bytes pl) (cR:pl.length<=60000):ai x3 D8 [p] w (LH w pl):=by
 obtain⟨cS,eh⟩:=LL cR;refine az func24 ?_;rw[aU cH.u aV,bY,ak];refine⟨λh=>Ω,λ_=>?_⟩;refine (Lu aV cQ Ω).mono ?_;rintro _ V _ ⟨bd,aW,bE,bad,rfl,bF,bG,cT,ei,bH⟩;rw[bL,bM,aU cH.u (aV.ext bd),c8 (cs:=#[aW,Δ (pl.length:Int),Δ 4,Δ 0,Δ 0,Δ 0,Δ 0,Δ 0,.slice ν 0 0]) (by obtain⟨_,_,_,_,_,rfl,_⟩:=bF;kernel_rfl)];refine bP λg aa ej aX aD=>?_;have aD:ad aa g bB (fU aW (pl.length:Int) 4 0 0 0 0 0 (.slice ν 0 0)):=aD;have ek:=bd.size;have em:=aX.size;have en:=aD.lt;refine dv (λY=>Ext w Y/\ae (λr=>r=g) aa Y/\ ∃aF aG:Int,aG≠0/\ad Y g bB (fU aW aF aG 0 0 0 0 0 (.slice ν 0 0))) ?_ ?_
 rotate_left
 .intro cU aB;have bI:=bd.trans aX;rw[cr,ak];refine⟨λ_=>?_,λ_=>aB _ ⟨bI,ae.refl _ _,_,_,Ω,aD⟩⟩;rw[bu,aM bB.p rfl];refine bj (g:=g) (o:=1) ac.i rfl rfl aD (by simp[fU]) λeo cV ep cW=>?_;rw[bu,aM bB.p rfl];refine bj (g:=g) (o:=2) ac.i rfl rfl cW (by simp[fU]) λer cX es cY=>?_;have af:=cV.trans cX;exact aB _ ⟨bI.then af λr U he=>by have he:r=g:=he;omega,af,bad,11,Ω,cY⟩
 rintro Y ⟨bJ,bf,aF,aG,cZ,bN⟩;have z3:=bf.size;have c1:bO Y g Y.heap.size bC 100000 (σ ⟨(lex pl).1,0,false,[]⟩):=by
  refine⟨n9 _,Y,aW,bE,0,_,[],[],aF,aG,0,0,0,0,0,rfl,ae.refl _ _,⟨_,bN⟩,bN,⟨⟨?_,λr U=>?_⟩,bb.nil _ _ _ _ _,rfl,λi h x hi=>by simp at hi⟩,λr U=>eT U,rfl,cZ,Ξ,λ_=>rfl,trivial,bG,cS,rfl,?_⟩
  .refine (bF.ab (aX.ab λ_=>False) λ_ _ h=>h).ab bf λr U he=>?_;have he:r=g:=he;obtain⟨c,ap⟩:=bH r U;have:=ap.lt;omega
  .obtain⟨c,ap⟩:=bH r U;exact⟨c,(ap.ext aX).ab bf λhe=>by have he:r=g:=he;have:=ap.lt;omega⟩
  .have:bE.length=(lex pl).1.length:=by rw[<-bG,u5]
   simp only[List.length_nil];omega
 have et:∀ {aA:x2} {c2 N:Nat} {H:ah} {so:Option aE},bO aA g c2 H N so->True:=λ_=>trivial;rw[c8 (cs:=#[bU [],Δ 0,.slice ν 0 0,.slice ν 0 0]) Ψ];refine bP λW c4 eu bg aY=>?_;have aY:ad c4 W dx [bU [],Δ 0,.slice ν 0 0,.slice ν 0 0]:=aY;have ev:Y.heap.size<=W:=Ω
 have ey:=aY.lt;have c5:W≠g:=Ω
 have aj:∀ {aA aI:x2} {c:List y0},ad aA W dx c->ae (λr=>r=g) aA aI->ad aI W dx c:=λap af=>ap.ab af λhe=>c5 he;refine (B1 (c1.ext bg)).mono ?_;rintro _ c6 _ ⟨⟨bh,c7⟩,t,bQ,rfl,ez,eA,c9⟩;refine bp ck.i λbR eB eC da dc=>?_;refine bK (vs:=[bU t,Δ bQ]) ck.i rfl rfl (by intro v bT;simp at bT;rcases bT with rfl|rfl<;>rfl) dc λdd de eD bV=>?_;have aZ:Ext c6 dd:=da.put de Ω;have df:=(aj aY bh).ext aZ;rw[av ck.p 0 bV rfl,bu,aM dx.p rfl];refine bj (g:=W) (o:=0) c3.i rfl rfl df Ξ λbi bk eE bl=>?_;have bl:ad bi W dx [bU t,Δ 0,.slice ν 0 0,.slice ν 0 0]:=bl;have dg:=(c7.ext aZ).new bk λr U=>by have U:r=W:=U;omega
 have z4:=bg.size;have z5:=bh.size;have eF:=aZ.size;have bW:ad bi bR ck [bU t,Δ bQ]:=bV.ab bk λhe=>by have he:bR=W:=he;omega
 rw[av ck.p 0 bW rfl,mQ c3.u,bY,av ck.p 1 bW rfl];have dh:ae (λr=>w.heap.size<=r) w bi:=((((bJ.ab _).trans (bg.ab _)).trans (bh.mono λr _ h=>by have h:r=g:=h;omega)).trans (aZ.ab _)).trans (bk.mono λr _ h=>by have h:r=W:=h;omega);have up:∀ {aA aI:x2},ae (λr=>w.heap.size<=r) w aA->ae (λr=>r=g) aA aI->ae (λr=>w.heap.size<=r) w aI:=λh k=>h.trans (k.mono λr _ h=>by have h:r=g:=h;omega);refine (l3 dg).mono ?_;rintro _ eH _ ⟨bZ,aJ⟩;have di:=up dh bZ;have dj:=aj bl bZ;generalize bm:(((iK (σ ⟨(lex pl).1,0,false,[]⟩)).map (·.2)).map (a6 (decide ((64:Int)<(t.length:Int)))))=bn at aJ;refine (jN aJ).mono ?_;rintro _ eI _ ⟨⟨b0,dk⟩,n,eJ,rfl,b1,dl⟩;rw[bL,bM,bY];refine (l3 dk).mono ?_;rintro _ eK _ ⟨b2,b3⟩;have dm:=up (up di b0) b2;have dn:=aj (aj dj b0) b2;generalize b4:((a8 1 4611686018427387904 bn).map (·.2)).map (a6 (decide (64<n)))=bo at b3;refine (jN b3).mono ?_;rintro _ eL _ ⟨⟨b6,b7⟩,most,eM,rfl,hm,dp⟩;rw[bL,bM];generalize b8:(a8 1 4611686018427387904 bo).map (·.2)=bq at b7;refine (jN b7).mono ?_;rintro _ eN _ ⟨⟨b9,dq⟩,count,eO,rfl,ca,dr⟩;rw[bL,bM,bY];refine (l3 dq).mono ?_;rintro _ eP _ ⟨cb,cc⟩;generalize cd:((a8 0 4611686018427387904 bq).map (·.2)).map (a6 (decide (256<count)))=ce at cc;refine (jN cc).mono ?_;rintro _ eQ _ ⟨⟨cg,ds⟩,k,eR,rfl,hk,eS⟩;rw[bL,bM,bY];refine (l3 ds).mono ?_;rintro _ eU _ ⟨ch,ci⟩;generalize cj:((a8 1 4611686018427387904 ce).map (·.2)).map (a6 (decide (2147483648<k)))=aN at ci;have dt:=up (up (up (up (up dm b6) b9) cb) cg) ch;have du:=aj (aj (aj (aj (aj dn b6) b9) cb) cg) ch;rw[bu,aM dx.p rfl];refine bj (g:=W) (o:=1) an.i rfl rfl du Ξ λcl cm eV br=>?_;have br:ad cl W dx [bU t,Δ k,.slice ν 0 0,.slice ν 0 0]:=br;have dw:=ci.new cm λr U=>by have U:r=W:=U;omega
 have cn:ae (λr=>w.heap.size<=r) w cl:=dt.trans (cm.mono λr _ h=>by have h:r=W:=h;omega);have eW:0<=n/\n<=4611686018427387904:=by
  cases X:a8 1 4611686018427387904 bn with
  |none=>have:=dl X;omega
  |some q=>have aJ:=b1 q X;have:=l0 (n:=q.1) (s':=q.2) X;omega
 have eX:0<=most/\most<=4611686018427387904:=by
  cases X:a8 1 4611686018427387904 bo with
  |none=>have:=dp X;omega
  |some q=>have aJ:=hm q X;have:=l0 (n:=q.1) (s':=q.2) X;omega
 have dy:0<=count/\count<=4611686018427387904:=by
  cases X:a8 0 4611686018427387904 bq with
  |none=>have:=dr X;omega
  |some q=>have aJ:=ca q X;have:=l0 (n:=q.1) (s':=q.2) X;omega
 have dz:Zero (σ (⟨(lex pl).1,0,false,[]⟩:aE)):=λs J=>by cases J;exact⟨rfl,by simp only;omega⟩
 have dA:Zero bn:=by rw[<-bm];exact (LJ dz).big _
 have dC:Zero bo:=by rw[<-b4];exact (zero_num dA).big _
 have dD:Zero bq:=by rw[<-b8];exact zero_num dC
 have dE:Zero ce:=by rw[<-cd];exact (zero_num dD).big _
 have cp:Zero aN:=by rw[<-cj];exact (zero_num dE).big _
 have eY:=cn.size;refine⟨λbt ax=>∃i:Nat,bt=Δ (i:Int)/\i<=n.toNat/\ae (λr=>w.heap.size<=r) w ax/\ ∃szv gz acc so,ad ax W dx [bU t,Δ k,szv,.slice ν 0 0]/\ao .i64 an ax gz szv acc/\(∀r,leads szv r->Y.heap.size<=r)/\bO ax g Y.heap.size bC 100000 so/\kz (e0 most) n.toNat i aN acc so/\ ∀s,so=σ s->s.told=0/\acc.length+s.toks.length<=100000/\ ∀z∈acc,1<=z/\z<=aq,λbt _=>n.toNat-(bS bt).toNat,
  ⟨0,rfl,X7 _,cn,_,0,[],aN,br,ao.nil _ _ _ _,(λr U=>by obtain⟨a,a1,c,aF,aG⟩:=U;cases aF),dw,?_,λs J=>⟨(cp s J).1,by simpa using (cp s J).2,λz dF=>by cases dF⟩⟩,?_⟩
 .unfold kz;cases aN<;>rfl
 rintro _ ax ⟨i,rfl,hi,bw,szv,gz,acc,so,cq,ct,cu,aO,bx,cw⟩;refine aR (λv dG=>ax=dG/\((v= .bool true/\i<n.toNat/\ ∃s,so=σ s)\/(v= .bool false/\(so=ν\/i=n.toNat)))) ?_ ?_
 rotate_left
 .intro cU aB;rw[aQ,ak];refine⟨λcz=>?_,λeZ=>aB _ _ ⟨rfl,.inr ⟨rfl,.inr Ω⟩⟩⟩;rw[ky aO];cases so with
  |none=>exact aB _ _ ⟨rfl,.inr ⟨rfl,.inl rfl⟩⟩
  |some s=>exact aB _ _ ⟨rfl,.inl ⟨rfl,Ω,s,rfl⟩⟩
 rintro _ _ ⟨rfl,⟨rfl,cz,s,rfl⟩|⟨rfl,dH⟩⟩
 .rw[bX];obtain⟨dI,e1,dK⟩:=cw s rfl;refine (jN aO).mono ?_;rintro _ e2 _ ⟨⟨dL,dM⟩,z,e3,rfl,bz,e4⟩;rw[bL,bM,bY];refine (l3 dM).mono ?_;rintro _ e5 _ ⟨dN,dO⟩;have a2:=dL.trans dN;have cA:=aj cq a2;have dP:∀r,r=g->gH ax r\/ax.heap.size<=r:=λr U=>(jO aO r U).imp (λ⟨e,c,ap,dQ,dR,_⟩=>⟨e,c,ap,dQ,dR⟩) id;have cB:=ew ct a2 dP;rw[aK dx.p 2 cA rfl];refine dJ au.u an.i rfl λa22 e6 dS e7 aC dT=>?_;refine fc au.u an.i rfl (cB.ext aC) dT.ls Θ Θ λcC dU e8 a7 dV cE=>?_;have cF:=cA.ext aC;have cG:=cF.ab cE λhe=>b5 (cB.ext aC) cF Φ he rfl;rw[bu,aM dx.p rfl];refine bj (g:=W) (o:=2) au.i a7.ls.cells.1 a7.ls.cells.2 cG Ξ λcI cJ e9 bA=>?_;have bA:ad cI W dx [bU t,Δ k,cC,.slice ν 0 0]:=bA;rw[aL,wrap_i64 Ω Ω];have cK:ae (λr=>leads szv r\/r=W) dS cI:=(cE.mono λr _ h=>.inl h).trans (cJ.mono λr _ h=>.inr h);have cL:∀r,(leads szv r\/r=W)->Y.heap.size<=r:=λr U=>U.elim (cu r) λU=>Ω
  have fa:w.heap.size<=Y.heap.size:=bJ.size;have fb:=a2.size;have z22:=aC.size;have fd:=bw.size;have fe:=aO.lt;refine⟨⟨i+1,rfl,Ω,((up bw a2).trans (aC.ab _)).trans (cK.mono λr _ h=>by have:=cL r h;omega),cC,dU,acc++[z],((a8 1 most (σ s)).map (·.2)).map (a6 (decide (32<z))),bA,be a7 cJ λr U he=>?_,λr U=>?_,(dO.ext aC).new cK cL,?_,λs' al=>?_⟩,by simp only[bS];omega⟩
  .have he:r=W:=he;subst he;exact b5 a7 cG Φ U rfl
  .rcases dV r U with h|h
   .exact cu r h
   .omega
  .refine bx.step cz ?_ λq X=>?_
   .show (U6 _ (ba 1 most s)).map _=_;unfold e0;cases X:ba 1 most s with
    |none=>rfl
    |some q=>
     have:=bz q X;obtain⟨cM,bc⟩:=q;subst this;rfl
   .unfold e0 at X;cases am:ba 1 most s with
    |none=>rw[am] at X;cases X
    |some aP=>
     rw[am] at X;have:=bz aP am;obtain⟨cM,bc⟩:=aP;cases X;exact this
  .cases am:ba 1 most s with
   |none=>
    have al:(U6 (λx=>x.2) (ba 1 most s)).map (a6 (decide (32<z)))=σ s':=al;rw[am] at al;cases al
   |some aP=>
    have al:(U6 (λx=>x.2) (ba 1 most s)).map (a6 (decide (32<z)))=σ s':=al;rw[am] at al;have dW:=bz aP am;obtain⟨cM,bc⟩:=aP;cases al;have cN:=db am;have hV:=(hr am).1;have ff:=cN.1;refine⟨by show bc.told=0;rw[cN.eqs.1];exact dI,?_,λy aS=>?_⟩
    .rw[r8];show acc.length+1+bc.toks.length<=100000;omega
    .rcases l5.1 aS with aS|aS
     .exact dK y aS
     .rw[l9.1 aS,dW];exact⟨hV.1,by unfold aq;have:=hV.2;simp only at*;omega⟩
 .rw[aT];have dX:aN.bind (cD (e0 most) n.toNat [])=so.map λs=>(acc,s):=by
   unfold kz at bx;rw[bx];cases so with
   |none=>rfl
   |some s=>
    rcases dH with h|rfl
    .cases h
    .simp only[V9];rfl
  refine LI bw cq ct aO (λs J=>?_) Ω Ω aV dy λv w' dY dZ bD ea ec cO=>?_
  .obtain⟨ed,fg,a3⟩:=cw s J;exact⟨λ_=>by rw[ed];omega,Ω,a3,Ω⟩
  .have ee:(decide ((64:Int)<(t.length:Int)))=decide (64<t.length):=by rw[U4,decide_eq_true_eq,decide_eq_true_eq];omega
   rw[ee] at bm;have ef:=LG (s0:=⟨(lex pl).1,0,false,[]⟩) bm.symm (λq X=>c9 q X) b4.symm b1 b8.symm hm cd.symm ca cj.symm hk dX ea;have ay:=LK ef Ω;have cP:¬0<=bad↔(lex pl).2=true:=by
    rw[cT];cases (lex pl).2<;>simp
   cases dZ with
   |none=>
    obtain⟨a1,e,rfl⟩:=cO λs J=>by cases J
    exact⟨bD,a1,e,λ_=>rfl,λf ag=>by rw[ay] at ag;cases ag⟩
   |some s=>
    have ay:fj pl=if s.toks=[]/\(lex pl).2=true/\s.big=false then σ ⟨t,k,acc,dY⟩ else ν:=ay;by_cases af:s.toks=[]/\(lex pl).2=true/\s.big=false
    .rw[if_pos af] at ay;obtain⟨rfl,eg⟩:=ec s rfl ⟨af.1,cP.2 af.2.1,af.2.2⟩;exact⟨bD,_,_,(λag=>by rw[ay] at ag;cases ag),λf ag=>⟨W,rfl,by rw[ay] at ag;cases ag;exact eg⟩⟩
    .rw[if_neg af] at ay;obtain⟨a1,e,rfl⟩:=cO λs' al aw=>by
      cases al;exact af ⟨aw.1,cP.1 aw.2.1,aw.2.2⟩
     exact⟨bD,a1,e,λ_=>rfl,λf ag=>by rw[ay] at ag;cases ag⟩
theorem LM {a b:Int}:ai x3 Gk [Δ a,Δ b] w λv w'=>v=Δ (min a b)/\Ext w w':=by
 refine az func285 ?_;rw[aQ,ak];exact⟨λh=>⟨by congr 1;omega,Ext.refl _⟩,λh=>⟨by congr 1;omega,Ext.refl _⟩⟩
theorem LN {ac:io} {x:ce} {aF:y0} (h:gm w ac x) (aw:(x.lines.map (·.1)).Nodup) (ax:aH .i64 w aF t):ai x3 F8 [.agg (eN ac).toArray,aF,Δ k] w λv w'=>v=Δ (jb x k t)/\Ext w w':=by
 obtain⟨⟨g1,ay⟩,⟨aY,aA⟩,aB,aZ,L,W,aC,aj⟩:=id h;refine az func252 ?_;refine bP λaD V a2 ae J=>?_;have J:ad V aD a1 (eN ac):=by
  obtain⟨_,_,_,aE⟩:=b7 ay.ls;obtain⟨_,_,_,aG⟩:=b7 aA.ls;obtain⟨_,_,_,_,_,aI,_⟩:=W.sl;simp only[eN,aE,aG,aI] at J ⊢;exact J
 have aJ:=W.ext ae;have aK:L.length=x.lines.length:=by rw[<-aj,u5]
 rw[av a1.p 2 J rfl,av a1.p 3 J rfl,dt dT.u aJ,aB];refine bA.range L.length (λi X aa=>Ext V aa/\ ∃c:Int,X=Δ c/\min c k=kq x k i t) W.le ⟨Ext.refl _,x.other,rfl,(AZ x k t).symm⟩ ?_ ?_
 .rintro i _ aa aM hi ⟨U,c,rfl,Y⟩ aO;obtain⟨y,af⟩:=aN (l:=L) hi;obtain⟨a6,al⟩:=aC y (x5 af);have ag:=ae.trans U;have aP:x.lines[i]? =σ (y.t,y.c):=by rw[<-aj,u4,af];rfl
  have an:=A1 (k:=k) aw aP t;refine bk Ω ?_;refine aR (λX ao=>Ext V ao/\ ∃c:Int,X=Δ c/\min c k=kq x k (i+1) t) ?_ ?_
  .rintro X ao aQ;rw[aL];exact aO _ _ aQ
  intro a7 ap;have aq:=W.ext ag;rw[cE rfl dT.u cb.i aq hi,br cb.p cb.i rfl (aq.range af)];refine bp cb.i λam a8 ba aS aT=>?_;refine bK (vs:=nn y) cb.i rfl rfl (vG al) aT λaU aV bb au=>?_;have ab:Ext aa aU:=aS.put aV Ω;rw[av cb.p 0 au rfl];refine (vF ((al.ls.ext ag).ext ab) ((ax.ext ag).ext ab)).mono ?_;rintro _ bc _ ⟨rfl,ah⟩;rw[ak];refine⟨λhe=>?_,λaW=>?_⟩
  .rw[av cb.p 1 (au.ext ah) rfl];refine ap _ _ ⟨(U.trans ab).trans ah,y.c,rfl,?_⟩;rw[an,if_pos he.symm]
  .refine ap _ _ ⟨(U.trans ab).trans ah,c,rfl,?_⟩;rw[an,if_neg λhe=>aW he.symm,Y]
 .rintro _ aa aM ⟨U,c,rfl,Y⟩;rw[aK,A0] at Y;refine b2 Ω ?_;refine LM.mono ?_;rintro _ bd _ ⟨rfl,aX⟩;exact⟨by rw[Y],(ae.trans U).trans aX⟩
theorem LO {ap:y0} (h:aH .i64 w ap l) (av:l.Nodup) (aV:l.length<=64):ai x3 F7 [ap] w λv w'=>Ext w w'/\ ∃g,ao .i64 ac w' g v (bl l)/\ ∀r,leads v r->w.heap.size<=r:=by
 refine az func251 ?_;have ax:∀i,i<=64->(((V0 i).map λ(v:Nat)=>(v:Int)).filter λv=>decide (v∈l)).length<=i:=λi _=>by
  have:=S5 (λv=>decide (v∈l)) ((V0 i).map λ(v:Nat)=>(v:Int));simp at this;omega
 refine bA.range 64 (λi J V=>Ext w V/\ ∃g,ao .i64 ac V g J (((V0 i).map λ(v:Nat)=>(v:Int)).filter λv=>decide (v∈l))/\ ∀r,leads J r->w.heap.size<=r) Ω ⟨Ext.refl _,0,ao.nil _ _ _ _,λr Y=>by obtain⟨a,n,c,ay,aW⟩:=Y;cases ay⟩ ?_ ?_
 .rintro i J V k hi ⟨ab,g,hm,ae⟩ hk;refine bk Ω ?_;rw[aU au.u (h.ext ab)];have aA:=ax i Ω;generalize aB:(((V0 i).map λ(v:Nat)=>(v:Int)).filter λv=>decide (v∈l))=A at hm aA;refine bA.range l.length (λj J aa=>Ext w aa/\ ∃g,ao .i64 ac aa g J (A++(if (i:Int)∈l.take j then[(i:Int)] else[]))/\ ∀r,leads J r->w.heap.size<=r) h.le ⟨ab,g,by simpa using hm,ae⟩ ?_ ?_
  .rintro j aC aa aD aE ⟨W,ag,U,X⟩ aF;obtain⟨x,ah⟩:=aN (l:=l) aE;refine bk Ω ?_;refine aR (λJ ad=>Ext w ad/\ ∃g,ao .i64 ac ad g J (A++(if (i:Int)∈l.take (j+1) then[(i:Int)] else[]))/\ ∀r,leads J r->w.heap.size<=r) ?_ ?_
   .rintro aX ad aG;rw[aL];exact aF _ _ aG
   intro aY aq;have aj:(i:Int)∈l.take (j+1)↔(i:Int)∈l.take j\/(i:Int)=x:=by
    rw[r9,ah,j6,l5,l9]
   rw[bf au.u an.i Ψ (h.ext W) ah,bn,ak];refine⟨λhe=>?_,λaI=>?_⟩
   .have aJ:(i:Int)∉l.take j:=λhm=>by
     obtain⟨p,al⟩:=X4.1 hm;have aK:p<j:=by have:=(x4.1 al).1;rw[o5] at this;omega
     rw[Y7 aK,<-he] at al;have:=jF av al ah;omega
    rw[if_neg aJ,X6] at U;refine dJ (k:=.i64) af.u ac.i rfl λa3 aZ ad a1 am aM=>?_;refine fc af.u ac.i rfl (U.ext am) aM.ls Θ Θ λa2 aO a6 aP aS aT=>?_;have a7:=W.size;have z3:=am.size;refine aq _ _ ⟨(W.trans am).then aT λr Y he=>by have:=X r he;omega,aO,?_,λr Y=>(aS r Y).elim (X r) λh=>Ω⟩;rw[if_pos (aj.2 (.inr he.symm))];exact aP
   .refine aq _ _ ⟨W,ag,?_,X⟩;have:((i:Int)∈l.take (j+1))=((i:Int)∈l.take j):=propext ⟨λaw=>(aj.1 aw).resolve_right λhe=>aI he.symm,λaw=>aj.2 (.inl aw)⟩;simp only[this];exact U
  .rintro aC aa aD ⟨W,ag,U,X⟩;rw[o9] at U;refine b2 Ω ?_;rw[aL];refine hk _ _ ⟨W,ag,?_,X⟩;rw[List.range_succ,j9,List.filter_append,aB];by_cases hm:(i:Int)∈l
   .rw[if_pos hm] at U;simpa[hm] using U
   .rw[if_neg hm] at U;simpa[hm] using U
 .rintro J V k ⟨ab,g,hm,ae⟩;rw[aQ,ak];exact⟨λh=>Ω,λ_=>⟨ab,g,hm,ae⟩⟩
structure ey where
 ax:y0
 szv:y0
 aI:y0
 sc:Λ
 cs:Λ
def cO (h:ey):List y0:=[h.ax,h.szv,h.aI]
def oQ (h:ey) (r:Nat):Prop:=leads h.aI r\/leads h.ax r\/leads h.szv r
def fs (w:x2) (sizes:Λ) (h:ey):Prop:=(∃g,ao .i64 ac w g h.ax h.sc)/\(∃g,ao .i64 ac w g h.szv (bI sizes h.sc))/\ ∃g,ao .i64 an w g h.aI h.cs
theorem fs.ext {h:ey} (aw:fs w sizes h) (J:Ext w w'):fs w' sizes h:=by
 obtain⟨⟨g1,h1⟩,⟨U,V⟩,W,X⟩:=aw;exact⟨⟨g1,h1.ext J⟩,⟨U,V.ext J⟩,W,X.ext J⟩
theorem fs.one {h:ey} (aw:fs w sizes h):∀u∈cO h,u.oneCell'=true:=by
 obtain⟨⟨g1,h1⟩,⟨V,J⟩,W,U⟩:=aw;intro u hu;simp[cO] at hu;rcases hu with rfl|rfl|rfl
 .exact h1.ls.cells.2
 .exact J.ls.cells.2
 .exact U.ls.cells.2
theorem Cb {f:b4} {x:ce} {aP:io} (h:gm w aP x) (ba:e1 N f) (cb:x∈f.funs) (cS:ao .i64 an w gz sv f.sizes):
  ai x3 FG [.agg (eN aP).toArray,sv,Δ f.k] w λv w'=>Ext w w'/\ ∃c:ey,v= .agg (cO c).toArray/\c.sc=bl x.scope/\c.cs=(hs f.sizes f.k x).2/\fs w' f.sizes c/\ ∀r,oQ c r->w.heap.size<=r:=by
 obtain⟨aQ,cT,em⟩:=ba.funs x cb;have cc:=sg aQ ba.sizes.2.1;have cd:=sf cc aQ.scope.1;have cU:(bl x.scope).length<=6:=by rw[cd.length_eq];exact cT
 have cV:=oD ba cb;have cg:=AQ x.scope;obtain⟨⟨g1,bb⟩,⟨en,cW⟩,eo,ep,cX⟩:=id h;refine az func190 ?_;refine bP λbG V er ch aS=>?_;have aS:ad V bG a1 (eN aP):=by
  obtain⟨L,cY,_⟩:=cX;obtain⟨_,_,_,ag⟩:=b7 bb.ls;obtain⟨_,_,_,am⟩:=b7 cW.ls;obtain⟨_,_,_,_,_,cZ,_⟩:=cY.sl;simp only[eN,ag,am,cZ] at aS ⊢;exact aS
 refine bp aX.i λci aa es bH bJ=>?_;have bL:=ch.trans bH;rw[av a1.p 0 (aS.ext bH) rfl];refine (LO (bb.ls.ext bL) aQ.scope.1 Ω).mono ?_;rintro ax ck _ ⟨bd,gr,bM,c1⟩;rw[c8 (cs:=#[ax,.slice ν 0 0,.slice ν 0 0]) (by obtain⟨_,_,_,rfl⟩:=b7 bM.ls;kernel_rfl)];refine bp aX.i λX et c2 c3 c5=>?_;refine bK (vs:=[ax,.slice ν 0 0,.slice ν 0 0]) aX.i rfl rfl (by intro u hu;simp at hu;rcases hu with rfl|rfl;exact bM.ls.cells.2;rfl) c5 λap c6 eu aG=>?_;have bg:Ext ck ap:=c3.put c6 Ω;have cl:=(bL.trans bd).trans bg;have aD:=bM.ext bg;have bN:=((aS.ext bH).ext bd).ext bg;have cm:=(bJ.ext bd).ext bg;have ev:=bL.size;have z3:=bd.size;have ew:=cl.size;have ez:=aG.lt;have eA:X=ck.heap.size:=c2;rw[av aX.p 0 aG rfl,aU af.u aD.ls];have cn:∀v∈bl x.scope,0<=v/\v<f.sizes.length:=λv hm=>aQ.scope.2 v ((pW cc).1 hm);have bO:∀ {w':x2},ae (λr=>r=X\/ap.heap.size<=r) ap w'->Ext w w':=λbQ=>cl.then bQ λr U he=>Ω
 have bR:(bI f.sizes (bl x.scope)).length=(bl x.scope).length:=by simp[bI]
 refine b0.range (bl x.scope).length (λi aq=>ae (λr=>r=X\/ap.heap.size<=r) ap aq/\ ∃szv gs,ad aq X aX [ax,szv,.slice ν 0 0]/\ao .i64 ac aq gs szv ((bI f.sizes (bl x.scope)).take i)/\ ∀r,leads szv r->ap.heap.size<=r) Ω
  ⟨ae.refl _ _,_,0,aG,ao.nil _ _ _ _,λr U=>by obtain⟨a,n,c,ag,am⟩:=U;cases ag⟩ ?_ ?_
 .rintro i aq c7 hi ⟨ay,szv,gs,c9,aT,bi⟩ da;obtain⟨v,bS⟩:=aN (l:=(bl x.scope)) hi;have eB:=cn v (x5 bS);have db:ao .i64 ac aq gr ax (bl x.scope):=be aD ay λr U J=>by
   rcases J with rfl|J
   .exact b5 aD aG Φ U rfl
   .obtain⟨ag,am⟩:=bz aD U;omega
  refine bk Ω ?_;rw[bf af.u ac.i Ψ db.ls bS];intro eC aV _ _;have cp:=c9.ext aV;have dc:f.sizes[v.toNat]? =σ (f.sizes.getD v.toNat 0):=by rw[u9,x6 Ω];rfl
  rw[av aX.p 1 cp rfl,dY (y:=v) (i:=v.toNat) Ω au.u an.i Ψ (cS.ext ((bO ay).trans aV)).ls dc];refine dJ (k:=.i64) af.u ac.i rfl λeD eE dd eF aW de=>?_;refine⟨.inl aW,?_⟩;have cq:=(aT.ext aV).ext aW;refine fc af.u ac.i rfl cq de.ls Θ Θ λdf dg eH bm dh cr=>?_;have ct:=cp.ext aW;have cu:=ct.ab cr λhe=>b5 cq ct Φ he rfl;rw[aM aX.p rfl];refine bj (g:=X) (o:=1) af.i bm.ls.cells.1 bm.ls.cells.2 cu Ξ λdi cw eI dj=>?_;rw[aL];have dk:ae (λr=>leads szv r\/r=X) dd di:=(cr.mono λr _ h=>.inl h).trans (cw.mono λr _ h=>.inr h);have dl:=ay.size;have eJ:=(aV.trans aW).size;refine da _ ⟨((ay.trans (aV.ab _)).trans (aW.ab _)).trans (dk.mono λr _ h=>h.elim (λh=>.inr (bi r h)) .inl),df,dg,dj,?_,λr U=>(dh r U).elim (bi r) λh=>Ω⟩;have e:(bI f.sizes (bl x.scope)).take (i+1)=(bI f.sizes (bl x.scope)).take i++[f.sizes.getD v.toNat 0]:=by
   unfold bI;rw[<-List.map_take,<-List.map_take,r9,bS,j6,j9];rfl
  rw[e];exact be bm cw λr U he=>by
   have he:r=X:=he;subst he;exact b5 bm cu Φ U rfl
 rintro aq c7 ⟨ay,szv,gs,bT,aT,bi⟩;rw[<-bR,o9] at aT;refine b2 Ω ?_;have eK:=bO ay;have bo:bZ (bI f.sizes (bl x.scope)):=⟨by rw[bR];exact cU,ld ba.sizes.2.2 cn⟩;have dm:=cV.small;rw[av aX.p 1 bT rfl];refine (oe _ aT.ls bo).mono ?_;rintro dn Y _ ⟨bq,cz⟩;have eM:=hq bo.2;have eO:=k7 bo.2;have eP:aJ (bI f.sizes (bl x.scope))<=4096:=dm;rw[eh cj.u cz];have bt:ae (λr=>r=X\/ap.heap.size<=r) ap Y:=ay.trans (bq.ab _);have aY:=bT.ext bq;have cA:=aT.ext bq;have dl:=ay.size;have eQ:=bq.size;have bU:ao .i64 ac Y gr ax (bl x.scope):=be aD bt λr U J=>by
  rcases J with rfl|J
  .exact b5 aD aG Φ U rfl
  .obtain⟨ag,am⟩:=bz aD U;omega
 have bV:ad Y bG a1 (eN aP):=bN.ab bt λJ=>J.elim (λhe=>by subst he;exact absurd (ea bN aG) Φ) λh=>by have:=bN.lt;omega
 have cB:=cm.ab bt λJ=>J.elim (λhe=>by have:=bJ.lt;omega) λh=>by have:=cm.lt;omega
 have cC:∀ {w':x2},ae (λr=>r=X\/Y.heap.size<=r) Y w'->Ext w w':=λbQ=>(bO bt).then bQ λr U he=>by
  have he:r=X\/Y.heap.size<=r:=he;omega
 have eR:X<Y.heap.size:=aY.lt;refine b0.range (bh (bI f.sizes (bl x.scope))).length (λq W=>ae (λr=>r=X\/Y.heap.size<=r) Y W/\ ∃aI aZ,ad W X aX [ax,szv,aI]/\ao .i64 an W aZ aI (((bh (bI f.sizes (bl x.scope))).take q).map λt=>jb x f.k (ou x.scope (bl x.scope) t))/\ ∀r,leads aI r->Y.heap.size<=r) Ω
  ⟨ae.refl _ _,_,0,aY,ao.nil _ _ _ _,λr U=>by obtain⟨a,n,c,ag,am⟩:=U;cases ag⟩ ?_ ?_
 .rintro q W dp dq ⟨ah,aI,aZ,a2,a6,bu⟩ dr;obtain⟨t,bw⟩:∃t,(bh (bI f.sizes (bl x.scope)))[q]? =σ t:=⟨_,x6 dq⟩;have eS:t.length=(bl x.scope).length:=by
   have ds:=mU bo.2 (i:=q) Ω;rw[ds] at bw;cases bw;rw[iC,bR]
  have bW:=cC ah;have dt:al.rep (α:=List (Λ)) true (eL aq.heap.size) bC W [dn] (bh (bI f.sizes (bl x.scope))):=al.ab cz ah λr U h J=>by
   rcases h with h|h
   .have h:aq.heap.size<=r:=h;have:=bT.lt;rcases J with J|J<;>omega
   .exact h
  have aH:∀ {aA:Nat} {aB:y0} {aC:Λ},ao .i64 ac Y aA aB aC->ao .i64 ac W aA aB aC:=λhm=>be hm ah λr U J=>by
   rcases J with rfl|J
   .exact b5 hm aY Φ U rfl
   .obtain⟨ag,am⟩:=bz hm U;omega
  have cD:=aH bU;have cE:ad W bG a1 (eN aP):=bV.ab ah λJ=>J.elim (λhe=>by subst he;exact absurd (ea bV aY) Φ) λh=>by have:=bV.lt;omega
  refine bk Ω ?_;refine hE (α:=Λ) rfl rfl cj.u af.i Ψ dt bw λaF du=>?_;have dv:=c4 du;rw[av a1.p 0 cE rfl,aU au.u (bb.ls.ext bW)];have z12:=ah.size;refine bA.range x.scope.length (λp aj bx=>Ext W bx/\ ∃go,ao .i64 an bx go aj ((x.scope.take p).map λv=>t.getD ((bl x.scope).idxOf v) 0)/\ ∀r,leads aj r->W.heap.size<=r) Ω ⟨Ext.refl _,0,ao.nil _ _ _ _,λr U=>by obtain⟨a,n,c,ag,am⟩:=U;cases ag⟩ ?_ ?_
  .rintro p aj bx dw dx ⟨aK,go,a7,cF⟩ dy;obtain⟨v,bX⟩:=aN (l:=x.scope) dx;have dz:v∈bl x.scope:=cd.mem_iff.2 (x5 bX);refine bk Ω ?_;have dA:=bW.trans aK;have dC:=a2.ext aK;have dD:=cD.ext aK;rw[bf au.u an.i Ψ (bb.ls.ext dA) bX,av aX.p 0 dC rfl,aU af.u dD.ls];generalize cG:((x.scope.take p).map λv=>t.getD ((bl x.scope).idxOf v) 0)=A at a7;have eU:A.length=p:=by rw[<-cG,u5,o5];omega
   refine bA.range (bl x.scope).length (λj aj bB=>Ext W bB/\ ∃go,ao .i64 an bB go aj (A++if v∈(bl x.scope).take j then[t.getD ((bl x.scope).idxOf v) 0] else[])/\ ∀r,leads aj r->W.heap.size<=r) Ω ⟨aK,go,by simpa using a7,cF⟩ ?_ ?_
   .rintro j dE bB dF dG ⟨aE,bY,aO,a8⟩ dH;obtain⟨u,hu⟩:=aN (l:=(bl x.scope)) dG;have dI:=cD.ext aE;refine bk Ω ?_;refine aR (λaj b1=>Ext W b1/\ ∃go,ao .i64 an b1 go aj (A++if v∈(bl x.scope).take (j+1) then[t.getD ((bl x.scope).idxOf v) 0] else[])/\ ∀r,leads aj r->W.heap.size<=r) ?_ ?_
    .rintro eV b1 dK;rw[aL];exact dH _ _ dK
    intro eW cH;have b3:v∈(bl x.scope).take (j+1)↔v∈(bl x.scope).take j\/v=u:=by
     rw[r9,hu,j6,l5,l9]
    rw[bf af.u ac.i Ψ dI.ls hu,bn,ak];refine⟨λhe=>?_,λb6=>?_⟩
    .have dL:v∉(bl x.scope).take j:=λhm=>by
      obtain⟨dM,b8⟩:=X4.1 hm;have dN:dM<j:=by have:=(x4.1 b8).1;rw[o5] at this;omega
      rw[Y7 dN,<-he] at b8;have:=jF cg b8 hu;omega
     rw[if_neg dL,X6] at aO;have dO:t[j]? =σ (t.getD ((bl x.scope).idxOf v) 0):=by
      have:(bl x.scope).idxOf v=j:=pY cg (by rw[hu,he]);rw[this,u9,x6 (show j<t.length by omega)];rfl
     rw[bf af.u ac.i Ψ (dv.ext aE) dO];refine dJ au.u an.i rfl λeX eY e0 e2 b9 dP=>?_;refine fc au.u an.i rfl (aO.ext b9) dP.ls Θ Θ λe3 dQ e4 dR dS dT=>?_;have e5:=aE.size;have e6:=b9.size;refine cH _ _ ⟨(aE.trans b9).then dT λr U he=>by have:=a8 r he;omega,dQ,?_,λr U=>(dS r U).elim (a8 r) λh=>Ω⟩;rw[if_pos (b3.2 (.inr he.symm))];exact dR
    .refine cH _ _ ⟨aE,bY,?_,a8⟩;have:(v∈(bl x.scope).take (j+1))=(v∈(bl x.scope).take j):=propext ⟨λaw=>(b3.1 aw).resolve_right λhe=>b6 he.symm,λaw=>b3.2 (.inl aw)⟩;simp only[this];exact aO
   .rintro dE bB dF ⟨aE,bY,aO,a8⟩;rw[o9,if_pos dz] at aO;refine b2 Ω ?_;rw[aL];refine dy _ _ ⟨aE,bY,?_,a8⟩;rw[r9,bX,j6,j9,cG];exact aO
  .rintro aj bx dw ⟨aK,go,a7,cF⟩;rw[o9] at a7;refine b2 Ω ?_;intro e7 cI _ _;have bD:=aK.trans cI;have dU:=a2.ext bD;have dV:=cE.ext bD;rw[av aX.p 2 dU rfl,br a1.p a1.i rfl dV.range];refine (LN (h.ext (bW.trans bD)) aQ.lines.1 (a7.ls.ext cI)).mono ?_;rintro _ e8 _ ⟨rfl,ca⟩;refine⟨.inl ca,?_⟩;refine dJ au.u an.i rfl λe9 fa dW fb cJ dX=>?_;refine⟨.inl (ca.trans cJ),?_⟩;have bE:=(bD.trans ca).trans cJ;have cK:=a6.ext bE;refine fc au.u an.i rfl cK dX.ls Θ Θ λdZ ec fd bF ed cL=>?_;have cM:=a2.ext bE;have cN:=cM.ab cL λhe=>b5 cK cM Φ he rfl;rw[aM aX.p rfl];refine bj (g:=X) (o:=2) au.i bF.ls.cells.1 bF.ls.cells.2 cN Ξ λee cP fe ef=>?_;rw[aL];have eg:ae (λr=>leads aI r\/r=X) dW ee:=(cL.mono λr _ h=>.inl h).trans (cP.mono λr _ h=>.inr h);have ff:=bE.size;refine dr _ ⟨(ah.trans (bE.ab _)).trans (eg.mono λr _ h=>h.elim (λh=>.inr (bu r h)) .inl),dZ,ec,ef,?_,λr U=>(ed r U).elim (bu r) λh=>Ω⟩;rw[r9,bw,j6,j9];exact be bF cP λr U he=>by
    have he:r=X:=he;subst he;exact b5 bF cN Φ U rfl
 .rintro W dp ⟨ah,aI,aZ,a2,a6,bu⟩;rw[o9] at a6;refine b2 Ω ?_;have aH:∀ {aA:Nat} {aB:y0} {aC:Λ},ao .i64 ac Y aA aB aC->ao .i64 ac W aA aB aC:=λhm=>be hm ah λr U J=>by
   rcases J with rfl|J
   .exact b5 hm aY Φ U rfl
   .obtain⟨ag,am⟩:=bz hm U;omega
  let c:ey:=⟨ax,szv,aI,bl x.scope,(hs f.sizes f.k x).2⟩;have ei:fs W f.sizes c:=⟨⟨gr,aH bU⟩,⟨gs,aH cA⟩,aZ,a6⟩;rw[br aX.p aX.i rfl (show W.rangeAt X 0 (cO c) from a2.range)];have cQ:=cB.ab ah λJ=>J.elim (λhe=>by have:=bJ.lt;omega) λh=>by have:=cB.lt;omega
  refine bK (vs:=cO c) aX.i rfl rfl ei.one cQ λej cR fg ek=>?_;rw[eZ aX.p aX.i rfl ek.range];have bc:∀ {aA:Nat} {aB:y0} {aC:Λ} {e:o4},e≠aX->ao .i64 e W aA aB aC->ao .i64 e ej aA aB aC:=λb6 hm=>be hm cR λr U he=>by
   have he:r=ci:=he;exact b5 hm cQ b6 U he
  refine⟨(cC ah).then cR λr U he=>by have he:r=ci:=he;have:=ch.size;omega,c,rfl,rfl,rfl,⟨⟨gr,bc Φ (aH bU)⟩,⟨gs,bc Φ (aH cA)⟩,aZ,bc Φ a6⟩,λr U=>?_⟩;rcases U with U|U|U
  .have:=bu r U;omega
  .have:=c1 r U;omega
  .have:=bi r U;omega
end Go.Proofs.YthjegppepbbojaaGreatDoor
