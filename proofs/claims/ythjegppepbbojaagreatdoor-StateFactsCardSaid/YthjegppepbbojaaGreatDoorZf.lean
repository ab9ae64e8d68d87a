/- own texts, made small by a tool (wip/ holds them as they were written): no statement of the seat. -/
import Derived.Test.YthjegppepbbojaaGreatDoorZe
set_option linter.unusedVariables false
set_option linter.unusedSimpArgs false
set_option linter.unnecessarySimpa false
open Array renaming getElem?_eq_some_iff→Z1
open Bool renaming not_true→Y6,not_false→W6,true_and→V6,eq_iff_iff→U4,and_eq_true→U8
open Decidable renaming not_not→X9
open Go renaming Value→y0,World→x2,TypeId→o4,IntKind→o6,Builtin→j5
open Go.Addr renaming add_mid→T3
open Go.Builtin renaming append_→j4,len_→X0
open Go.Instr renaming loadAt→x7,fieldAt→x8,storeAt→o7,indexAt→l7,extract→Y0,buildSlice→Y1,sliceAt→V5,alloc→S8
open Go.IntKind renaming i64→X2
open Go.Proofs.Tryz renaming prog→x3
open Go.Value renaming int→U1
open Int renaming toNat_natCast→j0
open List renaming getElem?_eq_some_iff→x4,mem_of_getElem?→x5,getElem?_eq_getElem→x6,getElem?_map→u4,length_map→u5,getD_eq_getElem?_getD→u9,length_append→r8,take_add_one→r9,length_take→o5,take_length→o9,take_of_length_le→n0,mem_append→l5,mem_singleton→l9,map_append→j9,append_assoc→Z4,length_cons→Z5,mem_map→Z6,eq_nil_of_length_eq_zero→Z8,getElem?_append_left→Y3,getElem?_append_right→Y5,getElem?_take_of_lt→Y7,getElem?_eq_none→Y9,flatMap_cons→X3,mem_iff_getElem?→X4,append_nil→X6,ext_getElem?→W5,length_eq_one_iff→W7,mem_or_eq_of_mem_set→W8,range→V0,drop_eq_getElem_cons→V4,length_singleton→U2,pairwise_iff_getElem→U3,mem_of_mem_take→U9,mem_cons→T1,map_cons→T2,map_set→T8,length→T9,getElem_mem→S3,length_filter_le→S5,length_drop→Q2
open Nat renaming le_refl→n9,mul_le_mul_right→X1,zero_le→X7,le_trans→X8,sub_self→V9,add_mul→U7,min_eq_left→S4,pow_le_pow_right→R5,le_succ→R6,add_assoc→Q0,add_sub_cancel_left→Q1
open Ne renaming symm→S6
open Option renaming toList_some→j6,isNone_some→Z7,map_some→Y4,map→U6,getD_some→S1
open Option.some renaming inj→Z9,injEq→Y8
open Prod renaming mk→R8
open Prod.mk renaming injEq→T5
set_option maxHeartbeats 16000000
open Option renaming some→σ,none→ν
variable {w w':x2}{ax v:y0}{l r r' sc sizes:Λ}{k:Int}{K:y0->x2->Prop}{e t:o4}{cs:List y0}{B ag am:Nat}
namespace Go.Proofs.YthjegppepbbojaaGreatDoor
open Go Go.Vc Go.RowKit Go.Proofs Go.Proofs.Tryz
set_option maxRecDepth 100000
theorem CQ {bv:y0} {v:Int} {dl:Λ} (J:aH .i64 w ax sc) (am:aH .i64 w bv dl) (h1:sc.length<=1000000) (aC:dl.length<=1000000):
  ai x3 E7 [.agg #[Δ v,ax,bv]] w λr w'=>Ext w w'/\ ∃an ap g1 aq,r= .agg #[Δ v,an,ap]/\w.heap.size<=g1/\w.heap.size<=aq/\ao .i64 ac w' g1 an sc/\ao .i64 ac w' aq ap dl:=by
 refine az func144 ?_;refine bP λge V aN au aw=>?_;have aD:ad V ge bW [Δ v,ax,bv]:=by
  obtain⟨_,_,_,ae⟩:=b7 J;obtain⟨_,_,_,aE⟩:=b7 am;rw[ae,aE] at aw ⊢;exact aw
 refine bp bW.i λgr aa aO ay aA=>?_;intro aP af _ _;have aB:=ay.trans af;have W:=au.trans aB;have ag:=aD.ext aB;rw[av bW.p 0 ag rfl,av bW.p 1 ag rfl,av bW.p 2 ag rfl];refine (h7 (J.ext W) h1).mono ?_;rintro ah aQ _ ⟨U,aF,aR,X⟩;refine⟨.inl U,?_⟩;refine (h7 ((am.ext W).ext U) aC).mono ?_;rintro aj aS _ ⟨Y,aG,aT,ab⟩;refine⟨.inl (U.trans Y),?_⟩;have z3:=W.size;have z4:=U.size;have aI:=X.ext Y;rw[c8 (cs:=#[Δ v,ah,aj]) (by obtain⟨_,_,_,rfl⟩:=b7 X.ls;obtain⟨_,_,_,rfl⟩:=b7 ab.ls;kernel_rfl)];have aJ:=((aA.ext af).ext U).ext Y;have aU:=ay.size;have aV:=aA.lt;have aW:=af.size;refine bK (vs:=[Δ v,ah,aj]) bW.i rfl rfl ?_ aJ λaK ak aX aL=>?_
 .intro u hu;simp at hu;rcases hu with rfl|rfl|rfl
  .rfl
  .exact X.ls.cells.2
  .exact ab.ls.cells.2
 rw[eZ bW.p bW.i rfl aL.range];have aY:=au.size;have aM:Ext w aK:=((W.trans U).trans Y).put ak Ω;refine⟨aM,ah,aj,aF,aG,rfl,Ω,Ω,be aI ak λr al he=>?_,be ab ak λr al he=>?_⟩
 .have he:r=gr:=he;obtain⟨ae,_⟩:=bz X al;omega
 .have he:r=gr:=he;obtain⟨ae,_⟩:=bz ab al;omega
def iN (s:aB) (e:hx):aB:=match s.vars[e.v.toNat]? with
 |some x=>{s with elims:=s.elims++[e],vars:=s.vars.set e.v.toNat {x with gone:=1}}
 |none=>s
section
variable {w:x2} {aj ag:Nat} {A R:ah} {n:aY} {s:aB} {t:aC}
theorem CR {bv:y0} {e:hx} (h:ci w aj ag A R n s t) (aI:t.olds.length+2<=100000000) (J:aH .i64 w ax e.sc) (aW:aH .i64 w bv e.dl) (bq:e.dl.length<=1000000) (b6:e.sc.length<=1000000) (dd:s.elims.length<=1000000):
  ai x3 xS [Γ aj,.agg #[Δ e.v,ax,bv]] w λr w'=>(¬nu n s e->r=Δ 1/\Ext w w')/\
   (nu n s e->r=Δ 0/\ae (cI w) w w'/\ ∃aG R' x y p,Grow A w aG w'/\ci w' aj ag aG R' n (iN s e) ((t.set 2 x).set p y)/\(∀r,R r->R' r)/\ ∀r,R' r->R r\/w.heap.size<=r):=by
 obtain⟨_,bw,bx,ak,b8⟩:=id h;refine az func58 ?_;refine bP λge V df aJ bA=>?_;have aX:ad V ge bW [Δ e.v,ax,bv]:=by
  obtain⟨_,_,_,b9⟩:=b7 J;obtain⟨_,_,_,ca⟩:=b7 aW;rw[b9,ca] at bA ⊢;exact bA
 rw[cR et.u];simp only[Z7,aT];rw[br bW.p bW.i rfl aX.range];refine (MK (h.ext aJ) (J.ext aJ) (aW.ext aJ) bq Ω).mono ?_;rintro _ aa _ ⟨⟨b,rfl,bB⟩,aY⟩;have bC:=aJ.trans aY;rw[bg,bt];refine⟨λaL=>⟨λ_=>⟨by trivial,bC⟩,λcb=>?_⟩,λcc=>?_⟩
 .rw[bB.2 cb] at aL;cases aL
 have aN:nu n s e:=bB.1 (by simpa using cc);intro dg aZ _ _;have aw:=bC.trans aZ;obtain⟨a1,a2,a6,a7,bD⟩:=(h.ext aw).1;obtain⟨_,_,_,_,_,dh,_,_,X,_⟩:=id bD;rw[aK bF.p 4 X rfl,br bW.p bW.i rfl ((aX.ext aY).ext aZ).range];refine (CQ (J.ext aw) (aW.ext aw) b6 bq).mono ?_;rintro _ di _ ⟨a8,ba,bb,g1,dj,rfl,dk,dm,bE,bG⟩;refine⟨.inl a8,?_⟩;let a:nk:=⟨e.v,ba,bb⟩;have cd:∀u∈hT a,u.oneCell'=true:=by
  intro u hu;simp[hT] at hu;rcases hu with rfl|rfl|rfl
  .rfl
  .exact bE.ls.cells.2
  .exact bG.ls.cells.2
 refine gg (f:=hT) (a:=a) gb.u bW.i Ω rfl rfl λv5 dn an dp aO ce=>?_;have aA:=a8.trans aO;refine⟨.inl aA,?_⟩;have cg:=bD.ext aA;obtain⟨⟨bH,bI,dq,bJ⟩,ch,cj,dr,L,E,ck,w0,X,⟨cl,cm,bK⟩,⟨cp,bL,bM,al⟩,bc,⟨bd,cq⟩,ap,aP⟩:=id cg;have bN:E.length=s.elims.length:=aP.1;refine gB (f:=hT) (a:=a) gb.u bW.i rfl ap (by simpa using ce.sl) cd Ω Ω λbf cr ds aD ct bh=>?_;have bO:=X.ab bh λhe=>cn ap X Φ he;rw[bu,aM bF.p rfl];refine bj gb.i (de aD.sl).1 (de aD.sl).2 bO Ξ λam bi du bk=>?_;have bk:ad am aj bF [Γ a1,Γ ag,a2,a6,bf]:=bk;have W:ae (λr=>leadsTo a7 r\/r=aj) an am:=(bh.mono λr _ h=>.inl h).trans (bi.mono λr _ h=>.inr h);have cu:ae (cI an) an am:=W.mono λr _ U=>by
  rcases U with U|rfl
  .obtain⟨_,c,aE⟩:=dy ap U;exact .inl ⟨_,c,‹r=_› ▸aE,Φ⟩
  .exact .inl ⟨_,_,X,Φ⟩
 have z3:=aw.size;have z4:=a8.size;have z5:=aO.size;have dv:=W.size;have dw:=bh.size;have dx:=bi.size;have aQ:∀r,(leadsTo a7 r\/r=aj)->A r:=λr U=>U.elim (λU=>(al r (.inr (.inr U))).1) λU=>U▸bH;have bl:∀r,(leadsTo a7 r\/r=aj)->¬R r:=λr U=>bI r (aQ r U);obtain⟨bQ,bm⟩:(∀r,R r->r<w.heap.size)/\ ∀r,A r->r<w.heap.size:=by obtain⟨_,_,_,_,⟨_,_,cw,cz⟩,_⟩:=h.1;exact⟨cw,cz⟩
 have bR:=(bE.ext aO);have bS:=(bG.ext aO);have ay:∀r,leads ba r\/leads bb r->w.heap.size<=r/\r<an.heap.size:=λr U=>by
  rcases U with U|U
  .obtain⟨h1,bT⟩:=bz bR U;omega
  .obtain⟨h1,bT⟩:=bz bS U;omega
 let aR:ah:=λr=>A r\/(an.heap.size<=r/\r<am.heap.size);let aq:ah:=λr=>R r\/leads ba r\/leads bb r;have bU:∀ {v:y0} {bV:Nat} {l:Λ},ao .i64 ac an bV v l->(∀r,leads v r->w.heap.size<=r)->ao .i64 ac am bV v l:=λhm cA=>be hm W λr U J=>by
  have:=bm r (aQ r J);have:=cA r U;omega
 have cB:ek am aj ag a1 a2 a6 bf aR aq n {s with elims:=s.elims++[e]} t:=by
  refine⟨⟨.inl bH,λr U Y=>?_,λr U=>?_,λr U=>U.elim (λU=>by have:=bJ r U;omega) And.right⟩,ch,cj,cr,L,E++[a],ck,w0,bk,⟨cl,oM cm W λr o U aI J=>bl r J (bK r o U aI),λr o U aI=>.inl (bK r o U aI)⟩,⟨cp.ab W λr U J=>?_,λr U=>.inl (bL r U),bM,λr U=>?_⟩,?_,⟨bd.ab W λr U J=>?_,?_⟩,aD.ab bi λr U he=>?_,?_⟩
  .rcases U with U|U
   .rcases Y with Y|Y
    .exact bI r U Y
    .have:=ay r Y;have:=bm r U;omega
   .rcases Y with Y|Y
    .have:=bQ r Y;omega
    .have:=ay r Y;omega
  .rcases U with U|U
   .have:=bQ r U;omega
   .have:=ay r U;omega
  .rcases J with J|rfl
   .exact (al r (.inr (.inr J))).2 U
   .exact bM U
  .rcases U with U|U|U
   .exact⟨.inl (al r (.inl U)).1,(al r (.inl U)).2⟩
   .exact⟨.inl (al r (.inr (.inl U))).1,(al r (.inr (.inl U))).2⟩
   .obtain⟨h1,bT⟩:=aD.leads U;rcases ct r U with h|h
    .exact⟨.inl (al r (.inr (.inr h))).1,(al r (.inr (.inr h))).2⟩
    .refine⟨.inr ⟨h,Ω⟩,λcC=>?_⟩;have:=bJ r (bL r cC);omega
  .exact be bc W λr U J=>by
    rcases J with J|rfl
    .obtain⟨rfl,c,aE⟩:=dy ap J;exact b5 bc aE Φ U rfl
    .exact b5 bc X Φ U rfl
  .rcases J with J|rfl
   .obtain⟨rfl,c,aE⟩:=dy ap J;exact cn bd aE Φ U
   .exact cn bd X Φ U
  .exact (jk.ab cq W λr _ U J=>bl r J U).mono λr U=>.inl U
  .have he:r=aj:=he;subst he;exact cn aD bO Φ U
  .refine⟨by rw[r8,bN];simp,λj x f aS au=>?_⟩;have au:(s.elims++[e])[j]? =σ f:=au;by_cases cD:j<s.elims.length
   .rw[Y3 Ω] at aS;rw[Y3 cD] at au;exact ((kw.ab aP W λr _ U J=>bl r J U).mono (R':=aq) λr U=>.inl U).2 j x f aS au
   .have bX:j=s.elims.length:=by have:=(x4.1 au).1;simp at this;omega
    rw[Y5 Ω,bN,bX,V9] at aS;rw[Y5 Ω,bX,V9] at au;cases aS;cases au;exact⟨rfl,⟨⟨_,bU bR λr U=>(ay r (.inl U)).1⟩,λr U=>.inr (.inl U)⟩,⟨_,bU bS λr U=>(ay r (.inr U)).1⟩,λr U=>.inr (.inr U)⟩
 have cE:Grow A w aR am:=(Grow.ext (aw.trans aA)).trans ⟨W.mono λr _ U=>aQ r U,λr U=>U.imp id And.left,λr U=>.inl U⟩;have cF:ae (cI w) w am:=kx (aw.trans aA) cu;have cG:∀r,aq r->R r\/w.heap.size<=r:=λr U=>U.imp id λU=>(ay r U).1;have cH:∀r,aR r->A r\/an.heap.size<=r:=λr U=>U.imp id And.left;have cJ:∀r,R r->aq r:=λr U=>.inl U
 clear_value aR aq
 intro dz aU _ _;have bY:=cB.ext aU;obtain⟨_,_,_,_,_,cK,_,_,X,_,_,_,_,ap,aP⟩:=id bY;have cL:cK.length=s.elims.length+1:=by rw[aP.1];simp
 rw[aK bF.p 1 X rfl,aK bF.p 4 X rfl,dt gb.u ap,cL];obtain⟨dC,cM,cN⟩:=bY.l2;have cO:t.cells.length=s.cells.length:=by rw[<-bw];simp[aC.b3]
 have cP:2<t.cells.length:=by rw[cO,qa];omega
 refine (p9 (i:=2) (y:=2) cM rfl cP bx).mono ?_;rintro _ bZ _ ⟨rfl,cQ,cS,cT⟩;obtain⟨cU,A9,b0,cV⟩:=cN cQ bZ _ cS cT;have cW:ji (t.set 2 ((s.elims.length+1:Nat):Int)):=bx.set (.inr Ω) _ _;have cX:ci bZ aj ag A9 aq n {s with elims:=s.elims++[e]} (t.set 2 ((s.elims.length+1:Nat):Int)):=
  ⟨⟨a1,a2,a6,bf,cV⟩,by rw[aC.n7,bw];exact Lc e,cW,⟨ak.kv,ak.ej,ak.zero,ak.vars,ak.var,ak.funs⟩,b8⟩
 intro cY aV _ _;have bn:=cX.ext aV;obtain⟨dD,dE,dF,ev',dG,dH,dI,dJ,b1,dK,dL,cZ,dM,dN⟩:=bn.1.parts;have dO:=ak.vars;obtain⟨x,aF⟩:∃x,s.vars[e.v.toNat]? =σ x:=⟨_,x6 (by have:=aN.has;omega)⟩;have c1:e.v=((e.v.toNat:Nat):Int):=by have:=aN.has;omega
 have c2:=(x4.1 aF).1;have b2:=((aX.ext aY).ext aZ).ext aA;have dP:=b2.lt;have b4:¬A ge:=λc3=>by have:=bm ge c3;omega
 have c4:ad cY ge bW [Δ e.v,ax,bv]:=(((b2.ab W λJ=>b4 (aQ ge J)).ext aU).ab b0.1 λJ=>(cH ge J).elim b4 λh=>Ω).ext aV;rw[aK bF.p 1 b1 rfl,aK bF.p 2 b1 rfl,av bW.p 0 c4 rfl,dY (y:=e.v) (i:=e.v.toNat) c1 af.u ac.i Ψ cZ.ls (oR c2)];have bo:iN s e={({s with elims:=s.elims++[e]}:aB) with vars:=s.vars.set e.v.toNat {x with gone:=1}}:=by
  unfold iN;rw[aF]
 have dQ:=qj (s:=({s with elims:=s.elims++[e]}:aB)) (i:=e.v.toNat) (x:=x) aF;have bp:({s with elims:=s.elims++[e]}:aB).vars[e.v.toNat]? =σ x:=aF;obtain⟨dR,c5,c6⟩:=ak.var e.v.toNat x _ aF (x6 (show e.v.toNat<n.sizes.length by have:=aN.has;omega));have dS:=aC.vw t 2 ((s.elims.length+1:Nat):Int);refine (sM (p:=eY ({s with elims:=s.elims++[e]}:aB) e.v.toNat+0) (s':=iN s e) bn (by rfl) Ω ?_ ?_ ?_ (.inr Ω)).mono ?_
 .rw[bo,vr bp Ω];rfl
 .rw[bo];exact qd bp rfl
 .rw[bo];exact dA.vS (s:=({s with elims:=s.elims++[e]}:aB)) bn.2.2.2.1 bp rfl c5 c6
 rintro _ c7 _ ⟨rfl,c8,c9,da,db⟩;have dc:ae (cI w) w c7:=qg cF (kx aU (qg cU (kx aV c8)));exact⟨λaL=>absurd aN aL,λ_=>⟨rfl,dc,c9,aq,_,_,_,cE.trans ((Grow.ext aU).trans (b0.trans ((Grow.ext aV).trans da))),db,cJ,cG⟩⟩
end
section
variable {w w':x2} {aj ag am:Nat} {A R:ah} {A9:Nat->ah} {aP R9':ah} {n:aY} {s u u':aB} {t:aC} {h:List aC} {cs:List y0} {v:y0}
theorem bV.reads (p:bV w aj ag am A R A9 aP n s u t h cs) (V:∀r,aP r->R9' r) (U:∀r,R9' r->aP r\/(¬cI w r/\r<w.heap.size/\r≠am/\ ∀q,¬A9 q r)):bV w aj ag am A R A9 R9' n s u t h cs:=
 ⟨p.cJ,p.hV,p.box,bq.mono p.doc V λq r h1 W=>(U r W).elim (λJ=>by obtain⟨_,_,_,_,_,_,_,_,_,_,_,_,_,X⟩:=p.doc;exact (X rfl).2 q r h1 J) λJ=>J.2.2.2 q h1,p.apart,λr Y=>(U r Y).elim (p.read r) λh=>⟨h.1,h.2.1,h.2.2.1⟩,p.out⟩
theorem ML {ai:o4} {y:y0} {xs:List y0} {e:hx} {K:x2->Prop} (p:bV w aj ag am A R A9 aP n s u t h cs) (ak:∀q r,A9 q r->r<w.heap.size) (W:cs[7]? =σ v) (J:b6 w 3 y 1 xs) (al:bi (λ_=>False) aP w xs (iM e)) (aB:u.elims.length<=1000)
  (an:∀bm bo w',ae (λr=>A9 4 r\/r=am) w w'->bV w' aj ag am A R bm aP n s {u with elims:=u.elims++[e]} t h bo->(∀q r,bm q r->A9 q r\/w.heap.size<=r)->K w'):
  ay x3 (j4 #[eA,eA] ai #[v,y]) w λad aa=>U x3 (x8 aD (Γ am) 7) aa λao=>ay x3 (o7 eA ao ad) aa λ_ X=>K X:=by
 obtain⟨szv,aC,aE,aF,aG,Y,ap,h1,aH,aI,aJ,aK,aq,ab⟩:=id p.doc;obtain⟨ab,af⟩:=ab rfl;have Y:v=Y:=by rw[ap] at W;exact (Z9 W).symm
 subst Y;have aL:=p.box.lt;have au:∀r,aP r->r<w.heap.size:=λr h=>(p.read r h).2.1;refine ln (pl:=_) (l:=u.elims.map iM) aD.p rfl eA.u eA.i bR.i rfl p.box W aq J al (λr V av=>⟨λh=>h,af 4 r av⟩) ⟨λh=>(p.apart 4 am h).2.2 rfl,λh=>h,λh=>(p.read am h).2.2 rfl⟩ (by rw[u5];omega) (by rw[u5];omega) λad X ac aw ax=>?_;have ah:=bq.CD p.doc (oX ac) (λr V=>?_) ax (λj r az V=>?_) (λr V=>?_)
 .refine an _ _ X ac (p.wb ac (λr V h=>h.imp (λh=>⟨4,h⟩) id) aw (u':={u with elims:=u.elims++[e]}) (by rw[<-List.map_singleton,<-j9] at ah;exact ah) λq r V=>?_) λq r V=>?_
  .unfold ef at V;split at V
   .rcases V with V|V|V
    .exact .inl ⟨4,V⟩
    .exact V.elim
    .exact .inr V
   .exact .inl ⟨q,V⟩
  .unfold ef at V;split at V
   .rename_i aA;subst aA;rcases V with V|V|V
    .exact .inl V
    .exact V.elim
    .exact .inr V
   .exact .inl V
 .rcases V.1 with h|rfl
  .exact .inl h
  .exact .inr ⟨λj h=>(p.apart j r h).2.2 rfl,λh=>(p.read r h).2.2 rfl⟩
 .rcases V with V|V|V
  .exact ab 4 j r (S6 az) V
  .exact V.elim
  .exact λh=>by have:=ak j r h;omega
 .rcases V with V|V|V
  .exact af 4 r V
  .exact V.elim
  .exact λh=>by have:=au r h;omega
theorem MM {y:Int} {i:Nat} {K:Unit->x2->Prop} (p:bV w aj ag am A R A9 aP n s u t h cs) (aw:∀q r,A9 q r->r<w.heap.size) (W:cs[4]? =σ v) (ad:y=(i:Int)) (af:i<u.vars.length)
  (ah:u'.zero=u.zero) (ai:u'.vars.map bN=u.vars.map bN) (hu:u'.vars.map (·.un)=u.vars.map (·.un)) (ak:u'.funs=u.funs) (he:u'.elims=u.elims) (al:(u'.vars.map λx=>decide (x.gone≠0))=(u.vars.map λx=>decide (x.gone≠0)).set i true)
  (an:∀w',ae (λr=>A9 1 r) w w'->bV w' aj ag am A R A9 aP n s u' t h cs->K () w'):
  U x3 (l7 e4 v (Δ y)) w λp=>ay x3 (o7 ec p (.bool true)) w K:=by
 obtain⟨szv,ax,ao,az,aA,ab,ap,h1,aB,aq,aC,aD,aE,X⟩:=id p.doc;obtain⟨X,ac⟩:=X rfl;have ab:v=ao:=by rw[ap] at W;exact (Z9 W).symm
 subst ab;refine vZ (α:=Bool) (a:=true) (A:=λ_=>False) rfl ad e4.u ec.i aq (by rw[u5];exact af) rfl rfl (λr J h=>⟨λh=>h,ac 1 r h⟩) λw' Y au=>?_;have V:=bq.CC p.doc (oX Y) (λr J=>.inl J.1) au (λj r aa J=>J.elim (λJ=>X 1 j r (S6 aa) J) False.elim) (λr J=>J.elim (ac 1 r) False.elim);refine an w' Y (p.row (q:=1) Y (λr _ h=>h) ?_ λq r h=>.inl ⟨q,h⟩);have V:=bq.oo W V;have av:ef A9 1 (λr=>A9 1 r\/False)=A9:=by
  funext j;unfold ef;split
  .rename_i aa;subst aa;funext r;exact or_false _
  .rfl
 rw[av] at V;unfold gq;rw[ah,ai,hu,ak,he,al];exact V
end
def hz (n:aY) (l:Λ):Λ:=(l.filter λv:Int=>decide (0<=v/\v<n.sizes.length)).map λv:Int=>n.sizes.getD v.toNat 0
theorem sR {n:aY} {i:Nat} {x:Int} (h:l[i]? =σ x):hz n (l.take (i+1))=hz n (l.take i)++if 0<=x/\x<n.sizes.length then[n.sizes.getD x.toNat 0] else[]:=by
 unfold hz;rw[r9,h,List.filter_append,j9];congr 1;by_cases J:0<=x/\x<(n.sizes.length:Int)
 .rw[if_pos J];simp[J]
 .rw[if_neg J];have:(List.filter (λv:Int=>decide (0<=v/\v<(n.sizes.length:Int))) (σ x).toList)=[]:=Θ
  rw[this];rfl
def kG (m:Nat):Λ:=(V0 m).map λi:Nat=>((i % 2:Nat):Int)-1
def jT (n:aY) (a:dn):Λ:=if a.nt then kG (min (aJ (hz n (a.sc.take 4))) 100).toNat else a.t.take 40
section
variable {V w:x2} {am aZ ge B:Nat} {n:aY} {s:aB} {a:dn} {aF ax cP:y0} {K:x2->Prop}
theorem MN (a6:jR V am n.k n.sizes s) (bx:∀z∈n.sizes,1<=z/\z<=32) (aB:eG V aZ n.k a aF ax cP B) (a7:ad w ge bR [Δ a.i,ax,aF]) (cG:V.heap.size<=ge) (cH:B<=V.heap.size) (an:Ext V w)
  (a8:∀w' bv,Ext V w'->ad w' ge bR [Δ a.i,ax,bv]->(∃g,ao .i64 ac w' g bv (jT n a))->(∀r,leads bv r->B<=r)->K w'):
  U x3 (x8 aW (Γ aZ) 8) w λbz=>
       U x3 (x7 ec bz) w λbB=>
       Split bB (U x3 (x8 bR (Γ ge) 2) w λbC=>
       ay x3 (o7 af bC (.slice ν 0 0)) w λ(_:Unit) ap=>
       U x3 (x8 aW (Γ aZ) 6) ap λbD=>
       U x3 (x7 af bD) ap λba=>
       U x3 (X0 #[af] ac #[ba]) ap λbE=>
       bA (Δ 1) (Δ 0) ap λn aC X bF=>
        U x3 (aA .lss ac false false aC bE) X λbG=>
        Split bG (bJ (α:=y0->x2->Prop) (λ(bH:y0) (bb:x2)=>
         U x3 (aA .add ac false true aC (Δ 1)) bb λbI=>
         bF bH bI bb) λbc=>
        U x3 (l7 af ba aC) X λbK=>
        U x3 (x7 ac bK) X λbg=>
        U x3 (bd (Γ am)) X λbL=>
        U x3 (x7 aD bL) X λbM=>
        ai x3 nP [bM,bg] X λbN Y=>
        Split bN (U x3 (bd (Γ am)) Y λbO=>
         U x3 (x8 aD bO 1) Y λbP=>
         U x3 (x7 af bP) Y λbQ=>
         U x3 (l7 af bQ bg) Y λbS=>
         U x3 (x7 ac bS) Y λbT=>
         U x3 (aA .mul ac false false n bT) Y λbU=>
         bc bU Y)
         (bc n Y))
         (U x3 (j5.min_ #[ac,ac] ac #[n,(Δ 100)]) X λbV=>
       b0 (Δ 0) X λaE ag bW=>
        U x3 (aA .lss ac false false aE bV) ag λbX=>
        Split bX (U x3 (x8 bR (Γ ge) 2) ag λbY=>
        U x3 (x7 af bY) ag λbZ=>
        U x3 (aA .rem ac false true aE (Δ 2)) ag λb1=>
        U x3 (aA .sub ac false true b1 (Δ 1)) ag λb3=>
        ay x3 (Y1 af 1 #[(0,b3)]) ag λb4 b5=>
        ay x3 (j4 #[af,af] af #[bZ,b4]) b5 λb6 bh=>
        U x3 (x8 bR (Γ ge) 2) bh λb7=>
        ay x3 (o7 af b7 b6) bh λ(_:Unit) bi=>
        U x3 (aA .add ac false true aE (Δ 1)) bi λb8=>
        bW b8 bi)
         (K ag)))
       (K w):=by
 rw[av aW.p 8 (aB.ext an).du rfl,bt];obtain⟨_,⟨b9,ca⟩,⟨cI,aG⟩,cJ,cb⟩:=id aB;refine⟨λcc=>?_,λcd=>a8 w aF an a7 ⟨b9,by unfold jT;rw[cd];exact ca.ext an⟩ λr J=>cb r (.inl J)⟩;have aH:jT n a=kG (min (aJ (hz n (a.sc.take 4))) 100).toNat:=by unfold jT;rw[cc];rfl
 obtain⟨l,bl⟩:∃l,l=a.sc.take 4:=⟨_,rfl⟩;rw[<-bl] at aG aH;have cK:l.length<=4:=by rw[bl,o5];omega
 rw[aM bR.p rfl];refine bj (o:=0+2) af.i rfl rfl a7 Ξ λaa ce cL aI=>?_;have aI:ad aa ge bR [Δ a.i,ax,.slice ν 0 0]:=aI;have aO:Ext V aa:=an.put ce Ω;rw[av aW.p 6 (aB.ext aO).du rfl,aU af.u (aG.ls.ext aO)];refine bA.range l.length (λi aq au=>Ext V au/\ad au ge bR [Δ a.i,ax,.slice ν 0 0]/\ ∃m:Int,aq=Δ m/\m=aJ (hz n (l.take i))/\0<=m/\m<=32 ^ i) Ω ⟨aO,aI,1,rfl,rfl,Ω,Ω⟩ ?_ ?_
 .rintro i _ au cg hi ⟨ah,aw,m,rfl,hm,aP,bm⟩ ch;obtain⟨x,aS⟩:=aN (l:=l) hi;have cM:(32:Int) ^ i<=32 ^ 3:=by
   have:=R5 (show 1<=32 by omega) (show i<=3 by omega);have ci:=Int.ofNat_le.2 this;simpa using ci
  refine bk Ω ?_;refine aR (λaq W=>Ext V W/\ad W ge bR [Δ a.i,ax,.slice ν 0 0]/\ ∃m:Int,aq=Δ m/\m=aJ (hz n (l.take (i+1)))/\0<=m/\m<=32 ^ (i+1)) ?_ ?_
  .rintro aq W cj;rw[aL];exact ch _ _ cj
  intro cN bn;have ck:=a6.ext ah;rw[bf af.u ac.i Ψ (aG.ls.ext ah) aS,bu];refine ck.load λcO cl=>?_;refine (qt (i:=x) cl).mono ?_;rintro _ W _ ⟨rfl,ae⟩;have aT:=ah.trans ae;rw[ak];refine⟨λcm=>?_,λcn=>bn _ _ ⟨aT,aw.ext ae,m,rfl,?_,aP,?_⟩⟩
  .obtain⟨szv,cQ,cR,cS,cT,cU,cp,cq,_⟩:=a6.ext aT;obtain⟨z,aV⟩:=aN (l:=n.sizes) (i:=x.toNat) Ω;have cr:=bx z (x5 aV);have bo:0<=m*z/\m*z<=32 ^ i*32:=⟨Int.mul_nonneg aP Ω,Int.mul_le_mul bm cr.2 Ω Ω⟩;rw[aK aD.p 1 cp rfl,dY (y:=x) (i:=x.toNat) Ω af.u ac.i Ψ cq aV,fL,wrap_i64 Ω Ω];refine bn _ _ ⟨aT,aw.ext ae,_,rfl,?_,bo.1,bo.2⟩;rw[sR aS,if_pos cm,rU,<-hm,u9,aV];rfl
  .rw[sR aS,if_neg cn,X6];exact hm
  .rw[Int.pow_succ];have:(0:Int)<=32 ^ i:=Int.pow_nonneg Ω;omega
 rintro _ au cg ⟨ah,aw,m,rfl,hm,aP,bm⟩;rw[o9] at hm;refine b2 Ω ?_;rw[iW];obtain⟨q,bp⟩:∃q:Nat,min m 100=q:=⟨(min m 100).toNat,Ω⟩;have cV:q<=100:=Ω
 rw[bp];rw[<-hm,bp,j0] at aH;refine b0.range q (λi W=>Ext V W/\ ∃bv g,ad W ge bR [Δ a.i,ax,bv]/\ao .i64 ac W g bv (kG i)/\ ∀r,leads bv r->V.heap.size<=r/\r≠ge) Ω ⟨ah,_,0,aw,ao.nil _ _ _ _,λr J=>by obtain⟨a,n,c,ct,cW⟩:=J;cases ct⟩ ?_ ?_
 .rintro i W cu hi ⟨ae,bv,g,aj,aX,al⟩ cw;refine bk Ω ?_;rw[av bR.p 2 aj rfl,kc Ω,Int.tmod_eq_emod_of_nonneg Ω,dj,wrap_i64 Ω Ω];refine dJ (k:=.i64) af.u ac.i rfl λv5 cX cY cZ az cz=>?_;have c1:(kG i).length=i:=by unfold kG;simp
  refine fc af.u ac.i rfl (aX.ext az) cz.ls Θ Θ λaY cA cB a1 cC bq=>?_;have z4:=ae.size;have z5:=az.size;have cD:Ext V cB:=(ae.trans az).then bq λr J he=>by have:=(al r he).1;omega
  have cE:=(aj.ext az).ab bq λhe=>(al ge he).2 rfl;rw[aM bR.p rfl];refine bj (o:=0+2) af.i a1.ls.cells.1 a1.ls.cells.2 cE Ξ λcF br c2 a2=>?_;have a2:ad cF ge bR [Δ a.i,ax,aY]:=a2;have c3:=aj.lt;have bw:∀r,leads aY r->V.heap.size<=r/\r≠ge:=λr J=>(cC r J).elim (al r) λh=>Ω
  rw[aL];refine cw _ ⟨cD.then br λr J he=>by have he:r=ge:=he;omega,aY,cA,a2,?_,bw⟩;have e:kG (i+1)=kG i++[((i:Int) % 2)-1]:=by unfold kG;rw[List.range_succ,j9];simp
  rw[e];exact be a1 br λr J he=>(bw r J).2 he
 .rintro W cu ⟨ae,bv,g,aj,aX,al⟩;rw[aQ,ak];refine⟨λh=>Ω,λ_=>a8 W bv ae aj ⟨g,by rw[aH];exact aX⟩ λr J=>by have:=(al r J).1;omega⟩
end
def iO (n:aY) (a:dn):hx:=⟨a.i,a.sc.take 4,jT n a⟩
open Classical in
noncomputable def lu (n:aY) (s:aB) (a:dn):aB:=if nu n s (iO n a) then iN s (iO n a) else s
section
variable {w0 w:x2} {aj ag am aZ:Nat} {A R:ah} {A9:Nat->ah} {aP:ah} {n:aY} {s:aB} {t:aC} {h:List aC} {cs:List y0} {a:dn} {aF ax cP:y0} {Q:y0->x2->Prop}
theorem MO (p:bV w0 aj ag am A R A9 aP n s s t h cs) (bZ:t.olds.length+2<=100000000) (cn:s.elims.length<=1000) (bx:Ext w0 w) (bB:eG w aZ n.k a aF ax cP w0.heap.size) (b1:∀w',jo w0 aj ag am A R A9 aP n (lu n s a) t h w'->Q (.bool true) w'):
  U x3 (x8 aW (Γ aZ) 1) w λcp=>
       U x3 (x7 ac cp) w λcq=>
       U x3 (x8 aW (Γ aZ) 6) w λcr=>
       U x3 (x7 af cr) w λct=>
       U x3 (x8 aW (Γ aZ) 5) w λcu=>
       U x3 (x7 af cu) w λcw=>
       U x3 (Instr.build bR #[(0,cq),(1,ct),(2,cw)]) w λcz=>
       ay x3 (S8 bR true (.tuple #[])) w λe cA=>
       ay x3 (o7 bR e cz) cA λ(_:Unit) aI=>
       bJ (α:=x2->Prop) (λ(aJ:x2)=>
        bJ (α:=y0->x2->Prop) (λ(cB:y0) (b2:x2)=>
         U x3 (x7 bR e) b2 λcC=>
         ai x3 xS [Γ aj,cC] b2 λcD b3=>
         U x3 (aA .eql e5 false false cD cB) b3 λcE=>
         Q cE b3) λb4=>
        cK aJ λaX=>
        U x3 (bd (Γ am)) aX λcF=>
        U x3 (x7 aD cF) aX λcG=>
        U x3 (x7 bR e) aX λcH=>
        ai x3 xR [cG,cH] aX λcI bC=>
        U x3 (Op.unary .not cI) bC λcL=>
        Split cL (b4 (Δ 1) bC)
        (cK bC λaw=>
        U x3 (bd (Γ am)) aw λbD=>
        U x3 (x8 aD bD 7) aw λbE=>
        U x3 (x7 eA bE) aw λb5=>
        U x3 (x7 bR e) aw λcM=>
        ay x3 (Y1 eA 1 #[(0,cM)]) aw λcN aL=>
         (Ext aw aL\/bw x3 (x7 eA bE) b5 aL/\bw x3 (x8 aD bD 7) bE aL/\bw x3 (bd (Γ am)) bD aL/\True)/\
        ay x3 (j4 #[eA,eA] eA #[b5,cN]) aL λcO bF=>
         U x3 (bd (Γ am)) bF λcQ=>
         U x3 (x8 aD cQ 7) bF λcR=>
         ay x3 (o7 eA cR cO) bF λ(_:Unit) cS=>
          cK cS λap=>
        U x3 (bd (Γ am)) ap λcT=>
        U x3 (x8 aD cT 4) ap λcU=>
        U x3 (x7 e4 cU) ap λcV=>
        U x3 (x8 aW (Γ aZ) 1) ap λcW=>
        U x3 (x7 ac cW) ap λcX=>
        U x3 (l7 e4 cV cX) ap λcY=>
        ay x3 (o7 ec cY (.bool true)) ap λ(_:Unit) cZ=>
         b4 (Δ 0) cZ)) λb6=>
       U x3 (x8 aW (Γ aZ) 8) aI λc1=>
       U x3 (x7 ec c1) aI λc2=>
       Split c2 (U x3 (x8 bR e 2) aI λc3=>
       ay x3 (o7 af c3 (.slice ν 0 0)) aI λ(_:Unit) aY=>
       U x3 (x8 aW (Γ aZ) 6) aY λc4=>
       U x3 (x7 af c4) aY λb8=>
       U x3 (X0 #[af] ac #[b8]) aY λc5=>
       bA (Δ 1) (Δ 0) aY λn bG ak c6=>
        U x3 (aA .lss ac false false bG c5) ak λc7=>
        Split c7 (bJ (α:=y0->x2->Prop) (λ(c9:y0) (b9:x2)=>
         U x3 (aA .add ac false true bG (Δ 1)) b9 λda=>
         c6 c9 da b9) λca=>
        U x3 (l7 af b8 bG) ak λdb=>
        U x3 (x7 ac db) ak λcb=>
        U x3 (bd (Γ am)) ak λdc=>
        U x3 (x7 aD dc) ak λdd=>
        ai x3 nP [dd,cb] ak λde al=>
        Split de (U x3 (bd (Γ am)) al λdf=>
         U x3 (x8 aD df 1) al λdg=>
         U x3 (x7 af dg) al λdh=>
         U x3 (l7 af dh cb) al λdi=>
         U x3 (x7 ac di) al λdj=>
         U x3 (aA .mul ac false false n dj) al λdk=>
         ca dk al)
         (ca n al))
         (U x3 (j5.min_ #[ac,ac] ac #[n,(Δ 100)]) ak λdl=>
       b0 (Δ 0) ak λbH aq dm=>
        U x3 (aA .lss ac false false bH dl) aq λdn=>
        Split dn (U x3 (x8 bR e 2) aq λdp=>
        U x3 (x7 af dp) aq λdq=>
        U x3 (aA .rem ac false true bH (Δ 2)) aq λdr=>
        U x3 (aA .sub ac false true dr (Δ 1)) aq λds=>
        ay x3 (Y1 af 1 #[(0,ds)]) aq λdt dw=>
        ay x3 (j4 #[af,af] af #[dq,dt]) dw λdx cc=>
        U x3 (x8 bR e 2) cc λdy=>
        ay x3 (o7 af dy dx) cc λ(_:Unit) cd=>
        U x3 (aA .add ac false true bH (Δ 1)) cd λdz=>
        dm dz cd)
         (b6 aq)))
       (b6 aI):=by
 have a1:=p.cJ.2.2.2.1;have eh:=p.box.lt;have z0:=bx.size;obtain⟨bI,⟨ei,ce⟩,⟨ek,bL⟩,em,a2⟩:=id bB;rw[av aW.p 1 bI rfl,av aW.p 6 bI rfl,av aW.p 5 bI rfl,
  c8 (cs:=#[Δ a.i,ax,aF]) (by obtain⟨_,_,_,rfl⟩:=b7 bL.ls;obtain⟨_,_,_,rfl⟩:=b7 ce.ls;kernel_rfl)]
 refine bp bR.i λge V en dA dC=>?_;refine bK (vs:=[Δ a.i,ax,aF]) bR.i rfl rfl ?_ dC λaa dD eo dE=>?_
 .intro u hu;simp at hu;rcases hu with rfl|rfl|rfl
  .rfl
  .exact bL.ls.cells.2
  .exact ce.ls.cells.2
 have dF:Ext w aa:=dA.put dD Ω;refine dv (λaJ=>∃bv,Ext w aJ/\ad aJ ge bR [Δ a.i,ax,bv]/\(∃g,ao .i64 ac aJ g bv (jT n a))/\ ∀r,leads bv r->w0.heap.size<=r) ?_ ?_
 rotate_left
 .intro cg aM;exact MN (p.ext bx).look a1.ej.2.2 bB dE Ω Ω dF λw' bv h1 X bM dG=>aM _ ⟨bv,h1,X,bM,dG⟩
 rintro dH ⟨bv,bN,a6,⟨ep,a8⟩,ba⟩;have aN:=bx.trans bN;have bb:=bL.ext bN;have bc:(jT n a).length<=1000000:=by
  unfold jT kG;split
  .rw[u5,List.length_range];omega
  .rw[o5];omega
 have ch:(a.sc.take 4).length<=1000000:=by rw[o5];omega
 have aO:∀ {ci:x2},ad ci ge bR [Δ a.i,ax,bv]-> ∀ {K:y0->Prop},U x3 (x7 bR (Γ ge)) ci K=K (.agg #[Δ a.i,ax,bv]):=λaQ=>br bR.p bR.i rfl aQ.range;by_cases an:nu n s (iO n a)
 rotate_left
 .refine aR (λv Y=>v=Δ 1/\Ext dH Y) ?_ ?_
  .rintro _ Y ⟨rfl,W⟩;rw[aO (a6.ext W)];refine (CR (e:=iO n a) (p.ext (aN.trans W)).cJ bZ (bb.ls.ext W) (a8.ls.ext W) bc ch Ω).mono ?_;rintro v bO _ ⟨h1,_⟩;obtain⟨rfl,aS⟩:=h1 an;rw[bn];exact b1 _ (by unfold lu;rw[if_neg an];exact kD p ((aN.trans W).trans aS))
  .intro cg aM Y W _ _;rw[bu];refine (p.ext (aN.trans W)).look.load λdI bP=>?_;rw[aO (a6.ext W)];refine (CN (e:=iO n a) bP a1 (bb.ls.ext W) (a8.ls.ext W) bc).mono ?_;rintro _ bO _ ⟨⟨b,rfl,aQ⟩,aS⟩;rw[bg,bt];exact⟨λ_=>aM _ _ ⟨rfl,W.trans aS⟩,λdJ=>absurd (aQ.1 (by simpa using dJ)) an⟩
 refine aR (λv Y=>v=Δ 0/\ae (λr=>(∃q,A9 q r)\/r=am) w0 Y/\ad Y ge bR [Δ a.i,ax,bv]/\aH .i64 Y ax (a.sc.take 4)/\aH .i64 Y bv (jT n a)/\ ∃bm R9' bo,bV Y aj ag am A R bm R9' n s (iN s (iO n a)) t h bo/\(∀q r,bm q r->(∃bQ,A9 bQ r)\/w0.heap.size<=r)/\(∀r,aP r->R9' r)/\ ∀r,R9' r->aP r\/w0.heap.size<=r) ?_ ?_
 .rintro _ Y ⟨rfl,bS,dK,dL,dM,bm,R9',bo,bf,dN,dO,dP⟩;rw[aO dK];refine (CR (e:=iO n a) bf.cJ bZ dL dM bc ch Ω).mono ?_;rintro v bO _ ⟨_,X⟩;obtain⟨rfl,cj,aG,R',x,y,q,bT,dQ,er,ck⟩:=X an;have z4:=bS.size;obtain⟨dR,es,et⟩:=qy (t:=t) (i:=2) (x:=x);obtain⟨f1,f2,f3⟩:=qy (t:=t.set 2 x) (i:=q) (x:=y);rw[bn];refine b1 _ ?_;unfold lu;rw[if_pos an];exact⟨aG,R',_,R9',_,bo,bf.prog cj bT dQ bf.hV.set.set ck (λ_ _ _ h=>h) bf.box.lt,(bS.mono λr _ h=>.inr h).trans (bT.1.mono λr _ h=>.inl h),λr J=>(bT.2.1 r J).imp id λh=>Ω,λr J=>(ck r J).imp id λh=>Ω,dO,dP,λq r J=>dN q r J.1,f1.trans dR,Ω,Ω,we bS cj,(aC.oN _ _ _).trans (aC.oN _ _ _)⟩
 intro cg aM Y W _ _;rw[bu];have dS:=aN.trans W;refine (p.ext dS).look.load λdI bP=>?_;rw[aO (a6.ext W)];refine (CN (e:=iO n a) bP a1 (bb.ls.ext W) (a8.ls.ext W) bc).mono ?_;rintro _ bO _ ⟨⟨b,rfl,aQ⟩,aS⟩;rw[aQ.2 an,bg,bt];refine⟨λh=>by simp at h,λ_=>?_⟩;intro dT dU _ _;have aT:=(W.trans aS).trans dU;have bU:=aN.trans aT;have bW:=a6.ext aT;have bh:=bb.ext aT;have bj:=a8.ext aT;have eu:=bU.size;have bX:=(p.olds.ext bU).reads (R9':=λr=>aP r\/leads ax r\/leads bv r) (λr h=>.inl h) λr J=>by
  rcases J with J|J|J
  .exact .inl J
  .obtain⟨c,aU⟩:=jQ bh r J;have:=a2 r (.inr J);exact .inr ⟨qp aU Φ,aU.lt,Ω,λq h=>by have:=h.2;omega⟩
  .obtain⟨c,aU⟩:=jQ bj r J;have:=ba r J;exact .inr ⟨qp aU Φ,aU.lt,Ω,λq h=>by have:=h.2;omega⟩
 obtain⟨ev,cl⟩:=bX.doc.at 7 Ω;rw[aK aD.p 7 bX.box cl,aO bW];have own:bi (α:=hW) (λ_=>False) (λr=>aP r\/leads ax r\/leads bv r) dT [Δ a.i,ax,bv] (iM (iO n a)):=
  ⟨[Δ a.i],[ax,bv],λ_=>False,λ_=>False,rfl,λ_ h=>h,λ_ h=>h,λ_ _ h=>h.elim,rfl,[ax],[bv],λ_=>False,λ_=>False,rfl,λ_ h=>h,λ_ h=>h,λ_ _ h=>h.elim,lb bh λr h=>.inr (.inl h),lb bj λr h=>.inr (.inr h)⟩
 refine hp eA.u bR.i Φ rfl own λew ey ah _ dV=>?_;refine⟨.inl ah,?_⟩;have ez:=ah.size;simp only[bu];refine ML (bX.ext ah) (λq r h=>by have:=h.2;omega) cl dV (a7 own ah) cn λbm bo dW az dX aV=>?_;have bk:∀r,(A9 4 r/\r<w0.heap.size\/r=am)->r<w0.heap.size:=λr J=>J.elim (λh=>h.2) λh=>Ω
 have dY:=((bB.ext bN).ext (aT.trans ah)).ab az λr _ h=>bk r h;have dZ:=(bW.ext ah).ab az λh=>by have:=bk ge h;omega
 have ea:=be (bh.ext ah) az λr J h=>by have:=bk r h;have:=a2 r (.inr J);omega
 have ed:=be (bj.ext ah) az λr J h=>by have:=bk r h;have:=ba r J;omega
 intro eB au _ _;have bY:=dX.olds.ext au;have eC:=az.size;have z9:=au.size;obtain⟨eD,cm⟩:=bY.doc.at 4 Ω;have eE:=a1.vars;obtain⟨x,bl⟩:∃x,s.vars[a.i.toNat]? =σ x:=⟨_,x6 (by have:0<=a.i/\a.i<n.sizes.length:=an.has;omega)⟩;have ee:a.i=((a.i.toNat:Nat):Int):=by have:0<=a.i/\a.i<n.sizes.length:=an.has;omega
 have aE:iN s (iO n a)={({s with elims:=s.elims++[iO n a]}:aB) with vars:=s.vars.set a.i.toNat {x with gone:=1}}:=by
  unfold iN;rw[show (iO n a).v=a.i from rfl,bl]
 rw[av aD.p 4 bY.box cm,av aW.p 1 (dY.ext au).du rfl];refine MM (u':=iN s (iO n a)) bY (λq r h=>by have:=h.2;omega) cm ee (by exact (x4.1 bl).1) (by rw[aE]) (by rw[aE];exact oW bl rfl) (by rw[aE];exact oW bl rfl) (by rw[aE]) (by rw[aE]) (by rw[aE];exact T8 ..) λeF bq ef=>?_;have eg:∀r,(bm 1 r/\r<dW.heap.size)->(∃bQ,A9 bQ r)\/w0.heap.size<=r:=λr J=>(aV 1 r J.1).elim (λh=>.inl ⟨1,h.1⟩) λh=>.inr Ω;refine aM _ _ ⟨rfl,gy ((((bU.trans ah).ab _).trans (az.mono λr _ h=>h.imp (λh=>⟨4,h.1⟩) id)).trans (au.ab _)) bq λr J h=>(eg r h).elim .inl λX=>Ω,?_,?_,?_,_,_,bo,ef,λq r J=>(aV q r J.1).elim (λh=>.inl ⟨q,h.1⟩) λh=>.inr Ω,λr J=>.inl J,λr J=>?_⟩
 .exact (dZ.ext au).ab bq λh=>by
   rcases aV 1 ge h.1 with X|X
   .have:=X.2;omega
   .have:=bW.lt;omega
 .exact (be (ea.ext au) bq λr J h=>by
   rcases aV 1 r h.1 with X|X
   .have:=X.2;have:=a2 r (.inr J);omega
   .obtain⟨_,bM⟩:=bz bh J;omega).ls
 .exact (be (ed.ext au) bq λr J h=>by
   rcases aV 1 r h.1 with X|X
   .have:=X.2;have:=ba r J;omega
   .obtain⟨_,bM⟩:=bz bj J;omega).ls
 .rcases J with J|J|J
  .exact .inl J
  .exact .inr (a2 r (.inr J))
  .exact .inr (ba r J)
end
theorem wj {n:aY} {s:aB} {V:Λ}:kF n s sc V↔2<=sc.length/\kC n s sc/\V=bI n.sizes sc:=by
 unfold kF bI;constructor
 .rintro⟨h1,Y,W,X⟩;refine⟨h1,W,W5 λi=>?_⟩;rw[u4];by_cases hi:i<sc.length
  .obtain⟨v,U⟩:=aN (l:=sc) hi;obtain⟨z,J⟩:=aN (l:=V) (i:=i) Ω;rw[U,J,Y4,X i v z U J]
  .rw[Y9 Ω,Y9 Ω];rfl
 .rintro⟨h1,W,rfl⟩;refine⟨h1,by rw[u5],W,λi v z U J=>?_⟩;rw[u4,U,Y4] at J;exact Z9 J
theorem MP {n:aY} {s:aB} (h:kC n s l):l.Pairwise (·< ·):=by
 have step:∀i x y,l[i]? =σ x->l[i+1]? =σ y->x<y:=λi x y U J=>by
  obtain⟨v,V,_,_,_,X⟩:=h (i+1) (x4.1 J).1;rw[J] at V;cases V;have:=X Ω;rwa [Nat.add_sub_cancel,u9,U] at this
 have all:∀d i x y,l[i]? =σ x->l[i+d+1]? =σ y->x<y:=λd=>by
  induction d with
  |zero=>exact step
  |succ d Y=>
   intro i x y U J;obtain⟨z,W⟩:∃z,l[i+d+1]? =σ z:=⟨_,x6 (by have:=(x4.1 J).1;omega)⟩;exact Int.lt_trans (Y i x z U W) (step _ z y W J)
 rw[U3];intro i j hi aa ab;exact all (j-i-1) i _ _ (x6 hi) (by rw[show i+(j-i-1)+1=j by omega];exact x6 aa)
section
variable {w:x2} {aj ag:Nat} {A R:ah} {n:aY} {s:aB} {t:aC}
theorem MQ {ah:y0} {szs cs:Λ} {g ao:Nat} (h:ci w aj ag A R n s t) (ac:aH .i64 w ax sc) (aJ:∀r,leads ax r->¬A r) (ab:cV w g ao ah szs n.k cs) (aK:¬A g/\¬A ao/\ ∀r,leads ah r->¬A r) (aL:sc.length<=6) (aM:∀c∈cs,0<=c/\c<=n.k)
  (aN:t.cells.length+cs.length+1<=100000000) (bB:t.olds.length+cs.length+2<=100000000) (U:s.funs.length<=1000000):
  ai x3 tM [Γ aj,ax,Γ g] w λr w'=>(¬kF n s sc szs->r= .tuple #[Δ 0,Δ 1]/\Ext w w')/\
   (kF n s sc szs->r= .tuple #[Δ (s.funs.length:Int),Δ 0]/\ae (cI w) w w'/\ ∃aG R',Grow A w aG w'/\ci w' aj ag aG R' n (gl s sc szs cs) (lj s t cs)/\(∀r,R r->R' r)/\ ∀r,R' r->R r\/leads ah r\/w.heap.size<=r):=by
 obtain⟨_,Y,ap,W,aO⟩:=id h;refine az func54 ?_;rw[cR et.u];simp only[Z7,aT];refine aR (λv V=>∃b,v= .bool b/\(b=false↔kF n s sc szs)/\Ext w V) ?_ ?_
 rotate_left
 .intro bC al;rw[aU af.u ac,aQ,ak];refine⟨λbD=>al _ _ ⟨true,rfl,⟨(λh=>by cases h),λh=>by have:=h.1;omega⟩,Ext.refl _⟩,λbE=>?_⟩;refine (Cw h ac).mono ?_;rintro _ V _ ⟨⟨b,rfl,aq⟩,J⟩;rw[bg,bt];refine⟨λad=>al _ _ ⟨true,rfl,⟨(λh=>by cases h),λh=>by rw[aq.2 h.2.2.1] at ad;cases ad⟩,J⟩,λaP=>?_⟩;have X:=aq.1 (by simpa using aP);rw[cR eB.u];simp only[Z7,aT];refine (uM (ab.ext J)).mono ?_;rintro _ aa _ ⟨rfl,aS⟩;have au:=J.trans aS;refine (nr (h.ext au)).mono ?_;rintro _ bF _ ⟨rfl,aV⟩;have av:=au.trans aV;rw[bH,ak];refine⟨λaW=>absurd rfl aW,λ_=>?_⟩;refine (mZ (ab.ext av)).mono ?_;rintro _ bG _ ⟨rfl,aX⟩;have aw:=av.trans aX;obtain⟨⟨aI,gs,_,aY,_⟩,_,aZ,_⟩:=id ab;refine (uN (aY.ls.ext aw) (by have:=aZ.1;omega)).mono ?_;rintro v5 bI _ ⟨a1,bJ,bK,a2⟩;have am:=aw.trans a1;refine (CO (h.ext am) (ac.ext am) (λx a6=>(sQ X x a6).1) Ω).mono ?_;rintro bL bM _ ⟨ay,bN,a7,_⟩;refine (k4 (a2.ls.ext ay) a7.ls).mono ?_;rintro _ bO _ ⟨rfl,a8⟩;rw[bg];exact al _ _ ⟨_,rfl,⟨λh=>wj.2 ⟨Ω,X,by simpa using h⟩,λh=>by rw[decide_eq_true (wj.1 h).2.2];rfl⟩,(am.trans ay).trans a8⟩
 rintro _ V ⟨b,rfl,aA,J⟩;rw[bt];refine⟨λaB=>⟨λ_=>⟨by trivial,J⟩,λX=>by rw[aA.2 X] at aB;cases aB⟩,λba=>?_⟩;have X:=aA.1 ba;obtain⟨bb,aD,an⟩:=wj.1 X;obtain⟨bc,bd,bP,be,bf⟩:=(h.ext J).1;refine (BW bf Y (ac.ext J) aJ (ab.ext J) aK Ω aN Ω ap.2.2 U).mono ?_;rintro _ aa _ ⟨rfl,bh,aG,R',bi,bj,bk,bl,bm⟩;obtain⟨_,⟨_,_,bn⟩,bQ,bo⟩:=id ab;have bp:=qe t (1::cs) (1::cs).length;have bq:=qf t (1::cs) (1::cs).length;have br:=nl t (1::cs) (1::cs).length;simp only[Z5] at bp bq;obtain⟨bu,bw,aE⟩:=qy (t:=hU t (1::cs)) (i:=1) (x:=((s.funs.length+1:Nat):Int));have bx:ji (lj s t cs):=by
  refine⟨?_,?_,?_⟩
  .show (aC.set _ _ _).cells.length<=_;rw[bw];unfold hU;simp only[Z5];omega
  .show (aC.set _ _ _).olds.length<=_;unfold hU at aE ⊢;simp only[Z5] at aE ⊢;omega
  .show (aC.set _ _ _).marks.length<=_;rw[bu];unfold hU;rw[br];exact ap.2.2
 have aF:=sQ aD;have bz:dA n.k n.sizes (gl s sc szs cs):=by
  refine⟨W.kv,W.ej,W.zero,W.vars,W.var,λf U=>?_⟩;have U:f∈s.funs++[(⟨sc,szs,1,cs⟩:dE)]:=U;rcases l5.1 U with U|U
  .exact W.funs f U
  .obtain rfl:=l9.1 U;exact⟨⟨⟨λv Y=>by have:=aF v Y;have:=W.ej.2.1;omega,aL⟩,MP aD,λv Y=>(aF v Y).2,by rw[<-an];exact bo,by rw[<-an];exact bn,aM⟩,an,bb⟩
 have bR:=J.size;exact⟨λad=>absurd X ad,λ_=>⟨by trivial,kx J bh,aG,R',(Grow.ext J).trans bj,⟨⟨bc,bd,bi,be,bk⟩,BV Y,bx,bz,aO⟩,bl,λr bA=>(bm r bA).imp id λh=>h.imp id λh=>Ω⟩⟩
end
section
variable {w w':x2} {aj ag am:Nat} {A R:ah} {A9:Nat->ah} {aP R9' B:ah} {n:aY} {s u u':aB} {t:aC} {h:List aC} {cs:List y0} {v:y0}
theorem MR {ap:o4} {y:y0} {xs:List y0} {f:dE} {K:x2->Prop} (p:bV w aj ag am A R A9 aP n s u t h cs) (aq:∀q r,A9 q r->r<w.heap.size) (X:cs[6]? =σ v) (J:b6 w 4 y 1 xs) (au:bi B aP w xs (eo f)) (W:∀r,B r->¬A r/\¬R r/\r≠am/\¬aP r/\ ∀q,¬A9 q r) (aH:u.funs.length<=1000)
  (av:∀bm bo w',ae (λr=>A9 3 r\/r=am) w w'->bV w' aj ag am A R bm aP n s {u with funs:=u.funs++[f]} t h bo->(∀q r,bm q r->A9 q r\/B r\/w.heap.size<=r)->K w'):
  ay x3 (j4 #[b8,b8] ap #[v,y]) w λad aa=>U x3 (x8 aD (Γ am) 6) aa λaw=>ay x3 (o7 b8 aw ad) aa λ_ Y=>K Y:=by
 obtain⟨szv,aI,aJ,aK,ax,af,az,h1,ah,ai,aL,aA,aM,ab⟩:=id p.doc;obtain⟨ab,ak⟩:=ab rfl;have af:v=ax:=by rw[az] at X;exact (Z9 X).symm
 subst af;have aN:=p.box.lt;have aB:∀r,aP r->r<w.heap.size:=λr h=>(p.read r h).2.1;have al:=qx p.cJ;refine ln (pl:=_) (l:=u.funs.map eo) aD.p rfl b8.u b8.i bT.i rfl p.box X aA J au (λr V an=>⟨λh=>(W r h).2.2.2.2 3 an,ak 3 r an⟩) ⟨λh=>(p.apart 3 am h).2.2 rfl,λh=>(W am h).2.2.1 rfl,λh=>(p.read am h).2.2 rfl⟩ (by rw[u5];omega) (by rw[u5];omega) λad Y ac aC aE=>?_;have ao:=bq.gp p.doc (oX ac) (λr V=>?_) aE (λj r aF V=>?_) (λr V=>?_)
 .refine av _ _ Y ac (p.CF ac (λr V h=>h.imp (λh=>⟨3,h⟩) id) aC (u':={u with funs:=u.funs++[f]}) (by rw[<-List.map_singleton,<-j9] at ao;exact ao) λq r V=>?_) λq r V=>?_
  .unfold ef at V;split at V
   .rcases V with V|V|V
    .exact .inl ⟨3,V⟩
    .obtain⟨h1,ah,ai,_⟩:=W r V;exact .inr ⟨h1,ah,ai⟩
    .exact .inr ⟨λh=>by have:=al r (.inl h);omega,λh=>by have:=al r (.inr h);omega,Ω⟩
   .exact .inl ⟨q,V⟩
  .unfold ef at V;split at V
   .rename_i aG;subst aG;exact V
   .exact .inl V
 .rcases V.1 with h|rfl
  .exact .inl h
  .exact .inr ⟨λj h=>(p.apart j r h).2.2 rfl,λh=>(p.read r h).2.2 rfl⟩
 .rcases V with V|V|V
  .exact ab 3 j r (S6 aF) V
  .exact (W r V).2.2.2.2 j
  .exact λh=>by have:=aq j r h;omega
 .rcases V with V|V|V
  .exact ak 3 r V
  .exact (W r V).2.2.2.1
  .exact λh=>by have:=aB r h;omega
theorem MS {szs:Λ} {i:Nat} (h:i<(aJ szs).toNat):(ic szs k l)[i]? =σ (jE k l[i]?):=by
 simp[ic,h]
theorem MT {L co:Λ} {gz ak aV:Nat} {aa aI:y0} {az:List y0} (aB:ao .i64 ac w gz aa L) (J:bZ L) (bE:aJ L<=600) (hk:right k) (aC:ad w ak dO [aa,Δ k,aI]) (aE:ao .i64 an w aV aI (ic L k co))
  (aW:ad w am aD az) (aX:az[0]? =σ (Δ k))
  (aY:∀w' g V aG,Ext w w'->cV w' g V aG L k (ic L k co)->w.heap.size<=g->w.heap.size<=V->(∀r,leads aG r->w.heap.size<=r)->K (Γ g) w'):
  U x3 (bd (Γ am)) w λaZ=>
        U x3 (x8 aD aZ 0) w λa1=>
        U x3 (x7 an a1) w λa2=>
        ai x3 tJ [aa,a2,(Δ 0)] w λaH ap=>
        U x3 (Y0 aH 0) ap λaM=>
        U x3 (Y0 aH 1) ap λbF=>
        ai x3 tK [aa] ap λaN aO=>
        U x3 (X0 #[cj] ac #[aN]) aO λa6=>
        b0 (Δ 0) aO λag W a7=>
         U x3 (aA .lss ac false false ag a6) W λa8=>
         Split a8 (U x3 (l7 cj aN ag) W λba=>
         U x3 (x7 af ba) W λbb=>
         U x3 (x8 dO (Γ ak) 2) W λbc=>
         U x3 (x7 au bc) W λbg=>
         U x3 (l7 au bg ag) W λbi=>
         U x3 (x7 an bi) W λbj=>
         ai x3 tL [aM,bb,bj] W λbG aP=>
         U x3 (aA .add ac false true ag (Δ 1)) aP λbl=>
         a7 bl aP)
         (K aM W):=by
 have bH:=hk.1;have bI:=hk.2;rw[aK aD.p 0 aW aX];refine (rz aB.ls).mono ?_;rintro v aQ _ ⟨aq,_,_,_,bm⟩;obtain⟨g,V,sv,rfl,bn,bo,bp,aw⟩:=bm J Ω ⟨hk,Ω,Ω⟩;rw[bL,bM];refine (oe _ ((aB.ext aq).ls) J).mono ?_;rintro dk aR _ ⟨aS,ah⟩;rw[eh cj.u ah];have bJ:=aq.size;have ah:=k1 ah;have bq:=hq J.2;have bK:=prod_bound J;have bN:=aw.2.2.2;have bO:V<aQ.heap.size:=by obtain⟨⟨_,_,_,_,br⟩,_⟩:=aw;exact oF br Θ
 have ax:Ext w aR:=aq.trans aS;have bP:=aC.lt;refine b0.range (bh L).length (λi Y=>ae (λr=>r=V) aR Y/\cV Y g V sv L k (upto (ic L k co) 0 i)) Ω
  ⟨ae.refl _ _,by rw[oj,rW];exact aw.ext aS⟩ ?_ ?_
 .rintro i Y bt hi ⟨X,aj⟩ bu;refine bk Ω ?_;have aT:(i:Int)<aJ L:=Ω
  have bw:=al.ab ah X λr ay h he=>by
   have he:r=V:=he;rcases h with h|h
   .have:=h.1;have:aQ.heap.size<=r:=this;omega
   .exact h
  refine hE rfl rfl cj.u af.i Ψ bw (mU J.2 aT) λaF bx=>?_;have bA:=(aC.ext ax).ab X λh=>by have h:ak=V:=h;omega
  have aU:=MS (szs:=L) (l:=co) (k:=k) (i:=i) Ω;have bB:=be (aE.ext ax) X λr ay he=>by have he:r=V:=he;obtain⟨bQ,bR⟩:=bz aE ay;omega
  rw[av dO.p 2 bA rfl,bf au.u an.i Ψ bB.ls aU];refine (yQ (k:=k) aj (c4 bx)).mono ?_;rintro _ bS _ ⟨rfl,bC,bD⟩;rw[aL];refine bu _ ⟨X.trans bC,?_⟩;have e:n3 L (cF L i) k (jE k co[i]?) (upto (ic L k co) 0 i)=upto (ic L k co) 0 (i+1):=by
   unfold n3;rw[pB J.2 Ω aT];simp only;rw[if_pos ⟨hk,zV Ω _⟩,j0,om aU]
  rw[<-e];exact bD
 .rintro Y bt ⟨X,aj⟩;refine b2 Ω ?_;rw[bq,<-rW L k co,ol] at aj;exact aY Y g V sv (ax.then X λr ay h=>by have h:r=V:=h;omega) aj bn bo bp
end
theorem MU (J:∀v g w',g=w.heap.size->Ext w w'->ao .i64 ac w' g v []->K v w'):ay x3 (Y1 af 0 #[]) w K:=
 n8 (l:=[]) af.u ac.i Ω rfl Ψ J
def iP (n:aY) (a:dn):Λ:=match hz n (a.sc.take 4) with
 |[]=>[]
 |z::r=>(if a.v.tmod 5=0 then 1+z.tmod 3 else z)::r
theorem wk {n:aY} (U:∀z∈n.sizes,1<=z/\z<=32) (l:Λ):(hz n l).length<=l.length/\ ∀z∈hz n l,1<=z/\z<=32:=by
 unfold hz;refine⟨by rw[u5];exact S5 _ _,λz V=>?_⟩;obtain⟨v,W,rfl⟩:=Z6.1 V;have h:=(List.mem_filter.1 W).2;have h:=of_decide_eq_true h;obtain⟨y,J⟩:=aN (l:=n.sizes) (i:=v.toNat) Ω;rw[u9,J];exact U y (x5 J)
theorem MV {n:aY} {a:dn} (V:∀z∈n.sizes,1<=z/\z<=32):bZ (iP n a):=by
 obtain⟨h1,J⟩:=wk V (a.sc.take 4);rw[o5] at h1;unfold iP;split
 .exact⟨Ξ,Ξ⟩
 .rename_i z r e;rw[e] at h1 J;simp only[Z5] at h1;refine⟨by simp only[Z5];omega,λx U=>?_⟩;rcases T1.1 U with rfl|U
  .split
   .have:=J z (.head _);have:=Int.tmod_nonneg 3 (show 0<=z by omega);have:=Int.tmod_lt_of_pos z (show 0<(3:Int) by omega);omega
   .exact J z (.head _)
  .exact J x (.tail _ U)
section
variable {w:x2} {am aZ B:Nat} {n:aY} {s:aB} {a:dn} {aF ax cP:y0} {K:y0->x2->Prop}
theorem MW (aJ:jR w am n.k n.sizes s) (aM:∀z∈n.sizes,1<=z/\z<=32) (ba:eG w aZ n.k a aF ax cP B)
  (bb:∀W gz w',Ext w w'->ao .i64 ac w' gz W (iP n a)->(∀r,leads W r->w.heap.size<=r)->K W w'):
  ay x3 (Y1 af 0 #[]) w λbc an=>
      U x3 (x8 aW (Γ aZ) 6) an λbe=>
      U x3 (x7 af be) an λaO=>
      U x3 (X0 #[af] ac #[aO]) an λbg=>
      bA bc (Δ 0) an λsizes au X k=>
       U x3 (aA .lss ac false false au bg) X λbh=>
       Split bh (bJ (α:=y0->x2->Prop) (λ(bi:y0) (aP:x2)=>
        U x3 (aA .add ac false true au (Δ 1)) aP λbj=>
        k bi bj aP) λaQ=>
       U x3 (l7 af aO au) X λbl=>
       U x3 (x7 ac bl) X λaS=>
       U x3 (bd (Γ am)) X λbm=>
       U x3 (x7 aD bm) X λbo=>
       ai x3 nP [bo,aS] X λbp ab=>
       Split bp (U x3 (bd (Γ am)) ab λbq=>
       U x3 (x8 aD bq 1) ab λbr=>
       U x3 (x7 af br) ab λbw=>
       U x3 (l7 af bw aS) ab λbx=>
       U x3 (x7 ac bx) ab λbB=>
       ay x3 (Y1 af 1 #[(0,bB)]) ab λbC bD=>
       ay x3 (j4 #[af,af] af #[sizes,bC]) bD λbE bF=>
       aQ bE bF)
       (aQ sizes ab))
       (bJ (α:=x2->Prop) (λ(bG:x2)=>K sizes bG) λaT=>
      bJ (α:=y0->x2->Prop) (λ(bH:y0) (ad:x2)=>
       Split bH (U x3 (l7 af sizes (Δ 0)) ad λbI=>
       U x3 (x7 ac bI) ad λbK=>
       U x3 (aA .rem ac false true bK (Δ 3)) ad λbL=>
       U x3 (aA .add ac true false (Δ 1) bL) ad λbM=>
       U x3 (l7 af sizes (Δ 0)) ad λbN=>
       ay x3 (o7 ac bN bM) ad λ(_:Unit) bO=>
       aT bO)
       (aT ad)) λaV=>
      U x3 (X0 #[af] ac #[sizes]) X λbP=>
      U x3 (aA .gtr ac false true bP (Δ 0)) X λbQ=>
      Split bQ (U x3 (x8 aW (Γ aZ) 2) X λbR=>
      U x3 (x7 ac bR) X λbS=>
      U x3 (aA .rem ac false true bS (Δ 5)) X λbT=>
      U x3 (aA .eql ac false true bT (Δ 0)) X λbU=>
      aV bU X)
      (aV (.bool false) X)):=by
 obtain⟨aX,_,⟨ci,aw⟩,cj,ck⟩:=id ba;refine MU λcl g1 V cm ap aY=>?_;obtain⟨l,az⟩:∃l,l=a.sc.take 4:=⟨_,rfl⟩;rw[<-az] at aw;have cn:l.length<=4:=by rw[az,o5];omega
 have cp:=ap.size;rw[av aW.p 6 (aX.ext ap) rfl,aU af.u (aw.ls.ext ap)];refine bA.range l.length (λi W ah=>Ext w ah/\ ∃gz,ao .i64 ac ah gz W (hz n (l.take i))/\ ∀r,leads W r->w.heap.size<=r) Ω ⟨ap,g1,aY,λr aj=>by obtain⟨h1,_⟩:=bz aY aj;omega⟩ ?_ ?_
 .rintro i W ah bV hi ⟨ae,gz,aa,ag⟩ bW;obtain⟨x,aB⟩:=aN (l:=l) hi;refine bk Ω ?_;refine aR (λW Y=>Ext w Y/\ ∃gz,ao .i64 ac Y gz W (hz n (l.take (i+1)))/\ ∀r,leads W r->w.heap.size<=r) ?_ ?_
  .rintro W Y bX;rw[aL];exact bW _ _ bX
  intro bZ al;rw[bf af.u ac.i Ψ (aw.ls.ext ae) aB,bu];refine (aJ.ext ae).load λcq b0=>?_;refine (qt (i:=x) b0).mono ?_;rintro _ Y _ ⟨rfl,aC⟩;have aq:=ae.trans aC;rw[ak];refine⟨λb1=>?_,λa1=>al _ _ ⟨aq,gz,by rw[sR aB,if_neg a1,X6];exact aa.ext aC,ag⟩⟩;obtain⟨szv,cr,ct,cu,cw,cz,b3,b4,_⟩:=aJ.ext aq;obtain⟨z,aE⟩:=aN (l:=n.sizes) (i:=x.toNat) Ω;rw[aK aD.p 1 b3 rfl,dY (y:=x) (i:=x.toNat) Ω af.u ac.i Ψ b4 aE];refine dJ (k:=.i64) af.u ac.i rfl λv5 cA b5 cB aG aH=>?_;have cC:(hz n (l.take i)).length<=4:=by have:=(wk aM (l.take i)).1;rw[o5] at this;omega
  refine fc af.u ac.i rfl ((aa.ext aC).ext aG) aH.ls Θ Θ λcD b6 cE b7 b8 b9=>?_;have z4:=aq.size;have z5:=aG.size;refine al _ _ ⟨(aq.trans aG).then b9 λr aj he=>by have:=ag r he;omega,b6,?_,λr aj=>(b8 r aj).elim (ag r) λh=>Ω⟩;rw[sR aB,if_pos b1,u9,aE];exact b7
 rintro W ah bV ⟨ae,gz,aa,ag⟩;rw[o9,az] at aa;refine b2 Ω ?_;have ca:=wk aM (a.sc.take 4);refine dv (λY=>Ext w Y/\ao .i64 ac Y gz W (iP n a)) (λY h=>bb W gz Y h.1 h.2 ag) λbZ al=>?_;refine aR (λv Y=>ah=Y/\ ∃b,v= .bool b/\(b=true↔hz n (a.sc.take 4)≠[]/\a.v.tmod 5=0)) ?_ ?_
 .rintro _ Y ⟨rfl,b,rfl,a2⟩;rw[bt];refine⟨λcb=>?_,λa6=>al _ ⟨ae,?_⟩⟩
  .obtain⟨cc,aI⟩:=a2.1 cb;obtain⟨z,r,e⟩:=List.exists_cons_of_ne_nil cc;have J:iP n a=(1+z.tmod 3)::r:=by unfold iP;rw[e];simp only;rw[if_pos aI]
   rw[e] at aa;have aE:=ca.2 z (by rw[e];exact .head _);have:=Int.tmod_nonneg 3 (show 0<=z by omega);have:=Int.tmod_lt_of_pos z (show 0<(3:Int) by omega);have cd:(0:Int)=((0:Nat):Int):=rfl;rw[dY (y:=0) (i:=0) rfl af.u ac.i Ψ aa.ls rfl,kc Ω,aL,wrap_i64 Ω Ω,cd,hI rfl af.u ac.i aa Ξ];refine hJ ac.i aa Ξ λb5 ce cF aH=>al _ ⟨ae.then ce λr aj he=>?_,?_⟩
   .obtain⟨_,⟨_,cg⟩|⟨cap,full,ch,_⟩⟩:=aa
    .simp at cg
    .have he:r=gz:=he;have:=ag gz ⟨_,_,_,ch,rfl⟩;omega
   .rw[J];exact aH
  .have J:iP n a=hz n (a.sc.take 4):=by
    unfold iP;split
    .rename_i e;exact e.symm
    .rename_i z r e;rw[if_neg,e];intro aI;rw[a2.2 ⟨by rw[e];simp,aI⟩] at a6;cases a6
   rw[J];exact aa
 .intro cG a7;rw[aU af.u aa.ls,bY,ak];refine⟨λa8=>?_,λa1=>a7 _ _ ⟨rfl,false,rfl,⟨(λh=>by cases h),λh=>?_⟩⟩⟩
  .rw[av aW.p 2 (aX.ext ae) rfl,kc Ω,bn];refine a7 _ _ ⟨rfl,_,rfl,⟨λh=>⟨λe=>by rw[e] at a8;simp at a8,of_decide_eq_true h⟩,λh=>decide_eq_true h.2⟩⟩
  .exact absurd (List.length_pos_iff.2 h.1) Ω
end
section
variable {w0 w:x2} {aj ag am aZ:Nat} {A R:ah} {A9:Nat->ah} {aP:ah} {n:aY} {s:aB} {t:aC} {h:List aC} {cs:List y0} {a:dn} {aF ax cP:y0} {Q:y0->x2->Prop}
theorem MX {L C:Λ} {gz aQ aS g a1:Nat} {X aI bx:y0} (p:bV w0 aj ag am A R A9 aP n s s t h cs) (dy:t.cells.length+700<=100000000) (dz:t.olds.length+700<=100000000) (b9:s.funs.length<=1000) (aH:Ext w0 w) (bA:eG w aZ n.k a aF ax cP w0.heap.size)
  (aJ:ao .i64 ac w gz X L) (a2:∀r,leads X r->w0.heap.size<=r) (ca:ad w aQ dO [X,Δ n.k,aI]) (cb:w0.heap.size<=aQ) (ah:ao .i64 an w aS aI C) (bB:w0.heap.size<=aS)
  (cc:cV w g a1 bx L n.k C) (bC:w0.heap.size<=g/\w0.heap.size<=a1) (aT:∀r,leads bx r->w0.heap.size<=r/\r≠aS) (cd:∀c∈C,0<=c/\c<=n.k) (dA:C.length<=600)
  (ce:¬kF n s (a.sc.take 4) L-> ∀w',Ext w0 w'->Q (.bool true) w') (cg:kF n s (a.sc.take 4) L-> ∀w',jo w0 aj ag am A R A9 aP n (gl s (a.sc.take 4) L C) t h w'->Q (.bool true) w'):
  U x3 (x8 aW (Γ aZ) 6) w λch=>
        U x3 (x7 af ch) w λci=>
        ai x3 tM [Γ aj,ci,Γ g] w λbD a6=>
        U x3 (Y0 bD 0) a6 λbE=>
        U x3 (Y0 bD 1) a6 λbF=>
        cK a6 λaN=>
        U x3 (bd (Γ am)) aN λcj=>
        U x3 (x7 aD cj) aN λck=>
        U x3 (x8 aW (Γ aZ) 6) aN λcl=>
        U x3 (x7 af cl) aN λcm=>
        ai x3 tN [ck,cm,X] aN λcn aK=>
        U x3 (Op.unary .not cn) aK λcp=>
        Split cp (bJ (α:=y0->x2->Prop) (λ(cq:y0) (cr:x2)=>
         Q cq cr) λbG=>
        U x3 (aA .eql e5 false true bF (Δ 1)) aK λct=>
        Split ct (U x3 (aA .eql ac false true bE (Δ 0)) aK λcu=>
        bG cu aK)
         (bG (.bool false) aK))
        (cK aK λal=>
        U x3 (bd (Γ am)) al λa8=>
        U x3 (x8 aD a8 6) al λba=>
        U x3 (x7 b8 ba) al λbH=>
        U x3 (x8 aW (Γ aZ) 6) al λcw=>
        U x3 (x7 af cw) al λcz=>
        U x3 (x8 dO (Γ aQ) 2) al λcA=>
        U x3 (x7 au cA) al λcB=>
        U x3 (Instr.build aX #[(0,cz),(1,X),(2,cB)]) al λcC=>
        U x3 (Instr.build bT #[(0,cC),(1,(.bool true))]) al λcD=>
        ay x3 (Y1 b8 1 #[(0,cD)]) al λcE aO=>
        (Ext al aO\/bw x3 (x7 b8 ba) bH aO/\bw x3 (x8 aD a8 6) ba aO/\bw x3 (bd (Γ am)) a8 aO/\True)/\
        ay x3 (j4 #[b8,b8] b8 #[bH,cE]) aO λcF bb=>
         U x3 (bd (Γ am)) bb λcG=>
         U x3 (x8 aD cG 6) bb λcH=>
         ay x3 (o7 b8 cH cF) bb λ(_:Unit) aq=>
         bJ (α:=y0->x2->Prop) (λ(cL:y0) (cM:x2)=>
         Q cL cM) λbI=>
        U x3 (aA .eql e5 false true bF (Δ 0)) aq λcN=>
        Split cN (U x3 (bd (Γ am)) aq λcO=>
        U x3 (x8 aD cO 6) aq λcQ=>
        U x3 (x7 b8 cQ) aq λcR=>
        U x3 (X0 #[b8] ac #[cR]) aq λcS=>
        U x3 (aA .sub ac false true cS (Δ 1)) aq λcT=>
        U x3 (aA .eql ac false false bE cT) aq λcU=>
        bI cU aq)
        (bI (.bool false) aq)):=by
 have bK:=p.cJ.2.2.2.1;have cW:=p.box.lt;have z0:=aH.size;have bc:=qx p.cJ;obtain⟨bN,_,⟨dC,aE⟩,dD,aU⟩:=id bA;have aw:∀r,w0.heap.size<=r->¬A r:=λr h bf=>by have:=bc r (.inl bf);omega
 have dF:(a.sc.take 4).length<=4:=by rw[o5];omega
 rw[av aW.p 6 bN rfl];have cX:=p.ext aH;refine (MQ (sc:=a.sc.take 4) cX.cJ aE.ls (λr J=>aw r (aU r (.inr J))) cc ⟨aw g bC.1,aw a1 bC.2,λr J=>aw r (aT r J).1⟩ Ω cd Ω Ω Ω).mono ?_;rintro v V _ ⟨cY,cZ⟩;by_cases aL:kF n s (a.sc.take 4) L
 rotate_left
 .obtain⟨rfl,aV⟩:=cY aL;rw[bL,bM];intro aa Y _ _;have bO:=(aH.trans aV).trans Y;rw[bu];refine (p.ext bO).look.load λc1 bh=>?_;rw[av aW.p 6 (bN.ext (aV.trans Y)) rfl];refine (CL bh bK (aE.ls.ext (aV.trans Y)) (aJ.ls.ext (aV.trans Y))).mono ?_;rintro _ bP _ ⟨⟨b,rfl,bj⟩,bk⟩;rw[bg,bt];refine⟨λ_=>?_,λc2=>absurd (bj.1 (by simpa using c2)) aL⟩;refine aR (λv aY=>v= .bool true/\bP=aY) ?_ λc3 bl=>?_
  .rintro _ aY ⟨rfl,rfl⟩;exact ce aL _ (bO.trans bk)
  .rw[bn,ak];refine⟨λ_=>?_,λh=>absurd rfl h⟩;rw[bn];exact bl _ _ ⟨rfl,rfl⟩
 obtain⟨rfl,bQ,aG,R',ap,c4,dG,bp⟩:=cZ aL;rw[bL,bM];have dH:=ap.1.size;have dI:=λr (J:leads X r)=>(bz aJ J);have c5:∀r,w0.heap.size<=r->r<w.heap.size->¬aG r:=λr h1 W bf=>(ap.2.1 r bf).elim (aw r h1) λh=>Ω
 have c6:=(p.olds.ext aH).prog (B:=w0.heap.size) bQ ap c4 ((eC.fb p.hV (1::C) _).set) (λr J=>(bp r J).imp id λh=>h.elim (λh=>(aT r h).1) λh=>Ω) (λq r h _=>h.2) cW;intro aa Y _ _;have bR:=c6.ext Y;have bS:=(bA.ab ap.1 λr _ h=>bc r (.inl h)).ext Y;have bU:=(be aE ap.1 λr J=>aw r (aU r (.inr J))).ext Y;have bW:=(be aJ ap.1 λr J=>aw r (a2 r J)).ext Y;have c7:=(be ah ap.1 λr J=>by obtain⟨e,_⟩:=bz ah J;rw[e];exact aw _ bB).ext Y;have c9:=(ca.ab ap.1 (aw aQ cb)).ext Y;rw[bu];refine bR.look.load λc1 bh=>?_;rw[av aW.p 6 bS.du rfl];refine (CL bh bK bU.ls bW.ls).mono ?_;rintro _ bP _ ⟨⟨b,rfl,bj⟩,bk⟩;rw[bj.2 aL,bg,bt];refine⟨λh=>by simp at h,λ_=>?_⟩;intro aY da _ _;have az:=bk.trans da;have dJ:=Y.size;have z4:=az.size;have bX:=bU.ext az;have bY:=bW.ext az;have db:=c7.ext az;have dc:=c9.ext az;have dd:=bS.ext az;have de:∀r,leads ax r->w0.heap.size<=r/\r<w.heap.size:=λr J=>⟨aU r (.inr J),by obtain⟨e,h⟩:=bz aE J;omega⟩;have bq:=(bR.ext az).reads (R9':=λr=>aP r\/leads ax r\/leads X r) (λr h=>.inl h) λr J=>by
  rcases J with J|J|J
  .exact .inl J
  .obtain⟨c,ah⟩:=jQ bX r J;have:=de r J;exact .inr ⟨qp ah Φ,ah.lt,Ω,λq h=>by have:=h.1.2;omega⟩
  .obtain⟨c,ah⟩:=jQ bY r J;have:=a2 r J;exact .inr ⟨qp ah Φ,ah.lt,Ω,λq h=>by have:=h.1.2;omega⟩
 obtain⟨dK,bZ⟩:=bq.doc.at 6 Ω;simp only[bu];rw[av aD.p 6 bq.box bZ,av aW.p 6 dd.du rfl,av dO.p 2 dc rfl,
  c8 (cs:=#[ax,X,aI]) (by obtain⟨_,_,_,rfl⟩:=b7 aE.ls;obtain⟨_,_,_,rfl⟩:=b7 aJ.ls;obtain⟨_,_,_,rfl⟩:=b7 ah.ls;kernel_rfl),
  c8 (cs:=#[ax,X,aI,.bool true]) (by obtain⟨_,_,_,rfl⟩:=b7 aE.ls;obtain⟨_,_,_,rfl⟩:=b7 aJ.ls;obtain⟨_,_,_,rfl⟩:=b7 ah.ls;kernel_rfl)]
 let f:dE:=⟨a.sc.take 4,L,1,C⟩;have own:bi (α:=fu) (λr=>leads aI r) (λr=>aP r\/leads ax r\/leads X r) aY [ax,X,aI,.bool true] (eo f):=
  ⟨[ax,X,aI],[.bool true],λr=>leads aI r,λ_=>False,rfl,λ_ h=>h,λ_ h=>h.elim,λ_ _ _ h=>h,⟨[ax],[X,aI],λ_=>False,λr=>leads aI r,rfl,λ_ h=>h.elim,λ_ h=>h,λ_ _ h=>h.elim,lb bX λr h=>.inr (.inl h),[X],[aI],λ_=>False,λr=>leads aI r,rfl,λ_ h=>h.elim,λ_ h=>h,λ_ _ h=>h.elim,lb bY λr h=>.inr (.inr h),mb db⟩,rfl⟩
 refine hp b8.u bT.i Φ rfl own λdL b0 aM _ df=>?_;refine⟨.inl aM,?_⟩;have z5:=aM.size;have b1:∀r,leads aI r->r=aS/\r<w.heap.size:=λr J=>by obtain⟨e,h⟩:=bz ah J;omega
 have b2:∀ {v:y0} {dg:Nat} {l:Λ},ao .i64 ac w dg v l-> ∀r,leads v r->¬leads aI r:=λhm r h1 W=>by
  obtain⟨dM,dh⟩:=jQ hm r h1;obtain⟨dN,di⟩:=jQ ah r W;exact absurd (ea dh di) Φ
 refine MR (bq.ext aM) (λq r h=>by have:=h.1.2;omega) bZ df (a7 own aM) (λr J=>?_) b9 λbm bo dk b3 br dl=>?_
 .obtain⟨rfl,dm⟩:=b1 r J;refine⟨c5 r bB dm,λW=>?_,Ω,λW=>?_,λq W=>by have:=W.1.2;omega⟩
  .rcases bp r W with W|W|W
   .have:=bc r (.inr W);omega
   .exact (aT r W).2 rfl
   .omega
  .rcases W with W|W|W
   .have:=(p.read r W).2.1;omega
   .exact b2 aE r W J
   .exact b2 aJ r W J
 refine aR (λv b4=>v= .bool true/\dk=b4) ?_ λc3 bl=>?_
 .rintro _ b4 ⟨rfl,rfl⟩;have dn:=qe t (1::C) (1::C).length;have dp:=qf t (1::C) (1::C).length;have dq:=nl t (1::C) (1::C).length;simp only[Z5] at dn dp;obtain⟨dr,ds,b5⟩:=qy (t:=hU t (1::C)) (i:=1) (x:=((s.funs.length+1:Nat):Int));have dt:ae (λr=>A r\/(∃q,A9 q r)\/r=am) w0 b0:=(((aH.ab _).trans (ap.1.mono λr _ h=>.inl h)).trans (Y.ab _)).trans ((az.trans aM).ab _);have dv:ae (λr=>cI w0 r\/(∃q,A9 q r)\/r=am) w0 b0:=((we (aH.ab _) bQ).trans (Y.ab _)).trans ((az.trans aM).ab _);refine cg aL _ ⟨aG,R',bm,_,_,bo,br,dt.trans (b3.mono λr _ h=>.inr (h.imp (λh=>⟨3,h.1.1⟩) id)),λr J=>(ap.2.1 r J).imp id λh=>Ω,λr J=>(bp r J).imp id λh=>h.elim (λh=>(aT r h).1) λh=>Ω,λr J=>.inl J,λr J=>?_,λq r J=>?_,?_,?_,?_,dv.trans (b3.mono λr _ h=>.inr (h.imp (λh=>⟨3,h.1.1⟩) id)),(aC.oN _ _ _).trans (vy t (1::C) _)⟩
  .rcases J with J|J|J
   .exact .inl J
   .exact .inr (aU r (.inr J))
   .exact .inr (a2 r J)
  .rcases dl q r J with W|W|W
   .exact .inl ⟨q,W.1.1⟩
   .have:=b1 r W;exact .inr Ω
   .exact .inr Ω
  .exact dr.trans dq
  .show (aC.set _ _ _).cells.length<=_;rw[ds];unfold hU;simp only[Z5];omega
  .show (aC.set _ _ _).olds.length<=_;unfold hU at b5 ⊢;simp only[Z5] at b5 ⊢;omega
 .rw[bn,ak];refine⟨λ_=>?_,λh=>absurd rfl h⟩;obtain⟨szv,dP,dQ,dR,fv2,dS,dw,_,_,_,_,dx,_⟩:=id br.doc;have b6:=br.box;rw[dw] at b6;rw[av aD.p 6 b6 rfl,eh b8.u dx,dj];have e:(List.map eo ({s with funs:=s.funs++[f]}:aB).funs).length=s.funs.length+1:=Ξ
  rw[e,wrap_i64 Ω Ω,bn];refine bl _ _ ⟨?_,rfl⟩;congr 1;exact decide_eq_true Ω
end
open Classical in
noncomputable def kH (n:aY) (s:aB) (a:dn):aB:=if aJ (iP n a)<=600/\kF n s (a.sc.take 4) (iP n a) then gl s (a.sc.take 4) (iP n a) (ic (iP n a) n.k a.co) else s
section
variable {w0 w:x2} {aj ag am aZ:Nat} {A R:ah} {A9:Nat->ah} {aP:ah} {n:aY} {s:aB} {t:aC} {h:List aC} {cs:List y0} {a:dn} {aF ax cP:y0} {Q:y0->x2->Prop}
theorem MY (p:bV w0 aj ag am A R A9 aP n s s t h cs) (ck:t.cells.length+700<=100000000) (cl:t.olds.length+700<=100000000) (cm:s.funs.length<=1000) (bG:a.ok) (bf:Ext w0 w) (bg:eG w aZ n.k a aF ax cP w0.heap.size) (cn:aH .u16 w cP a.co) (bh:∀w',jo w0 aj ag am A R A9 aP n (kH n s a) t h w'->Q (.bool true) w'):
     ay x3 (Y1 af 0 #[]) w λcp aY=>
      U x3 (x8 aW (Γ aZ) 6) aY λcq=>
      U x3 (x7 af cq) aY λbH=>
      U x3 (X0 #[af] ac #[bH]) aY λcr=>
      bA cp (Δ 0) aY λsizes bi W k=>
       U x3 (aA .lss ac false false bi cr) W λct=>
       Split ct (bJ (α:=y0->x2->Prop) (λ(cu:y0) (bI:x2)=>
        U x3 (aA .add ac false true bi (Δ 1)) bI λcw=>
        k cu cw bI) λbL=>
       U x3 (l7 af bH bi) W λcz=>
       U x3 (x7 ac cz) W λbM=>
       U x3 (bd (Γ am)) W λcA=>
       U x3 (x7 aD cA) W λcB=>
       ai x3 nP [cB,bM] W λcC aw=>
       Split cC (U x3 (bd (Γ am)) aw λcD=>
       U x3 (x8 aD cD 1) aw λcE=>
       U x3 (x7 af cE) aw λcF=>
       U x3 (l7 af cF bM) aw λcG=>
       U x3 (x7 ac cG) aw λcH=>
       ay x3 (Y1 af 1 #[(0,cH)]) aw λcI cL=>
       ay x3 (j4 #[af,af] af #[sizes,cI]) cL λcM cN=>
       bL cM cN)
       (bL sizes aw))
       (bJ (α:=x2->Prop) (λ(cO:x2)=>
       ai x3 xP [sizes] cO λcQ bj=>
       U x3 (aA .gtr ac false true cQ (Δ 600)) bj λcR=>
       Split cR (Q (.bool true) bj)
       (bJ (α:=y0->x2->Prop) (λ(y:y0) (a1:x2)=>
        U x3 (bd (Γ am)) a1 λcS=>
        U x3 (x8 aD cS 0) a1 λcT=>
        U x3 (x7 an cT) a1 λcU=>
        ai x3 tJ [sizes,cU,(Δ 0)] a1 λbN bk=>
        U x3 (Y0 bN 0) bk λbO=>
        U x3 (Y0 bN 1) bk λes=>
        ai x3 tK [sizes] bk λbP bQ=>
        U x3 (X0 #[cj] ac #[bP]) bQ λcV=>
        b0 (Δ 0) bQ λa2 ab cW=>
         U x3 (aA .lss ac false false a2 cV) ab λcX=>
         Split cX (U x3 (l7 cj bP a2) ab λcY=>
         U x3 (x7 af cY) ab λcZ=>
         U x3 (x8 dO y 2) ab λc1=>
         U x3 (x7 au c1) ab λc2=>
         U x3 (l7 au c2 a2) ab λc3=>
         U x3 (x7 an c3) ab λc4=>
         ai x3 tL [bO,cZ,c4] ab λet bR=>
         U x3 (aA .add ac false true a2 (Δ 1)) bR λc5=>
         cW c5 bR)
         (U x3 (x8 aW (Γ aZ) 6) ab λc6=>
        U x3 (x7 af c6) ab λc7=>
        ai x3 tM [Γ aj,c7,bO] ab λbS bl=>
        U x3 (Y0 bS 0) bl λbU=>
        U x3 (Y0 bS 1) bl λbW=>
        cK bl λaM=>
        U x3 (bd (Γ am)) aM λc8=>
        U x3 (x7 aD c8) aM λc9=>
        U x3 (x8 aW (Γ aZ) 6) aM λda=>
        U x3 (x7 af da) aM λdb=>
        ai x3 tN [c9,db,sizes] aM λdc aG=>
        U x3 (Op.unary .not dc) aG λdd=>
        Split dd (bJ (α:=y0->x2->Prop) (λ(de:y0) (df:x2)=>
         Q de df) λbX=>
        U x3 (aA .eql e5 false true bW (Δ 1)) aG λdg=>
        Split dg (U x3 (aA .eql ac false true bU (Δ 0)) aG λdh=>
        bX dh aG)
         (bX (.bool false) aG))
        (cK aG λae=>
        U x3 (bd (Γ am)) ae λbm=>
        U x3 (x8 aD bm 6) ae λbn=>
        U x3 (x7 b8 bn) ae λbZ=>
        U x3 (x8 aW (Γ aZ) 6) ae λdi=>
        U x3 (x7 af di) ae λdj=>
        U x3 (x8 dO y 2) ae λdk=>
        U x3 (x7 au dk) ae λdl=>
        U x3 (Instr.build aX #[(0,dj),(1,sizes),(2,dl)]) ae λdm=>
        U x3 (Instr.build bT #[(0,dm),(1,(.bool true))]) ae λdn=>
        ay x3 (Y1 b8 1 #[(0,dn)]) ae λdp aN=>
        (Ext ae aN\/bw x3 (x7 b8 bn) bZ aN/\bw x3 (x8 aD bm 6) bn aN/\bw x3 (bd (Γ am)) bm aN/\True)/\
        ay x3 (j4 #[b8,b8] b8 #[bZ,dp]) aN λdq bo=>
         U x3 (bd (Γ am)) bo λdr=>
         U x3 (x8 aD dr 6) bo λds=>
         ay x3 (o7 b8 ds dq) bo λ(_:Unit) ah=>
         bJ (α:=y0->x2->Prop) (λ(dt:y0) (dv:x2)=>
         Q dt dv) λb1=>
        U x3 (aA .eql e5 false true bW (Δ 0)) ah λdw=>
        Split dw (U x3 (bd (Γ am)) ah λdx=>
        U x3 (x8 aD dx 6) ah λdy=>
        U x3 (x7 b8 dy) ah λdz=>
        U x3 (X0 #[b8] ac #[dz]) ah λdA=>
        U x3 (aA .sub ac false true dA (Δ 1)) ah λdC=>
        U x3 (aA .eql ac false false bU dC) ah λdD=>
        b1 dD ah)
        (b1 (.bool false) ah)))) λb2=>
       cK bj λal=>
       U x3 (bd (Γ am)) al λaO=>
       U x3 (x8 aD aO 0) al λaQ=>
       U x3 (x7 an aQ) al λa6=>
       U x3 (x8 aW (Γ aZ) 7) al λaS=>
       U x3 (x7 lL aS) al λa7=>
       (ai x3 tI [sizes,a6,a7] al λdE dF=>
       ay x3 (S8 dO true (.tuple #[])) dF λb3 az=>
        (Ext al az\/bw x3 (x7 lL aS) a7 az/\bw x3 (x8 aW (Γ aZ) 7) aS az/\bw x3 (x7 an aQ) a6 az/\bw x3 (x8 aD aO 0) aQ az/\bw x3 (bd (Γ am)) aO az/\True)/\
       ay x3 (o7 dO b3 dE) az λ(_:Unit) dG=>
        b2 b3 dG)/\
       (ay x3 (S8 dO true (.tuple #[])) al λb4 aB=>
       (Ext al aB\/bw x3 (x7 lL aS) a7 aB/\bw x3 (x8 aW (Γ aZ) 7) aS aB/\bw x3 (x7 an aQ) a6 aB/\bw x3 (x8 aD aO 0) aQ aB/\bw x3 (bd (Γ am)) aO aB/\True)/\
       ai x3 tI [sizes,a6,a7] aB λdH dI=>
        ay x3 (o7 dO b4 dH) dI λ(_:Unit) dJ=>
        b2 b4 dJ))) λb5=>
      bJ (α:=y0->x2->Prop) (λ(dK:y0) (aC:x2)=>
       Split dK (U x3 (l7 af sizes (Δ 0)) aC λdL=>
       U x3 (x7 ac dL) aC λdM=>
       U x3 (aA .rem ac false true dM (Δ 3)) aC λdN=>
       U x3 (aA .add ac true false (Δ 1) dN) aC λdP=>
       U x3 (l7 af sizes (Δ 0)) aC λdQ=>
       ay x3 (o7 ac dQ dP) aC λ(_:Unit) dR=>
       b5 dR)
       (b5 aC)) λb6=>
      U x3 (X0 #[af] ac #[sizes]) W λdS=>
      U x3 (aA .gtr ac false true dS (Δ 0)) W λdT=>
      Split dT (U x3 (x8 aW (Γ aZ) 2) W λdU=>
      U x3 (x7 ac dU) W λdV=>
      U x3 (aA .rem ac false true dV (Δ 5)) W λdW=>
      U x3 (aA .eql ac false true dW (Δ 0)) W λdX=>
      b6 dX W)
      (b6 (.bool false) W)):=by
 have b7:=p.cJ.2.2.2.1;have b9:=b7.ej.2.2;have hk:=b7.kv;have dY:=p.ext bf;have z0:=bf.size;have aJ:=MV (a:=a) b9;refine MW dY.look b9 bg λa8 gz V bq br dZ=>?_;have ea:=bf.trans bq;refine (uh br.ls aJ).mono ?_;rintro _ aa _ ⟨rfl,ba⟩;have bt:=ea.trans ba;have bu:=bq.trans ba;have bx:=br.ext ba;rw[bY,ak];refine⟨λeu=>bh _ ?_,λec=>?_⟩
 .unfold kH;rw[if_neg λh=>Ω];exact kD p bt
 obtain⟨L,bB⟩:∃L,L=iP n a:=⟨_,rfl⟩;rw[<-bB] at aJ ec bx;have ev:=prod_bound aJ;have bC:=p.box;obtain⟨szv,ew,ey,ez,eA,eB,ed,_⟩:=p.CG;rw[ed] at bC;refine aR (λy aT=>∃X aI aE,y=Γ X/\Ext aa aT/\ad aT X dO [a8,Δ n.k,aI]/\ao .i64 an aT aE aI (ic L n.k a.co)/\aa.heap.size<=X/\aa.heap.size<=aE) ?_ ?_
 rotate_left
 .intro eC ca aT Y _ _;have bb:=bt.trans Y;have aU:=bx.ext Y;have cb:=cn.ext (bu.trans Y);rw[aK aD.p 0 (bC.ext bb) rfl,av aW.p 7 (bg.ext (bu.trans Y)).du rfl];have z3:=Y.size;have cc:∀ {aI:y0},aI.oneCell'=true-> ∀u∈[a8,Δ n.k,aI],u.oneCell'=true:=λap u hu=>by
   simp at hu;rcases hu with rfl|rfl|rfl
   .exact br.ls.cells.2
   .rfl
   .exact ap
  refine⟨?_,?_⟩
  .refine (zW aU.ls aJ cb bG.2.2.2.2.2.2.2 Ω).mono ?_;rintro _ cd _ ⟨J,aE,aI,rfl,ce,ap⟩;refine bp dO.i λX ee cg aL bc=>?_;have z4:=J.size;refine⟨.inl (J.trans aL),?_⟩;refine bK (vs:=[a8,Δ n.k,aI]) dO.i rfl rfl (cc ap.ls.cells.2) bc λef aV eg bD=>?_;refine ca _ _ ⟨X,aI,aE,rfl,((Y.trans J).trans aL).then aV λr aq he=>by have he:r=X:=he;omega,bD,be (ap.ext aL) aV λr aq he=>?_,Ω,Ω⟩;have he:r=X:=he;obtain⟨eh,ei⟩:=bz ap aq;omega
  .refine bp dO.i λX cd cg J bc=>?_;refine⟨.inl J,?_⟩;have z4:=J.size;have eD:=bc.lt;refine (zW (aU.ls.ext J) aJ (cb.ext J) bG.2.2.2.2.2.2.2 Ω).mono ?_;rintro _ ee _ ⟨aL,aE,aI,rfl,ce,ap⟩;refine bK (vs:=[a8,Δ n.k,aI]) dO.i rfl rfl (cc ap.ls.cells.2) (bc.ext aL) λef aV eg bD=>?_;refine ca _ _ ⟨X,aI,aE,rfl,((Y.trans J).trans aL).then aV λr aq he=>by have he:r=X:=he;omega,bD,be ap aV λr aq he=>?_,Ω,Ω⟩;have he:r=X:=he;obtain⟨eh,ei⟩:=bz ap aq;omega
 rintro _ aT ⟨X,aI,aE,rfl,Y,ch,bE,cg,ce⟩;have bb:=bt.trans Y;have aU:=bx.ext Y;refine MT aU aJ Ω hk ch bE (bC.ext bb) rfl λcd g eE eF J ek eH eI em=>?_;have eJ:=bq.size;have eK:=ba.size;have z3:=Y.size;have en:=bb.trans J;have eo:(ic L n.k a.co).length<=600:=by rw[rW];omega
 have eL:=oF bE (by rw[rW];omega);refine MX p ck cl cm en (bg.ext ((bu.trans Y).trans J)) (aU.ext J) (λr aq=>by have:=dZ r aq;omega) (ch.ext J) Ω (bE.ext J) Ω ek ⟨Ω,Ω⟩ (λr aq=>by have:=em r aq;omega) (λc ci=>?_) eo (λbF w' ep=>bh _ ?_) λbF w' er=>bh _ ?_
 .unfold ic at ci;obtain⟨i,_,rfl⟩:=Z6.1 ci;exact zV Ω _
 .unfold kH;rw[<-bB,if_neg λh=>bF h.2];exact kD p ep
 .unfold kH;rw[<-bB,if_pos ⟨Ω,bF⟩];exact er
end
noncomputable def eO (n:aY) (s:aB) (a:dn):aB:=
 if a.d % 9=0 then lp n s (cC n.k a) else if a.d % 9=1 then kE n s a else if a.d % 9=2 then jS n s a else if a.d % 9=3 then lr n s a else if a.d % 9=4 then kH n s a else if a.d % 9=5 then lq s a else lu n s a
theorem nv {cx cy:Bool} {k:o6} {a b:Int} {A B:Prop} (J:a=b->A) (V:a≠b->B):U x3 (aA .eql t cx cy (.int k a) (.int k b)) w λv=>Split v A B:=by
 rw[bn,ak];exact⟨J,V⟩
section
variable {w0:x2} {aj ag am:Nat} {A R:ah} {A9:Nat->ah} {aP:ah} {n:aY} {s:aB} {t:aC} {h:List aC} {cs:List y0} {a:dn} {cG dk:y0} {Q:y0->x2->Prop}
theorem MZ (p:bV w0 aj ag am A R A9 aP n s s t h cs) (ao:t.cells.length+700<=100000000) (aH:t.olds.length+800<=100000000) (ap:s.funs.length<=1000) (aq:s.elims.length<=1000) (au:sO w0 dk a) (aI:a.d % 9<7) (X:∀w',jo w0 aj ag am A R A9 aP n (eO n s a) t h w'->Q (.bool true) w'):
  ai x3 tG [Γ aj,Γ am,cG,dk] w0 Q:=by
 obtain⟨ac,aF,ax,cP,rfl,ae,J,af⟩:=au;have aJ:0<=a.d % 9:=Ω
 have ab:Room t:=.inr Ω;have av:a.d % 9=0->eO n s a=lp n s (cC n.k a):=λe=>by unfold eO;rw[if_pos e]
 have aw:a.d % 9=1->eO n s a=kE n s a:=λe=>by unfold eO;rw[if_neg Ω,if_pos e]
 have ay:a.d % 9=2->eO n s a=jS n s a:=λe=>by unfold eO;rw[if_neg Ω,if_neg Ω,if_pos e]
 have aA:a.d % 9=3->eO n s a=lr n s a:=λe=>by unfold eO;rw[if_neg Ω,if_neg Ω,if_neg Ω,if_pos e]
 have aB:a.d % 9=4->eO n s a=kH n s a:=λe=>by unfold eO;rw[if_neg Ω,if_neg Ω,if_neg Ω,if_neg Ω,if_pos e]
 have aC:a.d % 9=5->eO n s a=lq s a:=λe=>by unfold eO;rw[if_neg Ω,if_neg Ω,if_neg Ω,if_neg Ω,if_neg Ω,if_pos e]
 have aD:a.d % 9=6->eO n s a=lu n s a:=λe=>by unfold eO;rw[if_neg Ω,if_neg Ω,if_neg Ω,if_neg Ω,if_neg Ω,if_neg Ω]
 refine az func13 ?_;refine bP λaZ V aK aE ah=>?_;have aG:ad V aZ aW [.int .u8 a.d,Δ a.i,Δ a.v,Δ a.j,Δ a.c,aF,ax,cP,.bool a.nt]:=by
  obtain⟨_,_,_,ak⟩:=b7 ae;obtain⟨_,_,_,al⟩:=b7 J;obtain⟨_,_,_,an⟩:=b7 af;rw[ak,al,an] at ah ⊢;exact ah
 refine Ms (w0:=w0) p ac ae J rfl aE Ω aG λaL aM aa W Y=>?_;refine nv (λe=>?_) λaN=>?_
 .exact Mu p ab W Y λw' U=>X w' (by rw[av e];exact U)
 refine nv (λe=>?_) λak=>?_
 .exact Mw p ab W Y λw' U=>X w' (by rw[aw e];exact U)
 refine nv (λe=>?_) λal=>?_
 .exact MJ p ab W Y λw' U=>X w' (by rw[ay e];exact U)
 refine nv (λe=>?_) λan=>?_
 .exact MG p ab W Y λw' U=>X w' (by rw[aA e];exact U)
 refine nv (λe=>?_) λaO=>?_
 .exact MY p ao Ω ap ac W Y (af.ext W) λw' U=>X w' (by rw[aB e];exact U)
 refine nv (λe=>?_) λaQ=>?_
 .exact MC p ab W Y λw' U=>X w' (by rw[aC e];exact U)
 refine nv (λe=>?_) λaR=>Ω
 exact MO p Ω aq W Y λw' U=>X w' (by rw[aD e];exact U)
theorem M0 (p:bV w0 aj ag am A R A9 aP n s s t h cs) (J:t.cells.length+700<=100000000) (U:t.olds.length+800<=100000000) (V:s.funs.length<=1000) (W:s.elims.length<=1000) (X:sO w0 dk a) (Y:a.d % 9<7):
  ai x3 tG [Γ aj,Γ am,cG,dk] w0 λv w'=>v= .bool true/\jo w0 aj ag am A R A9 aP n (eO n s a) t h w':=by
 exact MZ p J U V W X Y λw' aa=>⟨rfl,aa⟩
end
theorem M1 {n:aY} {s:aB} {a:dn}:(eO n s a).funs.length<=s.funs.length+1/\(eO n s a).elims.length<=s.elims.length+1:=by
 unfold eO lp kE jS lr kH lq lu ha gJ iL iN gl gp
 repeat' split
 all_goals first|(constructor<;>exact R6 _)|simp
def jU:Λ:=[116,32,50,32,50,32,49,32,57,32,50,32,50,10,50,32,48,32,49,32,48,32,49,10,49,32,49,32,53,10]
def fW:b4:=⟨[116],9,[2,2],[⟨[0,1],[2,2],0,[([1,1],5)]⟩]⟩
theorem M2:fj jU=σ fW:=by
 have h:(match fj jU with
  |some f=>decide (f.name=fW.name/\f.k=fW.k/\f.sizes=fW.sizes)&&decide (f.funs.map (λx=>(x.scope,x.sizes,x.other,x.lines))=fW.funs.map λx=>(x.scope,x.sizes,x.other,x.lines))
  |none=>false)=true:=by decide+kernel
 cases V:fj jU with
 |none=>rw[V] at h;cases h
 |some f=>
  rw[V] at h;simp only[U8,decide_eq_true_eq] at h;obtain⟨⟨h1,W,X⟩,J⟩:=h;obtain⟨nm,k,aa,U⟩:=f;simp only at h1 W X J;subst h1;subst W;subst X;have:U=fW.funs:=by
   have Y:U.length=1:=by have:=congrArg T9 J;simpa[fW] using this
   match U,Y with
   |[x],_=>
    obtain⟨a,b,c,d⟩:=x;simp[fW] at J;obtain⟨rfl,rfl,rfl,rfl⟩:=J;rfl
  subst this;rfl
def sS (s:aB) (a:Λ):Bool:=decide (a.length=s.vars.length)&&(s.vars.zip a).all λp=>decide (p.1.gone≠0\/(0<=p.2/\p.2<p.1.un.length))
theorem CS {s:aB} {a:Λ}:sS s a=true↔qb s a:=by
 unfold sS qb;rw[U8,decide_eq_true_eq,List.all_eq_true];refine and_congr Iff.rfl ⟨λh i x v J U=>?_,λh p V=>?_⟩
 .have:=h (x,v) (X4.2 ⟨i,by rw[List.getElem?_zip_eq_some];exact⟨J,U⟩⟩);exact of_decide_eq_true this
 .obtain⟨i,hi⟩:=X4.1 V;obtain⟨x,v⟩:=p;rw[List.getElem?_zip_eq_some] at hi;exact decide_eq_true (h i x v hi.1 hi.2)
theorem M3:hR fW.funs<=16384:=by decide+kernel
theorem M4:eF (cM fW) 1 1:=by decide+kernel
theorem M5:sS (gJ (eb (cM fW)) 1 1) [1,1]=true:=by decide+kernel
theorem M6:sS (gJ (eb (cM fW)) 1 1) [1,0]=true:=by decide+kernel
theorem M7:oK (cM fW).k (gJ (eb (cM fW)) 1 1) [1,1]=9:=by decide+kernel
theorem M8:oK (cM fW).k (gJ (eb (cM fW)) 1 1) [1,0]=0:=by decide+kernel
theorem M9 {g n c:Nat} (U:ad w g cq cs) (X:∀w',ae (λr=>r=g) w w'->(∀o vs,w.rangeAt g o vs->w'.rangeAt g o vs)->K (.slice (σ ⟨g,0,ν⟩) n c) w'):
  ay x3 (convert cH cH (.slice (σ ⟨g,0,ν⟩) n c)) w K:=by
 have W:∀r,(w.freeze ⟨g,cs.length,ν⟩ 1).heap[r]? =if g=r then (w.heap[r]?).map (λ| .cells c Y (lo,hi)=>.cells c Y (if lo == hi then (cs.length,cs.length+1) else (min lo cs.length,max hi (cs.length+1)))|o=>o) else w.heap[r]?:=λr=>by
  unfold x2.freeze;rw[if_neg Φ];exact Array.getElem?_modify
 have ah:(w.freeze ⟨g,cs.length,ν⟩ 1).heap.size=w.heap.size:=by
  unfold x2.freeze;rw[if_neg Φ];exact Array.size_modify
 have aa:w.shape? g=σ (cq,cs.length):=by
  unfold x2.shape?;unfold ad at U;rw[U];simp
 have ab:(convert cH cH (.slice (σ ⟨g,0,ν⟩) n c)).run x3 w= .ok (.slice (σ ⟨g,0,ν⟩) n c) (w.freeze ⟨g,cs.length,ν⟩ 1):=by
  simp[convert,run_underlying cH.u,run_underlying cq.u,markStringish,aa]
 unfold ad at U;refine .of ab ⟨by unfold x2.freeze;rw[if_neg Φ],.jV (by unfold x2.freeze;rw[if_neg Φ]) (by unfold x2.freeze;rw[if_neg Φ]),by unfold x2.freeze;rw[if_neg Φ],Ω,λr o V J=>?_⟩ (X _ ⟨Ω,λr o V _ ac=>?_⟩ λo vs af j v ag=>?_)
 .rw[W];by_cases he:g=r
  .subst he;rw[U] at V;cases V;cases J
  .rw[if_neg he];exact V
 .rw[W,if_neg λhe=>ac he.symm];exact V
 .have h1:=af j v ag;unfold x2.cell? at h1 ⊢;rw[W,if_pos rfl];rw[U] at h1 ⊢;exact h1
def sT (B:Nat) (w:x2) (J:y0) (cs:List y0) (f:b4):Prop:=∃aj ag A R t N A9 aP,e1 N f/\J=Γ aj/\ci w aj ag A R (cM f) (eb (cM f)) t/\Plain t/\(∀r,A r->B<=r)/\
 gq true A9 aP w cs (cM f).k (cM f).sizes (eb (cM f))/\(∀q r,A9 q r->¬A r/\¬R r/\B<=r)/\(∀r,aP r->¬cI w r/\r<w.heap.size/\B<=r)/\ ∀r,R r->B<=r
def Na (w:x2) (q:Λ) (v:y0) (w':x2):Prop:=Ext w w'/\ ∃J cs ok,v= .tuple #[J,.agg cs.toArray,.bool ok]/\(cs.length=8/\ ∀u∈cs,u.oneCell'=true)/\((ok=false/\J= .pointer ν)\/(ok=true/\ ∃f,fj q=σ f/\sT w.heap.size w' J cs f))/\ ∀f,fj q=σ f->hR f.funs<=16384->ok=true
theorem wm {p:y0} {pl:Λ} (a7:aH .u8 w p pl) (aA:Bytes pl) (bt:e2 w):ai x3 D2 [p] w (Na w (pl.take 300)):=by
 refine az func12 ?_;refine bp aD.i λaf V b9 aJ aE=>?_;have aE:ad V af aD z12:=aE;rw[aU cH.u (a7.ext aJ),iW];refine uo (i:=min pl.length 300) Ω cH.u cq.i (a7.ext aJ) Ω λca aK=>?_;have bu:pl.take (min pl.length 300)=pl.take 300:=by
  by_cases h:pl.length<=300
  .rw[S4 h,o9,n0 h]
  .rw[Nat.min_eq_right Ω]
 rw[bu] at aK;have aF:Bytes (pl.take 300):=λb U=>aA b (U9 U);have bw:(pl.take 300).length<=300:=by rw[o5];omega
 generalize pl.take 300=q at aK aF bw;refine (Ma aK Ω).mono ?_;rintro cb aa _ ⟨aL,cc,aM⟩;have a8:=aJ.trans aL;refine (JW aM.ls aF Ω (bt.ext a8)).mono ?_;rintro cd ce _ ⟨aB,ah⟩;have ba:=a8.trans aB;cases am:fj q with
 |none=>
  rw[am] at ah;obtain⟨n,e,rfl,he⟩:=ah;rw[hj,hl,hn];refine (Ca (aM.ext aB).ls aF Ω).mono ?_;rintro bx aN _ ⟨au,bz,bA,aO,_⟩;obtain rfl:=aO am;rw[hj,hl,hn];refine aR (λv aC=>v= .bool true/\Ext aN aC) ?_ ?_
  .rintro _ aC ⟨rfl,ao⟩;rw[bX,c8 (cs:=#[Δ 0,.slice ν 0 0,Δ 0,.slice ν 0 0,.slice ν 0 0,.slice ν 0 0,.slice ν 0 0,.slice ν 0 0]) Ψ];obtain⟨_,_,X,al⟩:=Cv;refine bK (vs:=z12) aD.i rfl rfl (by intro u hu;simp[z12] at hu;rcases hu with rfl|rfl|rfl|rfl<;>rfl) ((((aE.ext aL).ext aB).ext au).ext ao) λcg bB ch bC=>?_;rw[eZ aD.p aD.i rfl bC.range];refine⟨((ba.trans au).trans ao).then bB λr ah he=>by have he:r=af:=he;omega,_,_,false,rfl,⟨rfl,(Cv).elim λ_ h=>by obtain⟨_,_,h⟩:=h;exact λu hu=>by simp[z12] at hu;rcases hu with rfl|rfl|rfl|rfl<;>rfl⟩,.inl ⟨rfl,rfl⟩,λf bb=>?_⟩;rw[am] at bb;cases bb
  .intro aQ ap;rw[bH,ak];exact⟨λ_=>ap _ _ ⟨rfl,Ext.refl _⟩,λh=>absurd he h⟩
 |some f=>
  rw[am] at ah;obtain⟨cj,n,rfl,bD⟩:=ah;obtain⟨N,bE,av,bF,bG⟩:=L8 Ω am;have aw:=AY av;have aG:=vV av;rw[hj,hl,hn];refine (Ca (aM.ext aB).ls aF Ω).mono ?_;rintro bx aN _ ⟨au,bz,bA,_,aO⟩;obtain⟨ck,rfl,bI⟩:=aO f am;rw[hj,hl,hn];refine aR (λv aC=>v= .bool false/\Ext aN aC) ?_ ?_
  rotate_left
  .intro aQ ap;rw[bH,ak];refine⟨λh=>absurd rfl h,λ_=>?_⟩;rw[cR tZ.u];exact ap _ _ ⟨rfl,Ext.refl _⟩
  rintro _ aC ⟨rfl,ao⟩;rw[aT];have bd:=(ba.trans au).trans ao;refine (K2 ((bD.ext au).ext ao) av bE ⟨bF,bG⟩).mono ?_;rintro cl bJ _ ⟨aS,bN⟩;have aI:=bd.trans aS;have ax:=((((aE.ext aL).ext aB).ext au).ext ao).ext aS;have be:=(bI.ext ao).ext aS;have cm:=aI.size;have cn:w.heap.size<=af:=Ω
  have cp:=ax.lt;rcases bN with⟨bO,e,he,rfl⟩|⟨cr,rfl,bP⟩
  .rw[bL,bM];refine L9.mono ?_;rintro _ bf _ ⟨rfl,W⟩;refine iy (λaV t4 Y=>aV= .pointer ν/\t4= .bool false/\Ext w Y/\ ∃cs:List y0,ad Y af aD cs/\cs.length=8/\ ∀u∈cs,u.oneCell'=true) ?_ ?_
   .rintro _ _ Y ⟨rfl,rfl,aW,cs,aX,X,al⟩;rw[eZ aD.p aD.i X aX.range];exact⟨aW,_,cs,false,rfl,⟨X,al⟩,.inl ⟨rfl,rfl⟩,λct bg bQ=>absurd bQ (by rw[am] at bg;cases bg;exact bO)⟩
   .intro aQ ap;have bR:=W.size;refine (Cj (be.ext W) av).mono ?_;rintro bS aY _ ⟨ae,aZ⟩;refine (CE (R:=λr=>w.heap.size<=r/\ ∃c,ad aY r ac c) (λr h=>h.2.elim λc U=>U.lt) (λr c aA U=>⟨Ω,c,U⟩) aZ aw.1 aG).mono ?_;rintro bT bU _ ⟨an,A9,cs,rfl,ay,a1⟩;obtain⟨X,al⟩:=ay.len;rw[bn,ak];refine⟨λh=>absurd h he,λ_=>?_⟩;refine bK (vs:=cs) aD.i X rfl al (((ax.ext W).ext ae).ext an) λbV aq bh a2=>?_;exact ap _ _ _ ⟨rfl,rfl,(((aI.trans W).trans ae).trans an).then aq λr ah he=>by have he:r=af:=he;omega,cs,a2,X,al⟩
  .rw[bL,bM];obtain⟨cu,bW,bi,bY⟩:=bP;have z5:=bd.size;refine (Ln (R0:=λr=>w.heap.size<=r/\r<bJ.heap.size) bW bi (λr o h J=>⟨by have:=bY r o h J;omega,(Z1.1 (bi.bc r o h J)).1⟩) (λr h=>h.2) aw.1 aG).mono ?_;rintro _ bf _ ⟨W,aj,ag,A,R,t,rfl,bZ,bj,bk,bl,b0⟩;have bm:ci bf aj ag A R (cM f) (eb (cM f)) t:=⟨bZ,bj,Mc aw.1 aG bj bk,Ld aw.1,aw.1⟩;refine iy (λaV t4 Y=>aV=Γ aj/\t4= .bool true/\Ext w Y/\ ∃cs:List y0,ad Y af aD cs/\cs.length=8/\(∀u∈cs,u.oneCell'=true)/\ ∃R' A9 aP,ci Y aj ag A R' (cM f) (eb (cM f)) t/\gq true A9 aP Y cs (cM f).k (cM f).sizes (eb (cM f))/\(∀q r,A9 q r->¬A r/\¬R' r/\w.heap.size<=r)/\(∀r,aP r->¬cI Y r/\r<Y.heap.size/\w.heap.size<=r)/\ ∀r,R' r->w.heap.size<=r) ?_ ?_
   .rintro _ _ Y ⟨rfl,rfl,aW,cs,aX,X,al,R',A9,aP,b1,ay,b2,b3⟩;rw[eZ aD.p aD.i X aX.range];exact⟨aW,_,cs,true,rfl,⟨X,al⟩,.inr ⟨rfl,f,am,aj,ag,A,R',t,N,A9,aP,av,rfl,b1,bk,λr ah=>by have:=bl r ah;omega,ay,b2,b3⟩,λ_ _ _=>rfl⟩
   .intro aQ ap;have bR:=W.size;refine (Cj (be.ext W) av).mono ?_;rintro bS aY _ ⟨ae,aZ⟩;refine (CE (R:=λr=>w.heap.size<=r/\ ∃c,ad aY r ac c) (λr h=>h.2.elim λc U=>U.lt) (λr c aA U=>⟨Ω,c,U⟩) aZ aw.1 aG).mono ?_;rintro bT bU _ ⟨an,A9,cs,rfl,ay,a1⟩;obtain⟨X,al⟩:=ay.len;rw[bn,ak];refine⟨λ_=>?_,λh=>absurd rfl h⟩;rw[yt et.u];have bo:=((ax.ext W).ext ae).ext an;have b4:=((aI.trans W).trans ae).trans an;refine bK (vs:=cs) aD.i X rfl al bo λbV aq bh a2=>?_;have bq:=(bm.ext ae).ext an;obtain⟨R',br,b5⟩:=bq.1.put bo aq λh=>by have:=bl af h;omega
    have cw:=((aI.trans W).trans ae).size;have cz:=an.size;obtain⟨_,_,_,_,⟨_,_,b6,b7⟩,_⟩:=(bm.ext ae).1;have cA:=ax.lt;have cB:=(W.trans ae).size;have b8:=ay.ab aq λr ah h he=>by
     have he:r=af:=he;rcases h with⟨q,h⟩|⟨_,c,U⟩
     .have:=a1 q r h;omega
     .subst he;exact absurd (ea U (((ax.ext W).ext ae))) Φ
    refine ap _ _ _ ⟨rfl,rfl,b4.then aq λr ah he=>by have he:r=af:=he;omega,cs,a2,X,al,R',A9,_,⟨b5,bq.2⟩,b8,λq r h=>?_,λr h=>?_,λr h=>?_⟩
    .have cC:=a1 q r h;refine⟨λa6=>by have:=b7 r a6;omega,λa6=>by have:=b6 r (br r a6).1;omega,Ω⟩
    .obtain⟨aA,c,U⟩:=h;have cD:=U.lt;have bh:=aq.size;refine⟨qp ((U.ext an).ab aq λhe=>?_) Φ,Ω,aA⟩;have he:r=af:=he;subst he;exact absurd (ea U (((ax.ext W).ext ae))) Φ
    .rcases b0 r (br r h).1 with h|h
     .exact h.1
     .omega
abbrev nw:Type:=eR .u8×Int×Int×Int×Int×Λ×Λ×List (eR .u16)×Bool
def iq (x:nw):dn:=⟨x.1.val,x.2.1,x.2.2.1,x.2.2.2.1,x.2.2.2.2.1,x.2.2.2.2.2.1,x.2.2.2.2.2.2.1,x.2.2.2.2.2.2.2.1,x.2.2.2.2.2.2.2.2⟩
theorem Nb {k:o6} {m:Bool} {R:ah} {F:Nat->ah} {vs:List (List y0)} {l:List (eR k)} (h:k2 m R F w vs l):vs.flatten=ints k l:=by
 have:vs=l.map λx:eR k=>[U1 k x]:=by
  apply List.ext_getElem
  .simp[h.1]
  .intro i h1 J;have U:i<l.length:=by simpa using J
   have:=h.2 i _ _ (x6 h1) (x6 U);rw[List.getElem_map];exact this
 subst this;clear h;induction l with
 |nil=>rfl
 |cons x l V=>simp only[T2,List.flatten_cons,V];rfl
theorem Nc {k:o6} {m:Bool} {S R:ah} {l:List (eR k)} (h:al.rep m S R w [v] l):aH k w v l:=by
 obtain⟨vs,g,F,_,he,J,_⟩:=gw h;have:=J.sl;rw[Nb he] at this;exact this
theorem qA {R:ah} {x:nw} (h:Seen R w cs x) (ae:(iq x).ok):cs.length=9/\cs[0]? =σ (.int .u8 (iq x).d)/\(∀u∈cs,u.oneCell'=true)/\sO w (.agg cs.toArray) (iq x):=by
 refine⟨al.len h,?_,al.one h,ae,?_⟩
 .obtain⟨U,_,_,_,rfl,_,_,_,J,_⟩:=h;have J:U=[.int .u8 x.1]:=J;subst J;rfl
 obtain⟨U,_,_,_,rfl,_,_,_,J,af,_,_,_,rfl,_,_,_,V,ag,_,_,_,rfl,_,_,_,W,ai,_,_,_,rfl,_,_,_,X,aj,_,_,_,rfl,_,_,_,Y,ap,_,_,_,rfl,_,_,_,ab,aq,_,_,_,rfl,_,_,_,ac,au,ak,_,_,rfl,_,_,_,ad,aa⟩:=h;have J:U=[.int .u8 x.1]:=J;have V:af=[Δ x.2.1]:=V;have W:ag=[Δ x.2.2.1]:=W;have X:ai=[Δ x.2.2.2.1]:=X;have Y:aj=[Δ x.2.2.2.2.1]:=Y;have aa:ak=[.bool x.2.2.2.2.2.2.2.2]:=aa;obtain⟨am,rfl⟩:=W7.1 (al.len ab);obtain⟨an,rfl⟩:=W7.1 (al.len ac);obtain⟨ao,rfl⟩:=W7.1 (al.len ad);subst J V W X Y aa;exact⟨am,an,ao,rfl,c4 ab,c4 ac,Nc ad⟩
theorem Nd {aa ab:x2} {ah:y0} {f:b4} (ak:sT B aa ah cs f) (V:Ext aa ab) (al:ad ab am aD cs) (au:aa.heap.size<=am):
  ∃aj ag A R A9 aP t,ah=Γ aj/\bV ab aj ag am A R A9 aP (cM f) (eb (cM f)) (eb (cM f)) t [] cs/\t.marks=[]/\(∀r,A r->B<=r)/\(∀q r,A9 q r->B<=r)/\t.cells.length<=2000000/\t.olds.length=0/\(cM f).funs.length<=256/\t.ever=0/\(∀r,aP r->B<=r)/\ ∀r,R r->B<=r:=by
 obtain⟨aj,ag,A,R,t,N,A9,aP,ac,rfl,ae,W,an,ao,af,X,ap⟩:=ak;have ai:=qx ae;have z:=V.size;have Y:=(sI (AY ac).1 (vV ac) (cM f).unary.length (cM f).funs.length);rw[vz,<-ae.2.1] at Y;unfold aC.b3 at Y;rw[u5] at Y;refine⟨aj,ag,A,R,λq r=>A9 q r/\r<aa.heap.size,aP,t,rfl,⟨ae.ext V,W.2.2.1,al,ao.old.ext V,λq r h=>⟨(af q r h.1).1,(af q r h.1).2.1,by have:=h.2;omega⟩,λr U=>⟨λh=>(X r U).1 (jL (λo aq J _=>V.bc r o aq J) h),by have:=(X r U).2;omega,by have:=(X r U).2;omega⟩,λh=>by have:=ai am (.inl h);omega,λh=>by have:=ai am (.inr h);omega⟩,W.1,an,λq r h=>(af q r h.1).2.2,Y,by rw[W.2.1];rfl,vV ac,W.2.2.2,λr U=>(X r U).2.2,ap⟩
theorem Nf (ax:e2 w):ai x3 D1 [] w λv w'=>v= .bool true/\Ext w w':=by
 refine az func11 ?_;refine iX (k:=1) (cs:=(ints .u8 jU).toArray) cH.u cq.i Ω Ψ λg V bj J U=>?_;have ae:ao .u8 cq V g (.slice (σ ⟨g,0,ν⟩) 30 30) jU:=ao.of (n:=30) (b1.full (by simpa using U) (by simp[jU]) (by simp[maxLen]));refine M9 U λW ah al=>?_;have J:Ext w W:=J.put ah Ω;have ay:aH .u8 W (.slice (σ ⟨g,0,ν⟩) 30 30) jU:=by
  obtain⟨aA,b,o,base,cap,aB,aC,aE,aF,aI⟩:=ae.ls;cases aB;cases aF (by simp[jU]);exact⟨aA,g,0,_,30,rfl,aC,aE,λ_=>rfl,al _ _ aI⟩
 clear ae U al ah;refine (wm ay (by intro b aJ;simp[jU] at aJ;omega) (ax.ext J)).mono ?_;rintro _ aa _ ⟨aK,aL,cs,ok,rfl,⟨aM,aN⟩,aO,aQ⟩;have an:fj (jU.take 300)=σ fW:=by
  rw[n0 Φ];exact M2
 have aS:ok=true:=aQ fW an M3;subst aS;obtain⟨f,ap,aj,ag,A,R,t,N,A9,aP,bk,rfl,aU,aV,aW,_⟩:∃f,fj (jU.take 300)=σ f/\sT W.heap.size aa aL cs f:=by
  rcases aO with⟨h,_⟩|⟨_,h⟩
  .cases h
  .exact h
 rw[an] at ap;cases ap;have aX:=J.trans aK;rw[hj,hl,hn];refine bp aD.i λam bl bm aY aZ=>?_;refine bK (vs:=cs) aD.i aM rfl aN aZ λa1 a2 bo bq=>?_;have aq:Ext aa a1:=aY.put a2 Ω;have a6:=aU.ext aq;refine aR (λv X=>v= .bool false/\Ext w X/\ ∃aG bD,ci X aj ag aG R (cM fW) (gJ (eb (cM fW)) 1 1) bD) ?_ ?_
 rotate_left
 .intro a7 Y;rw[bg,Y6,aT];refine (vT (i:=1) (v:=1) a6 (.inl aV.1)).mono ?_;rintro br bt _ ⟨_,a8⟩;obtain⟨rfl,bu,aG,x,ba,bb⟩:=a8 M4;rw[bH];refine Y _ _ ⟨by congr 1,?_,aG,_,bb⟩;exact (aX.trans aq).then ba.1 λr bw h=>by have:=aW r h;have:=J.size;omega
 rintro _ X ⟨rfl,bc,aG,bD,au⟩;rw[aT];refine n8 (l:=[1,1]) af.u ac.i Ω rfl Ψ λbx bz bA bB ab bd=>?_;refine (Cs (au.ext ab) bd.ls).mono ?_;rintro _ bC _ ⟨⟨ad,_⟩,av⟩;obtain rfl:=ad (CS.1 M5);rw[M7,bL,bM];refine n8 (l:=[1,0]) af.u ac.i Ω rfl Ψ λbE bF bG bI aw be=>?_;refine (Cs (((au.ext ab).ext av).ext aw) be.ls).mono ?_;rintro _ bJ _ ⟨⟨ad,_⟩,bf⟩;obtain rfl:=ad (CS.1 M6);rw[M8,bL,bM];have bh:=(((bc.trans ab).trans av).trans aw).trans bf;refine aR (λv bi=>v= .bool true/\Ext w bi) (λ_ _ h=>h) λa7 Y=>?_;rw[bn,ak];refine⟨λ_=>?_,λh=>absurd rfl h⟩;rw[bn,ak];refine⟨λ_=>?_,λh=>absurd rfl h⟩;rw[bn,ak];refine⟨λ_=>?_,λh=>absurd rfl h⟩;rw[bn];exact Y _ _ ⟨rfl,bh⟩
section
variable {w0 w:x2} {aj ag am:Nat} {n:aY} {Q:y0->x2->Prop}
end
theorem wn {x:nw} (h:(o6.u8.min<=x.1.val/\x.1.val<=o6.u8.max)/\(X2.min<=x.2.1/\x.2.1<=X2.max)/\(X2.min<=x.2.2.1/\x.2.2.1<=X2.max)/\(X2.min<=x.2.2.2.1/\x.2.2.2.1<=X2.max)/\(X2.min<=x.2.2.2.2.1/\x.2.2.2.2.1<=X2.max)/\
  (∀a∈x.2.2.2.2.2.1,X2.min<=a/\a<=X2.max)/\(∀a∈x.2.2.2.2.2.2.1,X2.min<=a/\a<=X2.max)/\(∀a∈x.2.2.2.2.2.2.2.1,o6.u16.min<=a.val/\a.val<=o6.u16.max)/\True):(iq x).ok:=by
 have ab:o6.u8.min=0:=Φ
 have ac:o6.u8.max=255:=Φ
 have ad:X2.min= -9223372036854775808:=Φ
 have ae:X2.max=9223372036854775807:=Φ
 have af:o6.u16.min=0:=Φ
 have ag:o6.u16.max=65535:=Φ
 rw[ab,ac,ad,ae,af,ag] at h;obtain⟨h1,U,V,W,X,Y,aa,ah,_⟩:=h;exact⟨⟨h1.1,by have:=h1.2;show x.1.val<256;omega⟩,⟨U.1,by have:=U.2;show x.2.1<_;omega⟩,⟨V.1,by have:=V.2;show x.2.2.1<_;omega⟩,⟨W.1,by have:=W.2;show x.2.2.2.1<_;omega⟩,⟨X.1,by have:=X.2;show x.2.2.2.2.1<_;omega⟩,
  λy J=>⟨(Y y J).1,by have:=(Y y J).2;omega⟩,λy J=>⟨(aa y J).1,by have:=(aa y J).2;omega⟩,λy J=>by have h:0<=y/\y<=65535:=ah y J;omega⟩
theorem Ng {A:ah} {t:aC} (h:cX w ag A t):ai x3 FQ [Γ ag] w λv w'=>v=Δ (t.marks.length:Int)/\Ext w w':=by
 obtain⟨U,V,go,cN,aI,W,cG,h1,X,Y,J,aa⟩:=h;refine az func223 ?_;rw[cR j8.u];simp only[Z7,aT];rw[aK cQ.p 2 h1 rfl,dt h0.u J];exact⟨rfl,Ext.refl _⟩
theorem Nh {A:ah} {t:aC} (h:cX w ag A t) (aP:ji t) (be:t.ever<=1000000):ai x3 Et [Γ ag] w λv w'=>v=Δ (t.marks.length:Int)/\ ∃aG,Grow A w aG w'/\cX w' ag aG t.mark:=by
 obtain⟨am,aQ,go,cN,aI,af,cG,h1,au,av,ax,aj⟩:=id h;obtain⟨bf,bg,bh⟩:=aP;obtain⟨⟨aR,aU,ay⟩,aV,aW⟩:=oI h1 au av ax;refine az func72 ?_;rw[cR j8.u];simp only[Z7,aT];rw[aK cQ.p 3 h1 rfl,aL,wrap_u64 Ω Ω,bu,aM cQ.p rfl];refine bj (o:=0+3) eH.i rfl rfl h1 Ξ λV X bi an=>?_;have an:ad V ag cQ [aI,af,cG,.int .u64 ((t.ever:Int)+1)]:=an;have Y:∀ {r:Nat},r=ag->¬(leadsTo aI r\/leadsTo af r\/leadsTo cG r):=λhe aw=>by
  subst he;rcases aw with h|h|h
  .exact aR h
  .exact aU h
  .exact ay h
 have aX:=au.ab X λr J he=>Y he (.inl J);have aY:=av.ab X λr J he=>Y he (.inr (.inl J));have aZ:=ax.ab X λr J he=>Y he (.inr (.inr J));intro aa W _ _;have ac:=an.ext W;have aA:=aX.ext W;have aB:=aY.ext W;have a1:=aZ.ext W;rw[aK cQ.p 2 ac rfl,aK cQ.p 1 ac rfl,dt gO.u aB,aK cQ.p 0 ac rfl,dt gd.u aA,
  bu,aM cQ.p rfl,aS (v:=.int .u64 ((t.ever:Int)+1)) Ψ (ac.cell (o:=0+3) rfl),c8 (cs:=#[Δ (t.olds.length:Int),Δ (t.cells.length:Int),.int .u64 ((t.ever:Int)+1)]) Ψ]
 let a:mO:=⟨t.olds.length,t.cells.length,t.ever+1⟩;have a2:∀u∈hv a,u.oneCell'=true:=by intro v aD;simp[hv] at aD;rcases aD with rfl|rfl|rfl<;>rfl
 refine gg (f:=hv) (a:=a) h0.u dC.i Ω rfl rfl λv3 bk aE bl U a6=>?_;refine⟨.inl U,?_⟩;have a7:=ac.ext U;have a8:=a1.ext U;refine gB (f:=hv) (a:=a) h0.u dC.i rfl a8 (by simpa using a6.sl) a2 Ω Ω λao aF bm ak ba aH=>?_;have aJ:=a7.ab aH λhe=>ay he;rw[bu,aM cQ.p rfl];refine bj (o:=0+2) h0.i (de ak.sl).1 (de ak.sl).2 aJ Ξ λap aN bn al=>?_;have al:ad ap ag cQ [aI,af,ao,.int .u64 ((t.ever:Int)+1)]:=al;have aO:bb hv 3 dC ap aF ao (t.marks++[a]):=ak.ab aN λr J he=>by
  have he:r=ag:=he;subst he;exact cn ak aJ Φ J
 have aq:ae (λr=>leadsTo cG r\/r=ag) aE ap:=(aH.mono λr _ h=>.inl h).trans (aN.mono λr _ h=>.inr h);rw[aK cQ.p 2 al rfl,dt h0.u aO,r8,dj,wrap_i64 (by simp;try omega) (by simp;try omega)];have z3:=U.size;have bo:=W.size;have bp:=X.size;have bc:=(aA.ext U).ab aq λr J he=>he.elim (λhe=>(aV r J).2 he) λhe=>Y he (.inl J);have bd:=(aB.ext U).ab aq λr J he=>he.elim (λhe=>(aW r J).2 he) λhe=>Y he (.inr (.inl J));refine⟨by congr 1;simp,λr=>A r\/aE.heap.size<=r,⟨?_,λr J=>J.imp id λh=>Ω,λr J=>.inl J⟩,.inl am,aQ,go,aF,aI,af,ao,al,bc,bd,aO,λr J=>?_⟩
 .exact ((X.mono λr _ he=>by have he:r=ag:=he;rw[he];exact am).trans ((W.trans U).ab _)).trans (aq.mono λr _ h=>h.elim (λh=>aj r (.inr (.inr h))) λh=>by rw[h];exact am)
 .rcases J with J|J|J
  .exact .inl (aj r (.inl J))
  .exact .inl (aj r (.inr (.inl J)))
  .rcases ba r J with h|h
   .exact .inl (aj r (.inr (.inr h)))
   .exact .inr h
theorem StateM.l2 {aj:Nat} {A R:ah} {n:aY} {s:aB} {t:aC} (h:StateM w aj ag A R n s t):∃J,cX w ag J t/\ ∀U w' bD,Grow J w U w'->cX w' ag U bD->ae (cI w) w w'/\ ∃aG,Grow A w aG w'/\StateM w' aj ag aG R n s bD:=by
 obtain⟨V,W,X,Y,aa⟩:=h;obtain⟨J,ab,ac⟩:=aa.l2;refine⟨J,ab,λU w' bD ad af=>?_⟩;obtain⟨h1,aG,ai,ak⟩:=ac U w' bD ad af;exact⟨h1,aG,ai,V,W,X,Y,ak⟩
section
variable {w:x2} {aj ag:Nat} {A R:ah} {n:aY} {s:aB} {t:aC}
theorem Ni (h:ci w aj ag A R n s t) (hm:t.marks.length<1000) (U:t.ever<=1000000):ai x3 xI [Γ aj] w λv w'=>v=Δ (t.marks.length:Int)/\ae (cI w) w w'/\ ∃aG,Grow A w aG w'/\ci w' aj ag aG R n s t.mark:=by
 obtain⟨W,X,J,Y,aa⟩:=id h;obtain⟨ao,ap,aq,au,av,aw,L,_,ab,_⟩:=h.1.parts;obtain⟨ax,ac,ad⟩:=W.l2;refine az func16 ?_;rw[cR et.u];simp only[Z7,aT];rw[aK bF.p 1 ab rfl];refine (Nh ac J U).mono ?_;rintro _ V _ ⟨rfl,af,ah,ak⟩;obtain⟨al,aG,am,an⟩:=ad af V _ ah ak;refine⟨rfl,al,aG,am,an,X,⟨J.1,J.2.1,?_⟩,Y,aa⟩;show (t.marks++_).length<=_;rw[r8];simp;omega
end
theorem b0.down {B:y0->x2->(y0->x2->Prop)->Prop} (n:Nat) (I:Nat->x2->Prop) (X:n<=1000000000000) (U:I 0 w)
  (V:∀ (q:Nat) (w:x2) (k:y0->x2->Prop),q<n->I q w->(∀w',I (q+1) w'->k (Δ (X2.wrap (((n-1-q:Nat):Int)-1))) w')->B (Δ ((n-1-q:Nat):Int)) w k)
  (W:∀ (w:x2) (k:y0->x2->Prop),I n w->B (Δ (-1)) w k):b0 (Δ ((n:Int)-1)) w B:=by
 refine⟨λt w=>∃q:Nat,t=Δ ((n:Int)-1-q)/\q<=n/\I q w,λt _=>(bS t+1).toNat,⟨0,Ξ,X7 _,U⟩,?_⟩;rintro _ w ⟨q,rfl,Y,h⟩;by_cases J:q<n
 .have e:(n:Int)-1-q=((n-1-q:Nat):Int):=Ω
  rw[e];refine V q w _ J h λw' h'=>?_;rw[wrap_i64 Ω Ω];exact⟨⟨q+1,by congr 1;omega,J,h'⟩,by simp only[bS];omega⟩
 .have e:q=n:=Ω
  subst e;rw[show ((q:Int)-1-q)= -1 by omega];exact W w _ h
theorem Nj {pl:List (Nat×Nat)} {b k:Nat} {z:y0} {i:Nat} {α:Type} {f:α->List y0} {L:List α} {a:α} {S:ah} {K:y0->Prop} (hu:bG x3 e pl) (W:x3.underlying t=σ (.slice e)) (hi:aO x3 e k b z) (V:∀x∈L,(f x).length=k)
  (h:hD S w k v L.length (L.flatMap f)) (J:L[i]? =σ a):U x3 (l7 t v (Δ (i:Int))) w (λp=>U x3 (x7 e p) w K)=K (.agg (f a).toArray):=by
 obtain⟨h1,ac,o,base,cap,rfl,ad,ae,X,_,Y⟩:=h;have aa:=(x4.1 J).1;rw[fz W hi aa λh=>X Ω];rw[br hu hi (V a (x5 J)) λj u ab=>?_];have:=Y (i*k+j) u (m8 V J ab);rwa [<-Q0] at this
theorem Nk {g go:Nat} {os:List jB} (ao:os.length<=100000000):
  ml x3 nR [Γ g] os.length (λk vs _=>∃o,os[os.length-1-k]? =σ o/\vs=[Δ ((os.length-1-k:Nat):Int),.agg (ik o).toArray])
   (λw=>ad w g gO [v]/\hD (λr=>r=go) w 3 v os.length (os.flatMap ik)):=by
 refine⟨nR.enters,λl af ap w aq _ ag ⟨W,J⟩ ah=>?_⟩;refine pq func224 ?_;have ai:U x3 (X0 #[gO] ac #[v]) w=λK=>K (Δ (os.length:Int)):=by
  obtain⟨_,_,_,_,_,rfl,_⟩:=J;funext K;exact gP gO.u
 rw[aS (o:=0) Ψ (W.Qz rfl),ai];simp only[dj];rw[wrap_i64 Ω Ω];refine b0.down os.length (λq aa=>af q aa/\ad aa g gO [v]/\hD (λr=>r=go) aa 3 v os.length (os.flatMap ik)) Ω ⟨ah,W,J⟩ ?_ ?_
 .rintro q aa k X ⟨V,Y,ab⟩ hk;obtain⟨o,ae⟩:=aN (l:=os) (i:=os.length-1-q) Ω;rw[cr,ak];refine⟨λ_=>?_,λh=>Ω⟩;rw[aS (o:=0) Ψ (Y.Qz rfl),Nj fx.p gO.u fx.i (λ_ _=>rfl) ab ae];refine⟨rfl,(ag q _ aa X ⟨Y,ab⟩ ⟨o,ae,rfl⟩ V).mono ?_⟩;rintro _ au (⟨rfl,⟨aj,al⟩,am⟩|⟨rfl,an⟩)
  .rw[bg,Y6,aT,dj];exact hk _ ⟨am.1,aj,al⟩
  .rw[bg,W6,bX];exact .inr ⟨q,X,an⟩
 .rintro aa k ⟨V,_⟩;rw[cr,ak];exact⟨λh=>Ω,λ_=>.inl V⟩
section
variable {α:Type} {f:α->List y0} {k:Nat} {e:o4} {w:x2} {g:Nat} {v:y0} {L:List α}
theorem qB {b:Nat} {z:y0} {i:Nat} (aa:x3.underlying t=σ (.slice e)) (hi:aO x3 e k b z) (h:bb f k e w g v L) (J:i<=L.length):
  ∃W,(∀ (w':x2) (K:y0->Prop),U x3 (V5 t v ν (σ (Δ (i:Int))) ν) w' K=K W)/\bb f k e w g W (L.take i)/\ ∀r,leadsTo W r->leadsTo v r:=by
 obtain⟨⟨ak,⟨rfl,ab⟩|⟨cap,cs,rfl,ac,al,ad,ae,af⟩⟩,X⟩:=id h
 .have ag:L=[]:=Z8 ab;subst ag;have:i=0:=by simpa using J
  subst this;exact⟨_,λw' K=>fM aa hi (l:=0) (h:=0) (m:=0) h4 mD eJ Ω Ω Ω,h,λr Y=>Y⟩
 .have ah:(if cap=0 then (σ ⟨g,0,ν⟩:Option Addr) else U6 (λx:Addr=>x.add (0*k)) (σ ⟨g,0,ν⟩))=σ ⟨g,0,ν⟩:=by split<;>simp[T3]
  refine⟨.slice (σ ⟨g,0,ν⟩) i cap,λw' K=>?_,⟨⟨?_,.inr ⟨cap,cs,by rw[o5,S4 J],ac,by rw[o5];omega,ad,ae,?_⟩⟩,λa V=>X a (U9 V)⟩,λr Y=>by obtain⟨a,_,_,e,ai⟩:=Y;cases e;exact⟨_,_,_,rfl,ai⟩⟩
  .rw[fM aa hi (l:=0) (h:=i) (m:=cap) h4 mD eJ Ω Ω Ω,ah,Nat.sub_zero,Nat.sub_zero]
  .rw[fR λa V=>X a (U9 V)]
  .rw[o5,S4 J];have aj:L.flatMap f=(L.take i).flatMap f++(L.drop i).flatMap f:=by rw[<-List.flatMap_append,List.take_append_drop]
   have am:((L.take i).flatMap f).length=i*k:=by rw[fR λa V=>X a (U9 V),o5,S4 J]
   have:cs.take (i*k)=(cs.take (L.length*k)).take (i*k):=by rw[List.take_take,S4 (X1 _ J)]
   rw[this,af,aj,List.take_append_of_le_length Ω,n0 Ω]
theorem Nl {b:Nat} {z:y0} {i:Nat} {K:y0->Prop} (W:x3.underlying t=σ (.slice e)) (hi:aO x3 e k b z) (h:bb f k e w g v L) (X:i<=L.length)
  (Y:∀aa,hD (λr=>r=g) w k aa (L.drop i).length ((L.drop i).flatMap f)->K aa):U x3 (V5 t v (σ (Δ (i:Int))) ν ν) w K:=by
 obtain⟨⟨ai,⟨rfl,ac⟩|⟨cap,cs,rfl,ad,aj,ak,al,ae⟩⟩,J⟩:=id h
 .have af:L=[]:=Z8 ac;subst af;have:i=0:=by simpa using X
  subst this;rw[fM W hi (l:=0) (h:=0) (m:=0) mA h5 eJ Ω Ω Ω];exact Y _ ⟨Ξ,0,0,ν,0,Ξ,Ξ,by simp[maxLen],λh=>by simp at h,λh=>by simp at h,λj v h=>by simp at h⟩
 .rw[fM W hi (l:=i) (h:=L.length) (m:=cap) mA h5 eJ Ω Ω Ω];have ag:L.flatMap f=(L.take i).flatMap f++(L.drop i).flatMap f:=by rw[<-List.flatMap_append,List.take_append_drop]
  have ah:((L.take i).flatMap f).length=i*k:=by rw[fR λa V=>J a (U9 V),o5,S4 X]
  refine Y _ ⟨fR λa V=>J a (List.mem_of_mem_drop V),g,i*k,_,cap-i,by rw[Q2],by rw[Q2];omega,Ω,λh=>?_,λ_=>rfl,λj u hu=>?_⟩
  .rw[Q2] at h;rw[if_neg Ω];simp[T3]
  .have h1:(L.flatMap f)[i*k+j]? =σ u:=by rw[ag,Y5 Ω,ah,Q1];exact hu
   have ab:=(x4.1 h1).1;rw[fR J] at ab;rw[<-ae,Y7 ab] at h1;have:=ad.cell h1;simpa using this
end
theorem Nn {A:ah} {t:aC} {m:Int} (h:cX w ag A t):ai x3 Fj [Γ ag,Δ m] w λv w'=>v= .bool (decide (0<=m/\m<t.marks.length))/\Ext w w':=by
 refine az func157 ?_;refine aR (λv V=>v= .bool (decide (0<=m/\m<t.marks.length))/\Ext w V) (λ_ _ h=>h) λX J=>?_;rw[cr,ak];refine⟨λU=>?_,λU=>J _ _ ⟨by rw[decide_eq_false Ω],Ext.refl _⟩⟩;refine (Ng h).mono ?_;rintro _ V _ ⟨rfl,W⟩;rw[aQ];refine J _ _ ⟨?_,W⟩;congr 1;exact decide_eq_decide.2 ⟨λh=>⟨U,h⟩,λh=>h.2⟩
theorem No {A:ah} {t:aC} {m:Nat} {x:mO} (h:cX w ag A t) (bM:ji t) (hm:t.marks[m]? =σ x) (bh:x.olds<=t.olds.length) (bN:x.cells<=t.cells.length) (bi:∀o∈t.olds.drop x.olds,o.i<t.cells.length):
  ai x3 Ex [Γ ag,Δ (m:Int)] w λv w'=>v=Δ 0/\ ∃aG,Grow A w aG w'/\cX w' ag aG (t.iE m):=by
 have bO:=(x4.1 hm).1;obtain⟨cp,cq,cr⟩:=bM;refine mw func76 ?_;refine bP λg1 V ct bk X=>?_;have X:ad V g1 j8 [Γ ag]:=X;rw[aS (o:=0) Ψ (X.Qz rfl)];refine (Nn (m:=(m:Int)) (h.ext bk)).mono ?_;rintro _ aa _ ⟨rfl,aj⟩;have aE:=bk.trans aj;rw[decide_eq_true Ω,bg,Y6,aT];obtain⟨bl,aU,go,cN,aI,aq,cG,h1,au,aF,aH,bm⟩:=id (h.ext aE);obtain⟨⟨aV,bQ,bR⟩,aW,cu⟩:=oI h1 au aF aH;rw[aS (o:=0) Ψ ((X.ext aj).Qz rfl),aK cQ.p 2 h1 rfl,cE rfl h0.u dC.i aH bO,br dC.p dC.i rfl (aH.range hm)];refine bp dC.i λam cw cz bS bT=>?_;refine bK (vs:=hv x) dC.i rfl rfl (by intro v ac;simp[hv] at ac;rcases ac with rfl|rfl|rfl<;>rfl) bT λbU bV cA bn=>?_;have bW:Ext aa bU:=bS.put bV Ω;intro cB aX _ _;have al:=bW.trans aX;have cC:=aE.trans al;rw[aS (o:=0) Ψ ((X.ext (aj.trans al)).Qz rfl),aK cQ.p 1 (h1.ext al) rfl,av dC.p 0 (bn.ext aX) rfl];refine Nl gO.u fx.i (aF.ext al) bh λbo aY=>?_;refine az func158 ?_;refine bP λaJ bq cD aL aN=>?_;have aN:ad bq aJ gO [bo]:=by
  obtain⟨_,_,_,_,_,e,_⟩:=aY;rw[e] at aN ⊢;exact aN
 rw[kX];obtain⟨os,aO⟩:∃os,os=t.olds.drop x.olds:=⟨_,rfl⟩;rw[<-aO] at aY bi;have bX:os.length<=100000000:=by rw[aO,Q2];omega
 have af:=al.trans aL;have bY:=aE.trans af;have bZ:=Nk (g:=aJ) (go:=go) (v:=bo) bX;have cF:=aE.size;have cH:=al.size;have cI:=aL.size;have bt:∀r,leadsTo aI r->r=aU/\r<aa.heap.size:=λr J=>⟨(au.leads J).1,by have:=au.leads J;omega⟩;have bw:¬leadsTo aI g1:=λhe=>cn au (X.ext aj) Φ he;refine lG.old ⟨Nat,false,nR,#[Γ aJ],0,_,_,_,λq w'=>ae (λr=>leadsTo aI r) bq w'/\bb gj 2 dP w' aU aI (back (os.drop (os.length-q)) t.cells),λ_ _ _=>False,rfl,bZ.s,
  ?_,λ_ _ aw h=>⟨h.1.ext aw,h.2.ab (aw.ab λ_=>False) λ_ _ _ h=>h⟩,λ_ _ _ aw h=>⟨h.1.trans (aw.ab _),h.2.ext aw⟩,λ_ _ _ _ _ h=>h,⟨aN,aY.ab (aL.ab λ_=>False) λ_ _ _ h=>h⟩,⟨ae.refl _ _,?_⟩,?_,?_,λ_ _ h=>h.elim,λ_ _ _ h=>h.elim⟩
 .rintro _ _ _ _ ⟨_,_,_,_,rfl⟩;rfl
 .rw[Nat.sub_zero,List.drop_length];exact au.ext af
 .rintro _ aq q _ bx ⟨b0,b1⟩ ⟨bz,rfl,o,bA,b2⟩ ⟨U,aP⟩;cases b2;have cJ:=bi o (x5 bA);have b3:=U.size;refine bp fx.i λcK ak cL W b4=>?_;refine bK (vs:=ik o) fx.i rfl rfl (by intro v ac;simp[ik] at ac;rcases ac with rfl|rfl|rfl<;>rfl) b4 λax ay b5 aA=>?_;have b6:Ext bx ax:=W.put ay Ω;intro aZ bB _ cM aB bC _ _;have an:=(b6.trans bB).trans bC;have ao:=(aA.ext bB).ext bC;have Y:ad aB g1 j8 [Γ ag]:=((X.ext (aj.trans af)).ab U bw).ext an;have ap:ad aB ag cQ [aI,aq,cG,.int .u64 (t.ever:Int)]:=((h1.ext af).ab U aV).ext an;have bD:=aP.ext an;have cO:(back (os.drop (os.length-q)) t.cells).length=t.cells.length:=mP _ _;rw[aS (o:=0) Ψ (Y.Qz rfl),aK cQ.p 0 ap rfl,av fx.p 0 ao rfl,aM fx.p rfl,
   br (cs:=gj o.c) (o:=0+1) dP.p dP.i rfl (λj u b7=>by
    have:(ik o)[1+j]? =σ u:=by rw[Nat.add_comm];exact b7
    have:=ao.cell this;simpa using this),cE rfl gd.u dP.i bD Ω]
  refine Ak (f:=gj) (a:=o.c) dP.i bD rfl (by intro v ac;simp[gj] at ac;rcases ac with rfl|rfl<;>rfl) Ω λb8 a1 cP b9=>?_;have ca:leadsTo aq go:=by
   obtain⟨_,cR,cS,e,_⟩:=Bo aF (by rintro e;rw[aO,e] at bz;simp at bz);exact⟨_,_,_,e,rfl⟩
  have cb:∀r,r=go->¬leadsTo aI r:=λr e J=>by subst e;exact (aW r J).1 ca
  refine⟨⟨(b0.ext an).ab a1 λhe=>by have:=bt aJ he;omega,(b1.ab (an.ab λ_=>False) λ_ _ _ h=>h).ab a1 λr _=>cb r⟩,⟨(U.trans (an.ab _)).trans a1,?_⟩,λh=>by cases h⟩;have e:os.drop (os.length-(q+1))=o::os.drop (os.length-q):=by
   rw[show os.length-(q+1)=os.length-1-q by omega,V4 Ω,show os.length-1-q+1=os.length-q by omega];congr 1;exact (x4.1 bA).2
  rw[e];exact b9
 .rintro q bx rfl ⟨U,aP⟩;rw[V9,List.drop_zero] at aP;intro ak W _ _;have b3:=U.size;have z9:=W.size;have Y:ad ak g1 j8 [Γ ag]:=((X.ext (aj.trans af)).ab U bw).ext W;have ap:ad ak ag cQ [aI,aq,cG,.int .u64 (t.ever:Int)]:=((h1.ext af).ab U aV).ext W;have a2:ad ak am dC (hv x):=((bn.ext (aX.trans aL)).ab U λhe=>by have:=bt am he;omega).ext W;have cc:bb ik 3 fx ak go aq t.olds:=((aF.ext af).ab U λr J he=>(aW r he).1 J).ext W;have cd:bb hv 3 dC ak cN cG t.marks:=((aH.ext af).ab U λr J he=>(aW r he).2 J).ext W;have ce:=aP.ext W;obtain⟨aQ,cg,a6,bE⟩:=qB (i:=x.olds) gO.u fx.i cc bh;obtain⟨a7,bF,a8,bG⟩:=qB (i:=x.cells) gd.u dP.i ce (by rw[mP];exact bN);obtain⟨bH,ba,bc,bI⟩:=qB (i:=m) h0.u dC.i cd Ω;rw[aS (o:=0) Ψ (Y.Qz rfl),aS (o:=0) Ψ (Y.Qz rfl),aS (o:=0) Ψ (Y.Qz rfl),aS (o:=0) Ψ (Y.Qz rfl),aK cQ.p 1 ap rfl,av dC.p 0 a2 rfl,cg,
   aS (o:=0) Ψ (Y.Qz rfl),aK cQ.p 0 ap rfl,av dC.p 1 a2 rfl,bF,
   aS (o:=0) Ψ (Y.Qz rfl),aK cQ.p 2 ap rfl,ba,bu,aM cQ.p rfl]
  have bd:∀ {u u':y0} {r:Nat},(∀r,leadsTo u' r->leadsTo u r)->¬leadsTo u ag->leadsTo u' r->¬r=ag:=λch ci cj he=>by subst he;exact ci (ch _ cj)
  have ck:¬am=ag:=λhe=>by have:=h1.lt;omega
  have bJ:¬g1=ag:=λhe=>by
   subst he;exact absurd (ea (X.ext aj) h1) Φ
  refine bj (o:=0+1) gO.i (de a6.sl).1 (de a6.sl).2 ap Ξ λax ay b5 aA=>?_;have aA:ad ax ag cQ [aI,aQ,cG,.int .u64 (t.ever:Int)]:=aA;have be:=Y.ab ay bJ;have cl:=a2.ab ay ck;refine⟨.inr ⟨Go.Vc.gU λK=>ba ax K,Go.Vc.gU λK=>bF ax K,iF Ψ (cl.cell (o:=0+1) rfl),Go.Vc.gU λK=>aM dC.p rfl,iF Ψ (be.Qz rfl),iF Ψ (be.Qz rfl),trivial⟩,?_⟩;rw[bu,aM cQ.p rfl];refine bj (o:=0+0) gd.i (de a8.sl).1 (de a8.sl).2 aA Ξ λaZ bL cT bf=>?_;have bf:ad aZ ag cQ [a7,aQ,cG,.int .u64 (t.ever:Int)]:=bf;refine⟨.inr ⟨Go.Vc.gU λK=>ba aZ K,iF Ψ ((be.ab bL bJ).Qz rfl),trivial⟩,?_⟩;rw[bu,aM cQ.p rfl];refine bj (o:=0+2) h0.i (de bc.sl).1 (de bc.sl).2 bf Ξ λaB cm cU ao=>?_;have ao:ad aB ag cQ [a7,aQ,bH,.int .u64 (t.ever:Int)]:=ao;intro b8 aD _;have aR:ae (λr=>r=ag) ak aB:=(ay.trans bL).trans cm;have hu:t.iE m={cells:=(back os t.cells).take x.cells,olds:=t.olds.take x.olds,marks:=t.marks.take m,ever:=t.ever}:=by
   unfold aC.iE;rw[hm,aO]
  refine⟨rfl,A,⟨?_,λ_ h=>.inl h,λ_ h=>h⟩,?_⟩
  .exact ((bY.ab A).trans (U.mono λr _ h=>bm r (.inl h))).trans ((W.ab A).trans ((aR.mono λr _ h=>by have h:r=ag:=h;rw[h];exact bl).trans (aD.ab A)))
  .rw[hu];exact⟨bl,aU,go,cN,a7,aQ,bH,ao.ext aD,(a8.ab aR λr J=>bd bG aV J).ext aD,(a6.ab aR λr J=>bd bE bQ J).ext aD,(bc.ab aR λr J=>bd bI bR J).ext aD,λr J=>bm r (J.imp (bG r) λh=>h.imp (bE r) (bI r))⟩
structure hb (a b:aB):Prop where
 off:gZ b=gZ a
 fn:∀ (j:Nat) f,a.funs[j]? =σ f-> ∃f',b.funs[j]? =σ f'/\f'.sc=f.sc/\f'.szs=f.szs/\ei b j=ei a j
 el:∃l,b.elims=a.elims++l
theorem hb.refl (s:aB):hb s s:=⟨rfl,λj f h=>⟨f,h,rfl,rfl,rfl⟩,[],by rw[X6]⟩
theorem hb.trans {a b c:aB} (h:hb a b) (k:hb b c):hb a c:=by
 refine⟨k.off.trans h.off,λj f J=>?_,?_⟩
 .obtain⟨U,h1,V,W,X⟩:=h.fn j f J;obtain⟨f2,Y,aa,ab,ac⟩:=k.fn j U h1;exact⟨f2,Y,aa.trans V,ab.trans W,ac.trans X⟩
 .obtain⟨l,e⟩:=h.el;obtain⟨l',ad⟩:=k.el;exact⟨l++l',by rw[ad,e,Z4]⟩
theorem jl.qC {s s':aB} (h:jl s s'):hb s s':=
 ⟨h.1,λj f U=>by
  have aa:=h.2.1;obtain⟨J,V⟩:∃J,s'.funs[j]? =σ J:=⟨_,x6 (by have:=(x4.1 U).1;omega)⟩;obtain⟨f0,h1,W,X,Y⟩:=h.2.2.1 j J V;rw[U] at h1;cases h1;exact⟨J,V,W,X,Y⟩,[],by rw[h.2.2.2,X6]⟩
theorem hb.funs {a b:aB} (h:hb a b):a.funs.length<=b.funs.length:=by
 by_cases J:a.funs.length=0
 .omega
 obtain⟨U,h1,_⟩:=h.fn (a.funs.length-1) _ (x6 Ω);have:=(x4.1 h1).1;omega
section
variable {w:x2} {aj ag:Nat} {A R:ah} {n:aY} {s sm:aB} {t tm:aC} {aw:List aC} {m:Nat}
theorem Np (h:ci w aj ag A R n s t) (hk:eC t aw) (hm:aw.reverse[m]? =σ tm) (aJ:tm.b3=sm.cells) (ba:dA n.k n.sizes sm) (af:hb sm s):
  ai x3 D4 [Γ aj,Δ (m:Int)] w λv w'=>v=Δ 0/\ae (cI w) w w'/\ ∃aG,Grow A w aG w'/\ci w' aj ag aG R n sm {tm with ever:=t.ever}:=by
 obtain⟨⟨ah,al,bR,bb,aL⟩,bS,aN,bT,bc⟩:=id h;obtain⟨hu,x,bd,bf,bU,bV,⟨new,aO,bX,bg⟩,bh,bY⟩:=hk.iE hm;obtain⟨bZ,b0,b1⟩:=id aN;have aP:(t.iE m).b3=sm.cells:=by rw[hu];exact aJ
 obtain⟨⟨a0,_⟩,_,_,_,_,_,_,_,aQ,_⟩:=id aL;refine az func19 ?_;rw[cR et.u];simp only[Z7,aT];rw[aK bF.p 1 aQ rfl];obtain⟨b2,bi,bk⟩:=aL.l2;have b4:tm.olds.length<=t.olds.length:=by rw[aO,r8];omega
 refine (No bi aN bd Ω Ω (λo am=>by rw[aO,bf,List.drop_left] at am;exact bg o am)).mono ?_;rintro _ V _ ⟨rfl,bl,bm,bn⟩;obtain⟨bo,aG,ao,bp⟩:=bk bl V _ bm bn;rw[bH,ak];refine⟨λh=>absurd rfl h,λ_=>?_⟩;intro aa ap _ _;have bq:=bp.ext ap;obtain⟨⟨X,Y,a3,a4⟩,br,bt,ge,L,E,bw,w0,ac,⟨bx,bz,aR⟩,⟨aq,bA,au,bB⟩,aS,⟨aU,aV⟩,aW,aX⟩:=id bq;rw[aK bF.p 3 ac rfl,aK bF.p 1 ac rfl];refine (ku (i:=1) aq rfl (show (t.iE m).b3[1]? =σ (sm.funs.length:Int) by rw[aP];exact K8 sm)).mono ?_;rintro _ b6 _ ⟨rfl,av⟩;refine⟨.inl av,?_⟩;have aY:sm.funs.length<=L.length:=by rw[aV.1];exact af.funs
 obtain⟨l,aZ⟩:=af.el;have a1:sm.elims.length<=E.length:=by rw[aX.1,aZ,r8];omega
 obtain⟨an,bC,ax,a2⟩:=qB (i:=sm.funs.length) ed.u cL.i aU aY;obtain⟨ev',bD,ay,a6⟩:=qB (i:=sm.elims.length) gb.u bW.i aW a1;rw[bC,bu,aM bF.p rfl];refine bj (o:=0+3) ed.i (de ax.sl).1 (de ax.sl).2 (ac.ext av) Ξ λbE bG b7 aA=>?_;have aA:ad bE aj bF [Γ ah,Γ ag,al,an,bb]:=aA;intro bI a7 _ _;have aB:=aA.ext a7;have a8:ae (λr=>r=aj) aa bI:=((av.ab _).trans bG).trans (a7.ab _);have bJ:=aq.ab a8 λr J he=>au (he▸J);rw[aK bF.p 4 aB rfl,aK bF.p 1 aB rfl];refine (ku (i:=2) bJ rfl (show (t.iE m).b3[2]? =σ (sm.elims.length:Int) by rw[aP];exact K9 sm)).mono ?_;rintro _ b8 _ ⟨rfl,aC⟩;refine⟨.inl aC,?_⟩;rw[bD,bu,aM bF.p rfl];refine bj (o:=0+4) gb.i (de ay.sl).1 (de ay.sl).2 (aB.ext aC) Ξ λaD bK b9 aE=>?_;have aE:ad aD aj bF [Γ ah,Γ ag,al,an,ev']:=aE;have U:ae (λr=>r=aj) aa aD:=(a8.trans (aC.ab _)).trans bK;have ca:=U.size;have bL:ek aD aj ag ah al an ev' aG R n sm (t.iE m):=by
  refine⟨⟨X,Y,λr J=>by have:=a3 r J;omega,λr J=>by have:=a4 r J;omega⟩,br,bt,ge,L.take sm.funs.length,E.take sm.elims.length,bw,w0,aE,⟨bx,oM bz U λr o J am he=>Y r (he▸X) (aR r o J am),aR⟩,⟨aq.ab U λr J he=>au (he▸J),bA,au,λr J=>bB r (J.imp id λh=>h.imp (a2 r) (a6 r))⟩,?_,⟨ax.ab U λr J he=>?_,?_,λj y f W bM=>?_⟩,ay.ab U λr J he=>?_,?_,λj y e W he=>?_⟩
  .rw[<-af.off];exact be aS U λr J he=>by cases he;exact b5 aS ac Φ J rfl
  .cases he;exact cn aU ac Φ (a2 _ J)
  .rw[o5,S4 aY]
  .rw[List.getElem?_take] at W;split at W
   .obtain⟨bN,h1,bO,bP,bQ⟩:=af.fn j f bM;obtain⟨aF,aH,aI⟩:=aV.2 j y bN W h1;rw[<-bO,<-bP,<-bQ];exact⟨aF.ab U λr _ J he=>Y r (he▸X) J,aH.ab U λr _ J he=>Y r (he▸X) J,aI⟩
   .cases W
  .cases he;exact cn aW ac Φ (a6 _ J)
  .rw[o5,S4 a1]
  .rw[List.getElem?_take] at W;split at W
   .have h1:s.elims[j]? =σ e:=by rw[aZ,Y3 (x4.1 he).1];exact he
    obtain⟨aF,aH,aI⟩:=aX.2 j y e W h1;exact⟨aF,aH.ab U λr _ J he=>Y r (he▸X) J,aI.ab U λr _ J he=>Y r (he▸X) J⟩
   .cases W
 refine⟨by trivial,(bo.trans (ap.ab _)).trans (U.mono λr _ he=>he▸ .inl ⟨_,_,aQ,Φ⟩),aG,⟨(ao.1.trans (ap.ab _)).trans (U.mono λr _ he=>he▸a0),ao.2.1,ao.2.2⟩,⟨ah,al,an,ev',hu▸bL⟩,aJ,⟨?_,?_,?_⟩,ba,bc⟩
 .show tm.cells.length<=_;omega
 .show tm.olds.length<=_;omega
 .show tm.marks.length<=_;rw[bh,o5];omega
end
theorem Nq (s:aB) (f:dE):hb s {s with funs:=s.funs++[f]}:=
 ⟨rfl,λj g J=>by
  have U:=(x4.1 J).1;refine⟨g,by show (s.funs++[f])[j]? =_;rw[Y3 U];exact J,rfl,rfl,?_⟩;unfold ei;show 3+(_+(((s.funs++[f]).take j).flatMap gk).length)=_;rw[List.take_append_of_le_length Ω],[],(X6 _).symm⟩
theorem Nr {s:aB} {e:hx} {i:Nat} {x y:eX} (J:s.vars[i]? =σ x) (U:y.un.length=x.un.length):hb s {s with elims:=s.elims++[e],vars:=s.vars.set i y}:=
 hb.trans (b:={s with elims:=s.elims++[e]}) ⟨rfl,λj f h=>⟨f,h,rfl,rfl,rfl⟩,[e],rfl⟩ (qd (s:={s with elims:=s.elims++[e]}) J U).qC
theorem Ns {n:aY} {s:aB} {a:dn}:hb s (eO n s a):=by
 unfold eO lp kE jS lr kH lq lu ha gJ iL iN gp
 repeat' split
 all_goals first
  |exact hb.refl _
  |exact (vu s _).qC
  |exact Nq _ _
  |(rename_i J;exact Nr J rfl)
  |(rename_i J;refine jl.qC (qd J ?_)<;>simp;done)
  |(rename_i J;refine jl.qC (sG J ?_ ?_ ?_)<;>simp;done)
  |(rename_i J;cases J;refine jl.qC (sG (by assumption) ?_ ?_ ?_)<;>simp;done)
def nx (s:aB):Prop:=∀e∈s.elims,e.sc.length<=1000/\e.dl.length<=1000
theorem Nt {n:aY} {s:aB} {a:dn} (h:nx s):nx (eO n s a):=by
 unfold eO lp kE jS lr kH lq lu ha gJ iL iN gp
 repeat' split
 all_goals first
  |exact h
  |(intro e he
    rcases l5.1 he with he|he
    .exact h e he
    .rw[l9.1 he];refine⟨by show (a.sc.take 4).length<=_;rw[o5];omega,?_⟩;show (jT n a).length<=_;unfold jT kG;split
     .simp;omega
     .rw[o5];omega)
section
variable {w w':x2} {aj ag am cN:Nat} {A R O M aP:ah} {A9:Nat->ah} {k:Int} {sizes:Λ} {J:List aB} {n:aY} {s u:aB} {t:aC} {h:List aC} {cs:List y0}
theorem bV.side {S:ah} (p:bV w aj ag am A R A9 aP n s u t h cs) (W:ae S w w') (V:∀r,r<w.heap.size->S r->¬A r/\¬R r/\(∀q,¬A9 q r)/\¬aP r/\r≠am):bV w' aj ag am A R A9 aP n s u t h cs:=by
 have z:=W.size;exact⟨⟨p.cJ.1.ab W λr U h J=>h.elim (V r U J).1 (V r U J).2.1,p.cJ.2⟩,p.hV,p.box.ab W λJ=>(V am p.box.lt J).2.2.2.2 rfl,p.doc.ab W λr U h J=>h.elim (λ⟨q,h⟩=>(V r U J).2.2.1 q h) (V r U J).2.2.2.1,p.apart,
  λr U=>⟨λh=>(p.read r U).1 (jL (λo X J _=>W.bc r o X J λY=>(V r (p.read r U).2.1 Y).2.2.2.1 U) h),by have:=(p.read r U).2.1;omega,(p.read r U).2.2⟩,p.out⟩
end
theorem Nu {w0:x2} {out:y0} {g:Nat} {x:Int} (U:Ext w0 w) (hm:ao .i64 ac w g out l) (W:∀r,leads out r->w0.heap.size<=r) (ai:l.length<=1000000000)
  (Y:∀v w' aa,Ext w0 w'->ao .i64 ac w' aa v (l++[x])->(∀r,leads v r->w0.heap.size<=r)->K v w'):
  ay x3 (Y1 af 1 #[(0,Δ x)]) w λy V=>ay x3 (j4 #[af,af] af #[out,y]) V K:=by
 refine dJ (k:=.i64) af.u ac.i rfl λv4 aj ak al J ab=>?_;refine fc af.u ac.i rfl (hm.ext J) ab.ls Θ Θ λv5 ad am ae ag ah=>?_;have z:=(U.trans J).size;exact Y _ _ ad ((U.trans J).then ah λr X he=>by have:=W r he;omega) ae λr X=>(ag r X).elim (W r) λh=>Ω
theorem CT {s:aB} {i:Int} {j:Nat}:fV s i (j+1)=if hX s i j=true then fV s i j++[(j:Int)] else fV s i j:=by
 unfold fV;rw[List.range_succ,List.filter_append];cases J:hX s i j<;>simp[J]
theorem Nv {s:aB} {i:Int} {j:Nat}:(fV s i j).length<=j:=by
 unfold fV;rw[u5];have:=S5 (hX s i) (V0 j);rw[List.length_range] at this;exact this
theorem wo (x:eX):(bN x).length<=x.un.length:=by
 unfold bN;have:=S5 (λv:Int=>!dropped x.mask v) ((V0 x.un.length).map λv:Nat=>(v:Int));rw[u5,List.length_range] at this;exact this
def CU (w:x2) (g:Nat) (v:y0) (l:List hx):Prop:=∃E,bb hT 3 bW w g v E/\E.length=l.length/\ ∀ (q:Nat) x e,E[q]? =σ x->l[q]? =σ e->x.v=e.v/\(∃g,ao .i64 ac w g x.ax e.sc)/\ ∃g,ao .i64 ac w g x.bv e.dl
section
variable {w:x2} {aj ag:Nat} {A R:ah} {n:aY} {s:aB} {t:aC}
theorem Nw (h:ci w aj ag A R n s t) (aB:nx s) (bh:s.elims.length<=100000):ai x3 EE [Γ aj] w λv w'=>Ext w w'/\ ∃g,CU w' g v s.elims/\ ∀r,leadsTo v r->w.heap.size<=r:=by
 obtain⟨⟨bi,bj,bl,bm,al⟩,_⟩:=h;obtain⟨_,_,_,_,_,E,_,_,aC,_,_,_,_,af,am⟩:=id al;have bn:E.length=s.elims.length:=am.1;refine az func85 ?_;rw[cR et.u];simp only[Z7,aT];rw[aK bF.p 4 aC rfl,dt gb.u af];refine bA.range E.length (λj out aa=>Ext w aa/\ ∃g,CU aa g out (s.elims.take j)/\ ∀r,leadsTo out r->w.heap.size<=r) Ω ⟨Ext.refl _,0,⟨[],bb.nil _ _ _ _ _,rfl,λq x e h=>by simp at h⟩,λr U=>(eT U).elim⟩ ?_ ?_
 .rintro j out aa aD an ⟨J,g,⟨O,V,ap,aE⟩,ab⟩ aF;obtain⟨x,aq⟩:=aN (l:=E) an;obtain⟨e,ah⟩:=aN (l:=s.elims) (i:=j) Ω;obtain⟨bo,bq⟩:=aB e (x5 ah);have bt:=al.ext J;obtain⟨aG,aH,aI⟩:=am.2 j x e aq ah;have f2:=aH.ls.ext J;have f3:=aI.ls.ext J;refine bk Ω ?_;rw[cE rfl gb.u bW.i (af.ext J) an,br bW.p bW.i rfl ((af.ext J).range aq)];refine bp bW.i λge bu bw aJ aM=>?_;refine bK (vs:=hT x) bW.i rfl rfl (by intro u hu;simp[hT] at hu;rcases hu with rfl|rfl|rfl<;>first|rfl|exact f2.cells.2|exact f3.cells.2) aM λaO aP bx aR=>?_;have ad:Ext aa aO:=aJ.put aP Ω;rw[br bW.p bW.i rfl aR.range];refine (CQ (v:=x.v) (f2.ext ad) (f3.ext ad) Ω Ω).mono ?_;rintro _ bz _ ⟨aS,aU,aV,g1,bB,rfl,bC,bD,au,av⟩;let a:nk:=⟨x.v,aU,aV⟩;refine gg (f:=hT) (a:=a) gb.u bW.i Ω rfl rfl λbE bG aW bH ae aX=>?_;have W:=(ad.trans aS).trans ae;have bI:=J.size;have bJ:=W.size;have bL:=ad.size;have bM:=ae.size;have aw:(s.elims.take j).length=j:=by rw[o5];omega
  refine gB (f:=hT) (a:=a) gb.u bW.i rfl (V.ext W) (by simpa using aX.sl) (by intro u hu;simp[hT,a] at hu;rcases hu with rfl|rfl|rfl<;>first|rfl|exact au.ls.cells.2|exact av.ls.cells.2) Ω Ω λbN aY ax aZ a1 ay=>?_;have bO:∀r,leadsTo out r->r=g/\r<aa.heap.size:=λr U=>by obtain⟨aA,bP⟩:=V.leads U;omega
  have a2:Ext w ax:=(J.trans W).then ay λr U he=>by have:=ab r he;omega
  rw[aL];refine aF _ _ ⟨a2,aY,⟨O++[a],aZ,by simp[ap,aw];omega,λq y f Y X=>?_⟩,λr U=>(a1 r U).elim (ab r) λh=>Ω⟩;have bc:∀ {v:y0} {a6:Nat} {l:Λ},ao .i64 ac aW a6 v l-> ∃g,ao .i64 ac ax g v l:=λhm=>⟨_,be hm ay λr U he=>by
   obtain⟨aA,c,a7⟩:=dy (V.ext W) he;exact b5 hm a7 Φ U aA⟩
  by_cases a8:q<O.length
  .rw[Y3 a8] at Y;rw[List.getElem?_take] at X;split at X
   .obtain⟨ba,⟨_,bd⟩,_,bf⟩:=aE q y f Y (by rw[List.getElem?_take,if_pos Ω];exact X);exact⟨ba,bc (bd.ext W),bc (bf.ext W)⟩
   .cases X
  .have bg:q=O.length:=by have:=(x4.1 Y).1;simp at this;omega
   subst bg;rw[Y5 (n9 _),V9] at Y;rw[ap,aw,List.getElem?_take,if_pos Ω,ah] at X;cases Y;cases X;exact⟨aG,bc (au.ext ae),bc (av.ext ae)⟩
 .rintro out aa aD ⟨J,g,V,ab⟩;rw[aQ,ak];refine⟨λh=>Ω,λ_=>⟨J,g,?_,ab⟩⟩;rw[n0 Ω] at V;exact V
end
theorem sU {out:y0} {g:Nat} {x:Int} (hm:ao .i64 an w g out l) (ag:l.length<=1000000000000)
  (U:∀v w' W,ae (λr=>leads out r) w w'->ao .i64 an w' W v (l++[x])->(∀r,leads v r->leads out r\/w.heap.size<=r)->K v w'):
  ay x3 (Y1 au 1 #[(0,Δ x)]) w λy V=>ay x3 (j4 #[au,au] au #[out,y]) V K:=by
 refine dJ (k:=.i64) au.u an.i rfl λv4 ah ai aj J X=>?_;refine fc au.u an.i rfl (hm.ext J) X.ls Θ Θ λv5 Y ak aa ac ad=>?_;have z:=J.size;exact U _ _ Y ((J.ab _).trans ad) aa λr af=>(ac r af).imp id λh=>Ω
def jp (l:Λ):Λ:=(l.length:Int)::l
def ny (w:x2) (out v:y0) (l:Λ) (w':x2):Prop:=ae (λr=>leads out r) w w'/\(∃g,ao .i64 an w' g v l)/\ ∀r,leads v r->leads out r\/w.heap.size<=r
theorem ny.trans {V aa:x2} {o u:y0} {l':Λ} (h:ny w o v l V) (k:ny V v u l' aa):ny w o u l' aa:=by
 obtain⟨h1,_,W⟩:=h;obtain⟨X,ab,ac⟩:=k;have z:=h1.size;have ad:=X.size;exact⟨⟨Ω,λr x U J Y=>X.bc r x (h1.bc r x U J Y) J λh=>(W r h).elim Y λh=>by have:=(Z1.1 U).1;omega⟩,ab,λr U=>(ac r U).elim (W r) λh=>.inr Ω⟩
theorem CV {k U:o6} {J:o4} {g V:Nat} {u:y0} {l':Λ} (h:ao k e w g v l) (h':ao U J w V u l') (he:e≠J) (W:ae (λr=>leads u r) w w'):ao k e w' g v l:=be h W λr X hu=>by
 obtain⟨ab,Y⟩:=jQ h r X;obtain⟨ac,aa⟩:=jQ h' r hu;exact he (ea Y aa)
theorem Nx {k:o6} {J:o4} {g b:Nat} {u:y0} (U:ad w b J cs) (h:ao k e w g u l) (he:e≠J) (V:ae (λr=>leads u r) w w'):ad w' b J cs:=U.ab V λhu=>by
 obtain⟨X,W⟩:=jQ h b hu;exact he (ea W U)
theorem sV {out U:y0} {g W:Nat} {o:Λ} (hm:ao .i64 an w g out o) (X:ao .i64 ac w W U l) (ax:o.length+l.length<=100000000000):ai x3 Ei [out,U] w λv w'=>ny w out v (o++jp l) w':=by
 refine az func61 ?_;rw[aU af.u X.ls];refine sU hm Ω λaj V g1 Y ak al=>?_;have ab:=CV X hm Φ Y;have am:ny w out aj (o++[(l.length:Int)]) V:=⟨Y,⟨g1,ak⟩,al⟩;rw[aU af.u ab.ls];refine bA.range l.length (λi a aa=>ny w out a (o++(l.length:Int)::l.take i) aa/\ao .i64 ac aa W U l) Ω ⟨by rw[List.take_zero];exact am,ab⟩ ?_ ?_
 .rintro i a aa ap hi ⟨J,ad⟩ aq;obtain⟨x,ae⟩:=aN (l:=l) hi;obtain⟨_,⟨ay,ag⟩,_⟩:=id J;refine bk Ω ?_;rw[bf af.u ac.i Ψ ad.ls ae];refine sU ag (by rw[r8,Z5,o5];omega) λv3 aA au ah av aw=>?_;rw[aL];refine aq _ _ ⟨J.trans ⟨ah,⟨au,?_⟩,aw⟩,CV ad ag Φ ah⟩;rw[r9,ae];simpa using av
 .rintro a aa ap ⟨J,_⟩;refine b2 Ω ?_;rw[o9] at J;exact J
def di (s:aB) (sc t:Λ):Bool:=(sc.zip t).all λp=>match s.vars[p.1.toNat]? with
 |some x=>decide (p.2∈bN x)
 |none=>false
section
variable {w:x2} {aj ag:Nat} {A R:ah} {n:aY} {s:aB} {t:aC}
theorem Ny {szv aF:y0} {szs J:Λ} {at_:Int} (h:ci w aj ag A R n s t) (X:aH .i64 w ax sc) (ay:aH .i64 w szv szs) (aA:∀v∈sc,0<=v/\v<n.sizes.length) (aB:aH .i64 w aF J) (aW:J.length=sc.length):
  ai x3 Es [Γ aj,.agg #[ax,szv,Δ at_],aF] w λr w'=>r= .bool (di s sc J)/\Ext w w':=by
 have aX:=h.2.2.2.1.vars;refine az func71 ?_;refine bP λg1 V aY aq Y=>?_;have Y:ad V g1 cL [ax,szv,Δ at_]:=by
  obtain⟨_,_,_,aC⟩:=b7 X;obtain⟨_,_,_,aD⟩:=b7 ay;rw[aC,aD] at Y ⊢;exact Y
 rw[av cL.p 0 Y rfl,aU af.u (X.ext aq)];refine bA.range sc.length (λi _ aa=>Ext w aa/\di s (sc.take i) (J.take i)=true) X.le ⟨aq,rfl⟩ ?_ ?_
 .rintro i aE aa aG hi ⟨ab,U⟩ aI;obtain⟨v,ae⟩:=aN (l:=sc) hi;obtain⟨y,am⟩:=aN (l:=J) (i:=i) Ω;have au:=aA v (x5 ae);obtain⟨x,ah⟩:=aN (l:=s.vars) (i:=v.toNat) Ω;refine bk Ω ?_;rw[bf af.u ac.i Ψ (X.ext ab) ae];intro aZ aJ _ _;have al:=ab.trans aJ;refine rE rfl af.u ac.i (aB.ext al) am λb o aK=>?_;rw[aS (v:=Δ y) Ψ aK];refine (oT (i:=v) (h.ext al)).mono ?_;rintro _ a1 _ ⟨⟨b,m,rfl,an⟩,ao⟩;refine⟨.inl ao,?_⟩;refine (Cn an.1).mono ?_;rintro _ a2 _ ⟨rfl,aw⟩;obtain⟨hm,aM⟩:=an.2.2 x au.1 ah;have a6:=sP an au.1 ah;have aO:(decide (0<=y/\y<(m:Int))&&b.testBit y.toNat)=decide (y∈bN x):=by
   rw[aM,hm];by_cases W:0<=y/\y<(x.un.length:Int)
   .rw[decide_eq_true W,V6,decide_eq_true Ω,V6,Int.toNat_of_nonneg W.1];have:=L7 (x:=x) W;rw[U4,decide_eq_true_eq];simpa using this.symm
   .rw[decide_eq_false W,Bool.false_and];symm;refine decide_eq_false λhm=>W ?_;unfold bN at hm;obtain⟨h1,_⟩:=List.mem_filter.1 hm;obtain⟨q,aP,rfl⟩:=Z6.1 h1;have:=List.mem_range.1 aP;omega
  have aR:(sc.take (i+1)).zip (J.take (i+1))=(sc.take i).zip (J.take i)++[(v,y)]:=by
   rw[r9,r9,ae,am,j6,j6,List.zip_append Θ];rfl
  have aT:di s (sc.take (i+1)) (J.take (i+1))=decide (y∈bN x):=by
   unfold di at U ⊢;rw[aR,List.all_append,U,V6];simp[ah]
  rw[aO,bg,bt];refine⟨λap=>?_,λap=>?_⟩
  .refine⟨?_,(al.trans ao).trans aw⟩;congr 1;symm;have aV:(v,y)∈sc.zip J:=x5 (List.getElem?_zip_eq_some.2 ⟨ae,am⟩);unfold di;rw[List.all_eq_false];exact⟨_,aV,by simp only[ah];simpa using ap⟩
  .rw[aL];exact aI _ _ ⟨(al.trans ao).trans aw,by rw[aT];simpa using ap⟩
 .rintro aE aa aG ⟨ab,U⟩;rw[aQ,ak];refine⟨λh=>Ω,λ_=>⟨?_,ab⟩⟩;rw[o9,n0 Ω] at U;rw[U]
end
def fF (x:eX):Λ:=if x.gone≠0 then[] else (bN x).map λv=>x.un.getD v.toNat 0
def dG (x:eX):Λ:=[x.gone]++jp (bN x)++fF x
def dS (s:aB) (f:dE):Λ:=if f.live≠0 then jp f.sc++((bh f.szs).filter (di s f.sc)).map (ch f.szs f.cs) else[]
def fv (e:hx):Λ:=[-1,e.v]++jp e.sc++jp e.dl
def lv (s:aB):Λ:=[s.zero]++s.vars.flatMap dG++s.funs.flatMap (dS s)++s.elims.flatMap fv
theorem oZ (l:Λ):(jp l).length=l.length+1:=rfl
def hc (w w':x2) (aj g1 go:Nat) (l:Λ):Prop:=Ext w w'/\ad w' g1 et [Γ aj]/\ ∃v g,ad w' go au [v]/\ao .i64 an w' g v l/\ ∀r,leads v r->w.heap.size<=r
section
variable {w V aa:x2} {aj ag g1 go:Nat} {A R:ah} {n:aY} {s:aB} {t:aC} {l l':Λ}
theorem hc.ext (h:hc w V aj g1 go l) (J:Ext V aa):hc w aa aj g1 go l:=by
 obtain⟨h1,U,v,g,W,X,Y⟩:=h;exact⟨h1.trans J,U.ext J,v,g,W.ext J,X.ext J,Y⟩
theorem hc.put {u:y0} {g:Nat} {K:Unit->x2->Prop} (ac:Ext w V) (ai:w.heap.size<=go) (W:ad V g1 et [Γ aj]) (U:ad V go au [u]) (hm:ao .i64 an V g v l) (af:∀r,leads v r->w.heap.size<=r)
  (ag:∀aa,ae (λr=>r=go) V aa->hc w aa aj g1 go l->K () aa):ay x3 (o7 au (Γ go) v) V K:=by
 have X:=hm.ls.cells;refine bj (g:=go) (o:=0) au.i X.1 X.2 U Ξ λaa J ak ah=>ag aa J ⟨ac.then J λr Y he=>by have he:r=go:=he;omega,W.ab J λhe=>?_,v,g,ah,be hm J λr Y he=>?_,af⟩
 .have he:g1=go:=he;subst he;exact absurd (ea W U) Φ
 .have he:r=go:=he;subst he;obtain⟨c,b⟩:=jQ hm r Y;exact absurd (ea b U) Φ
theorem side {g b:Nat} (J:ad V b e cs) (hm:ao .i64 an V g v l) (he:an≠e) (U:ae (λr=>leads v r) V aa):ad aa b e cs:=Nx J hm he U
theorem qD {u:y0} {b:Nat} (J:ad V b e cs) (U:ad V go au [u]) (he:au≠e) (W:ae (λr=>r=go) V aa):ad aa b e cs:=J.ab W λh=>by
 have h:b=go:=h;subst h;exact he (ea U J)
end
theorem jy {α β:Type} {f:α->List β} {L:List α} {b:Nat} (h:∀a∈L,(f a).length<=b):(L.flatMap f).length<=L.length*b:=by
 induction L with
 |nil=>simp
 |cons a L J=>
  rw[X3,r8,Z5,U7,Nat.one_mul];have:=h a Ξ;have:=J λa U=>h a (by simp[U]);omega
section
variable {w:x2} {aj ag:Nat} {A R:ah} {n:aY} {s:aB} {t:aC}
theorem Nz (J:dA k sizes s):∀x∈s.vars,(dG x).length<=66:=λx U=>by
 obtain⟨i,hi⟩:=X4.1 U;have V:=J.vars;have W:=(x4.1 hi).1;obtain⟨X,_⟩:=J.var i x _ hi (x6 Ω);have Y:=J.ej.2.2 _ (S3 (l:=sizes) (n:=i) Ω);have:=wo x;have hu:(fF x).length<=(bN x).length:=by unfold fF;split<;>simp
 unfold dG;rw[r8,r8,oZ];simp;omega
theorem NA (U:dA k sizes s):∀f∈s.funs,(dS s f).length<=4103:=λf Y=>by
 obtain⟨J,V,_⟩:=U.funs f Y;have aa:dW f.szs:=by rw[V];exact ld U.ej.2.2 λv W=>⟨(J.scope.1 v W).1,J.vars v W⟩
 have h1:=hq aa;have ab:aJ f.szs<=4096:=by rw[V];exact J.small
 have ac:=S5 (di s f.sc) (bh f.szs);have X:=J.scope.2;have X:f.sc.length<=6:=X;unfold dS;split
 .rw[r8,oZ,u5];omega
 .simp
theorem CW (h:ci w aj ag A R n s t) (ct:Laid w) (X:nx s) (gl:s.funs.length<=100000) (gm:s.elims.length<=100000):ai x3 xH [Γ aj] w λv w'=>Ext w w'/\ ∃g,ao .i64 an w' g v (lv s)/\ ∀r,leads v r->w.heap.size<=r:=by
 have aG:=h.2.2.2.1;have gn:=aG.vars;have gp:=aG.ej.2.1;have dk:=Nz aG;have dl:=NA aG;obtain⟨⟨gq,gt,gu,gv,eN⟩,_⟩:=id h;obtain⟨_,_,_,_,cu,cw,_,_,dm,_,_,_,⟨cz,dn⟩,cA,dp⟩:=id eN;have gw:cu.length=s.funs.length:=dn.1;have gx:cw.length=s.elims.length:=dp.1;refine mw func15 ?_;refine bP λg1 V gy cB bo=>?_;have bo:ad V g1 et [Γ aj]:=bo;rw[aS (v:=Γ aj) Ψ (bo.Qz rfl),cR et.u];simp only[Z7,aT];rw[aS (v:=Γ aj) Ψ (bo.Qz rfl)];refine (vO (h.ext cB)).mono ?_;rintro _ gB _ ⟨rfl,dq⟩;refine dJ (k:=.i64) au.u an.i rfl λv4 gC gD gE dr ds=>?_;refine bp au.i λgo eO a6 du am=>?_;have gF:=cB.size;have z3:=dq.size;have z4:=dr.size;have bT:=(dq.trans dr).trans du;have am:ad eO go au [.slice ν 0 0]:=am;refine hc.put (w:=w) (g1:=g1) (cB.trans bT) Ω (bo.ext bT) am (ds.ext du) (λr W=>by obtain⟨e,_⟩:=bz ds W;omega) λgH gI cC=>?_;rw[aS (v:=Γ aj) Ψ (cC.2.1.Qz rfl)];refine (sL (h.ext cC.1)).mono ?_;rintro _ gJ _ ⟨rfl,eP⟩;have a6:w.heap.size<=go:=Ω
 refine b0.range n.sizes.length (λi bU=>hc w bU aj g1 go ([s.zero]++(s.vars.take i).flatMap dG)) Ω (by rw[List.take_zero,List.flatMap_nil,X6];exact cC.ext eP) ?_ ?_
 .rintro i bU eQ hi ay eR;obtain⟨x,aQ⟩:=aN (l:=s.vars) (i:=i) Ω;have bq:([s.zero]++(s.vars.take i).flatMap dG).length<=100000:=by
   have:=jy (L:=s.vars.take i) (f:=dG) (b:=66) λa bu=>dk a (U9 bu);rw[o5] at this;rw[r8];have ap:min i s.vars.length*66<=64*66:=X1 _ Ω;simp only[U2];omega
  generalize bw:[s.zero]++(s.vars.take i).flatMap dG=aH at ay bq;have bA:[s.zero]++(s.vars.take (i+1)).flatMap dG=aH++dG x:=by
   rw[<-bw,r9,aQ,j6,List.flatMap_append,List.flatMap_singleton,Z4]
  refine bk Ω ?_;refine bp ac.i λa7 eS gK eU cD=>?_;have cD:ad eS a7 ac [Δ 0]:=cD;refine bj (g:=a7) (o:=0) ac.i rfl rfl cD Ξ λdw eV gL cG=>?_;have cG:ad dw a7 ac [Δ (i:Int)]:=cG;have eW:Ext bU dw:=eU.put eV Ω;intro gM dx _ _;have cH:=cG.ext dx;obtain⟨aI,bV,v,g,am,hm,aR⟩:=ay.ext (eW.trans dx);obtain⟨gN,gO,gP,gQ,gR,gS,L,gT,dy,gV,eX,eZ,gW,gX⟩:=(h.ext aI).1.parts;have al:∀ {aq:x2} {K:y0->Prop},ad aq g1 et [Γ aj]->K (Γ aj)->U x3 (x7 et (Γ g1)) aq K:=λX aU=>by
   rw[aS (v:=Γ aj) Ψ (X.Qz rfl)];exact aU
  have bB:∀ {aq:x2} {K:y0->Prop},ad aq a7 ac [Δ (i:Int)]->K (Δ (i:Int))->U x3 (x7 ac (Γ a7)) aq K:=λX aU=>by
   rw[aS (v:=Δ (i:Int)) Ψ (X.Qz rfl)];exact aU
  rw[aS (v:=v) Ψ (am.Qz rfl)];refine al bV ?_;rw[aK bF.p 1 dy rfl];refine al bV ?_;rw[aK bF.p 2 dy rfl];refine bB cH ?_;rw[dY (y:=(i:Int)) (i:=i) rfl af.u ac.i Ψ eZ.ls (oR Ω)];refine al bV (bB cH ?_);have bX:t.b3[eY s i+0]? =σ x.gone:=by rw[h.2.1,oJ aQ Ω];rfl
  refine (ku (i:=eY s i) eX rfl bX).mono ?_;rintro _ gY _ ⟨rfl,cI⟩;refine⟨.inl cI,?_⟩;refine dJ (k:=.i64) au.u an.i rfl λgZ g0 g2 g3 dz e0=>?_;refine⟨.inl (cI.trans dz),?_⟩;have a8:=cI.trans dz;have az:=hm.ext a8;refine fc au.u an.i rfl az e0.ls Θ Θ λcJ e1 cK aA cM aB=>?_;have e2:=aI.size;have g4:=a8.size;have bC:∀r,leads cJ r->w.heap.size<=r:=λr W=>(cM r W).elim (aR r) λh=>Ω
  have aO:Ext w cK:=(aI.trans a8).then aB λr W he=>by have:=aR r he;omega
  have dA:=side (cH.ext a8) az Φ aB;have bY:=side (bV.ext a8) az Φ aB;have cN:=side (am.ext a8) az Φ aB;refine⟨.inr ⟨iF Ψ (dA.Qz rfl),iF Ψ (bY.Qz rfl),trivial⟩,?_⟩;refine (oT (i:=(i:Int)) (h.ext aO)).mono ?_;rintro _ g5 _ ⟨⟨g6,g7,rfl,dC⟩,bT⟩;refine uC.mono ?_;rintro _ dD _ ⟨e3,dE,rfl,g8,cO⟩;have dF:=sP dC Ω (by rw[j0];exact aQ);have dH:=bT.trans e3;have g9:=wo x;have ha:=(aG.var i x _ aQ (x6 hi)).1;have hb:=aG.ej.2.2 _ (S3 hi);refine (vc (L:=bN x) (uB (g:=dE) dC.1) (λk vs w hk=>by
    obtain⟨v,aV,rfl⟩:=hk;exact⟨v,by rw[<-dF,u4,aV];rfl,rfl⟩) (λa b bX dI=>⟨dI.1.ab bX λh=>by have:=cO.lt;have h:dD.heap.size<=dE:=h;omega,nY bX (λh=>by have h:dD.heap.size<=0:=h;have:=cO.lt;omega) dI.2⟩) ⟨cO,ct.ext (aO.trans dH)⟩ (by rw[<-dF,u5]) Ω).mono ?_
  rintro hd hf _ ⟨e4,hg,_,e5⟩;have aC:=dH.trans e4;refine (sV (aA.ext aC) e5 Θ).mono ?_;rintro b1 bD _ ⟨aa,⟨dK,aW⟩,bE⟩;have e6:=aO.size;have hh:=aC.size;have b4:∀r,leads b1 r->w.heap.size<=r:=λr W=>(bE r W).elim (bC r) λh=>Ω
  have aX:Ext w bD:=(aO.trans aC).then aa λr W he=>by have:=bC r he;omega
  have e7:=side (dA.ext aC) (aA.ext aC) Φ aa;have cP:=side (bY.ext aC) (aA.ext aC) Φ aa;have b5:=side (cN.ext aC) (aA.ext aC) Φ aa;refine hc.put (w:=w) (g1:=g1) aX a6 cP b5 aW b4 λb6 aY bG=>?_;have dL:=qD e7 b5 Φ aY;refine al bG.2.1 (bB dL ?_);refine (oT (i:=(i:Int)) (h.ext bG.1)).mono ?_;rintro _ e8 _ ⟨⟨e9,fa,rfl,dM⟩,fb⟩;refine uC.mono ?_;rintro _ hj _ ⟨fd,dN,rfl,fe,ff⟩;have dO:=fb.trans fd;have dP:=sP dM Ω (by rw[j0];exact aQ);have dQ:=bG.ext dO;let dT:=aH++[x.gone]++jp (bN x);refine nK.old ⟨Nat,false,mv,#[Γ dN],_,_,_,_,λq w'=>hc w w' aj g1 go (dT++(fF x).take q)/\ad w' a7 ac [Δ (i:Int)],λ_ _ _=>False,rfl,(uB (g:=dN) dM.1).s,?_,
   λ_ _ Y h=>⟨h.1.ext Y,h.2.ext Y⟩,λ_ _ _ Y h=>⟨h.1.ext Y,h.2.ext Y⟩,λ_ _ _ _ _ h=>h,⟨ff,ct.ext dQ.1⟩,⟨by rw[List.take_zero,X6];exact dQ,dL.ext dO⟩,?_,?_,λ_ _ h=>h.elim,λ_ _ _ h=>h.elim⟩
  .rintro _ _ _ _ ⟨_,_,_,_,rfl⟩;rfl
  .rintro _ q _ dU ⟨dV,fg⟩ ⟨b7,rfl,y,b8,fh⟩ ⟨b9,cQ⟩;cases fh;intro hl cS _ _;have cT:=b9.ext cS;have cU:=cQ.ext cS;have dX:(bN x)[q]? =σ (y:Int):=by rw[<-dP,u4,b8];rfl
   have dZ:=x5 dX;have hn:0<=(y:Int)/\(y:Int)<x.un.length:=by
    unfold bN at dZ;obtain⟨h1,_⟩:=List.mem_filter.1 dZ;obtain⟨j,aZ,e⟩:=Z6.1 h1;have:=List.mem_range.1 aZ;omega
   refine al cT.2.1 (bB cU ?_);refine (vQ (i:=(i:Int)) (v:=(y:Int)) (h.ext cT.1)).mono ?_;rintro _ ho _ ⟨rfl,ca⟩;have fi:eF n i y:=⟨Ω,Ω,Ω,by rw[j0,u9,x6 hi,S1];omega⟩;have fj:l8 s (i:Int).toNat (y:Int).toNat=x.un.getD y 0:=by
    rw[j0,j0];unfold l8;rw[aQ]
   have bH:=cT.ext ca;rw[if_pos fi,fj,bL,bM];refine al bH.2.1 (bB (cU.ext ca) ?_);refine (qm (i:=(i:Int)) (h.ext bH.1)).mono ?_;rintro _ hp _ ⟨rfl,cb⟩;have fk:(decide (0<=(i:Int))&&ft s (i:Int).toNat)=decide (x.gone≠0):=by
    rw[decide_eq_true Ω,V6,j0];unfold ft;rw[aQ]
   have cc:=(cS.trans ca).trans cb;rw[fk,bg,bt];refine⟨λa1=>?_,λa1=>?_⟩
   .have ba:¬x.gone≠0:=by simpa using a1
    obtain⟨bJ,cV,v5,fm,aP,ae,bO⟩:=bH.ext cb;rw[aS (v:=v5) Ψ (aP.Qz rfl)];have fo:((fF x).take q).length<=100:=by rw[o5];unfold fF;rw[if_neg ba,u5];omega
    refine sU ae (by simp only[dT,r8,oZ,U2];omega) λfp cW fq ah cX cY=>?_;have fs:=bJ.size;have cZ:Ext w cW:=bJ.then ah λr W he=>by have:=bO r he;omega
    refine hc.put (w:=w) (g1:=g1) cZ a6 (side cV ae Φ ah) (side aP ae Φ ah) cX (λr W=>(cY r W).elim (bO r) λh=>Ω) λc1 cd bb=>?_;have fu:=qD (side ((cU.ext ca).ext cb) ae Φ ah) (side aP ae Φ ah) Φ cd;have c2:=fe;have fw:∀ {b:Nat} {e:o4} {cs:List y0},ad dU b e cs->an≠e->au≠e->ad c1 b e cs:=λX h1 ap=>qD (side (X.ext cc) ae h1 ah) (side aP ae Φ ah) ap cd;refine⟨⟨fw dV Φ Φ,ct.ext bb.1⟩,⟨?_,fu⟩,λh=>by cases h⟩;rw[r9,show (fF x)[q]? =σ (x.un.getD y 0) by unfold fF;rw[if_neg ba,u4,dX];rfl,j6,<-Z4];exact bb
   .have ba:x.gone≠0:=by simpa using a1
    refine⟨⟨dV.ext cc,fg.ext cc⟩,⟨?_,cQ.ext cc⟩,λh=>by cases h⟩;have e:fF x=[]:=by unfold fF;rw[if_pos ba]
    rw[e,List.take_nil] at bH ⊢;exact bH.ext cb
  .rintro q dU rfl ⟨b9,cQ⟩;rw[aL];refine eR _ ?_;rw[bA];have:(fF x).take (gA e9 fa).length=fF x:=n0 (by
    unfold fF;split
    .simp
    .rw[u5,<-dP,u5];exact n9 _)
   rw[this] at b9;unfold dG;rw[<-Z4,<-Z4];exact b9
 .rintro bU eQ ay;refine b2 Ω ?_;rw[n0 Ω] at ay;have fx:([s.zero]++s.vars.flatMap dG).length<=100000:=by
   have:=jy (L:=s.vars) (f:=dG) (b:=66) dk;have ap:s.vars.length*66<=64*66:=X1 _ Ω;rw[r8];simp only[U2];omega
  have al:∀ {aq:x2} {K:y0->Prop},ad aq g1 et [Γ aj]->K (Γ aj)->U x3 (x7 et (Γ g1)) aq K:=λX aU=>by
   rw[aS (v:=Γ aj) Ψ (X.Qz rfl)];exact aU
  refine al ay.2.1 ?_;rw[aK bF.p 3 (dm.ext ay.1) rfl,dt ed.u (cz.ext ay.1)];unfold lv;generalize[s.zero]++s.vars.flatMap dG=bc at ay fx;refine b0.range cu.length (λj ce=>hc w ce aj g1 go (bc++(s.funs.take j).flatMap (dS s))) Ω (by rw[List.take_zero,List.flatMap_nil,X6];exact ay) ?_ ?_
  .rintro j ce fy aZ ak fz;obtain⟨f,bd⟩:=aN (l:=s.funs) (i:=j) Ω;obtain⟨y,b8⟩:=aN (l:=cu) aZ;obtain⟨⟨⟨fA,be⟩,_⟩,fB,_⟩:=dn.2 j y f b8 bd;have cg:=fB.ls;obtain⟨bf,c3,_⟩:=aG.funs f (x5 bd);have cj:dW f.szs:=by rw[c3];exact ld aG.ej.2.2 λv aV=>⟨(bf.scope.1 v aV).1,bf.vars v aV⟩
   have hr:f.sc.length<=6:=bf.scope.2;have fC:f.szs.length=f.sc.length:=by rw[c3];unfold bI;rw[u5]
   have fD:bZ f.szs:=⟨Ω,cj⟩;have hs:=hq cj;have ht:aJ f.szs<=4096:=by rw[c3];exact bf.small
   have bq:(bc++(s.funs.take j).flatMap (dS s)).length<=1000000000:=by
    have:=jy (L:=s.funs.take j) (f:=dS s) (b:=4103) λa bu=>dl a (U9 bu);rw[o5] at this;have ap:min j s.funs.length*4103<=100000*4103:=X1 _ Ω;rw[r8];omega
   generalize bw:bc++(s.funs.take j).flatMap (dS s)=aH at ak bq;have bA:bc++(s.funs.take (j+1)).flatMap (dS s)=aH++dS s f:=by
    rw[<-bw,r9,bd,j6,List.flatMap_append,List.flatMap_singleton,Z4]
   refine bk Ω ?_;refine dv (λea=>hc w ea aj g1 go (aH++dS s f)) (λea fE=>by rw[aL];exact fz _ (by rw[bA];exact fE)) λhv ec=>?_;rw[cE rfl ed.u cL.i (cz.ext ak.1) aZ,br cL.p cL.i rfl ((cz.ext ak.1).range b8)];refine bp ac.i λaD ee hx ck bi=>?_;have bi:ad ee aD ac [Δ 0]:=bi;refine bp cL.i λcl ef hy eg eh=>?_;refine bj (g:=aD) (o:=0) ac.i rfl rfl (bi.ext eg) Ξ λc4 ei hz c5=>?_;have c5:ad c4 aD ac [Δ (j:Int)]:=c5;have hA:=ck.size;have hB:=bi.lt;have c6:=(be.ext ak.1).ls;have fG:=cg.ext ak.1;refine bK (vs:=jK y) cL.i rfl rfl (by intro u hu;simp[jK] at hu;rcases hu with rfl|rfl|rfl<;>first|rfl|exact c6.cells.2|exact fG.cells.2) (eh.ab ei λhe=>by have he:cl=aD:=he;omega) λek em hC fH=>?_;have eo:=c5.ab em λhe=>by have he:aD=cl:=he;omega
   have fI:Ext ce ek:=((ck.trans eg).then ei λr W he=>by have he:r=aD:=he;omega).put em Ω;have c7:=ak.ext fI;have ep:∀ {aq:x2} {K:y0->Prop},ad aq aD ac [Δ (j:Int)]->K (Δ (j:Int))->U x3 (x7 ac (Γ aD)) aq K:=λX aU=>by
    rw[aS (v:=Δ (j:Int)) Ψ (X.Qz rfl)];exact aU
   refine al c7.2.1 (ep eo ?_);refine (ma (j:=(j:Int)) (h.ext c7.1)).mono ?_;rintro _ er _ ⟨rfl,bQ⟩;have es:=c7.ext bQ;have fJ:(decide (0<=(j:Int))&&dR s (j:Int).toNat)=decide (f.live≠0):=by
    rw[decide_eq_true Ω,V6,j0];unfold dR;rw[bd]
   rw[fJ,bg,bt];refine⟨λa1=>ec _ ?_,λa1=>?_⟩
   .have ba:¬f.live≠0:=by simpa using a1
    unfold dS;rw[if_neg ba,X6];exact es
   have c2:f.live≠0:=by simpa using a1
   obtain⟨c8,fK,fL,ge,c9,bR,eu⟩:=id es;have fM:=eo.ext bQ;have ev:ad er cl cL [y.ax,y.szv,Δ (y.at_:Int)]:=fH.ext bQ;rw[aS (v:=fL) Ψ (c9.Qz rfl),av cL.p 0 ev rfl];refine (sV bR (be.ext c8) Ω).mono ?_;rintro b1 bD _ ⟨aa,⟨dK,aW⟩,bE⟩;have hD:=c8.size;have aX:Ext w bD:=c8.then aa λr W he=>by have:=eu r he;omega
   refine hc.put (w:=w) (g1:=g1) aX a6 (side fK bR Φ aa) (side c9 bR Φ aa) aW (λr W=>(bE r W).elim (eu r) λh=>Ω) λb6 aY bG=>?_;have ew:∀ {b:Nat} {e:o4} {cs:List y0},ad er b e cs->an≠e->au≠e->ad b6 b e cs:=λX h1 ap=>qD (side X bR h1 aa) (side c9 bR Φ aa) ap aY;have fN:=ew fM Φ Φ;have ey:=ew ev Φ Φ;rw[aM cL.p rfl,br (cs:=[y.szv]) bx.p bx.i rfl (λq u b7=>by
    cases q with
    |zero=>cases b7;exact ey.cell (o:=0+1) rfl
    |succ q=>simp at b7)]
   refine rY.mono ?_;rintro _ hE _ ⟨da,ez,rfl,hF,fO⟩;have db:=bG.ext da;have fP:=rX (g:=ez) (B0:=w.heap.size) (sv:=y.szv) fD;refine lG.old ⟨Nat,false,j7,#[Γ ez],_,_,_,_,λq w'=>hc w w' aj g1 go (aH++jp f.sc++(((bh f.szs).take q).filter (di s f.sc)).map (ch f.szs f.cs))/\ad w' aD ac [Δ (j:Int)]/\ad w' cl cL [y.ax,y.szv,Δ (y.at_:Int)],λ_ _ _=>False,rfl,fP.s,
    ?_,λ_ _ Y h=>⟨h.1.ext Y,h.2.1.ext Y,X8 h.2.2 Y.size⟩,λ_ _ _ Y h=>⟨h.1.ext Y,h.2.1.ext Y,h.2.2.ext Y⟩,λ_ _ _ _ _ h=>h,⟨fO,cg.ext db.1,db.1.size⟩,⟨by rw[List.take_zero,List.filter_nil,List.map_nil,X6];exact db,fN.ext da,ey.ext da⟩,?_,?_,λ_ _ h=>h.elim,λ_ _ _ h=>h.elim⟩
   .rintro _ _ _ _ ⟨_,_,_,_,rfl,_⟩;rfl
   .rintro _ aF q _ eA ⟨eB,fQ,fR⟩ ⟨b7,rfl,hG,hH,fS,hI,eC⟩ ⟨cm,dc,dd⟩;cases fS;have cn:(bh f.szs)[q]? =σ (cF f.szs (q:Int)):=mU cj Ω;generalize cF f.szs (q:Int)=bl at cn eC;intro hJ cp _ _;have de:=cm.ext cp;have eD:=(eC.ext cp).ls;refine al de.2.1 (ep (dc.ext cp) ?_);refine (vR (j:=j) (h.ext de.1) eD).mono ?_;rintro _ hK _ ⟨rfl,df⟩;have fU:=mT cj cn;have fV:(en s j bl).isSome=true:=by unfold en;rw[bd];simp only;rw[if_pos c2,fU];rfl
    have fW:ip s j bl=ch f.szs f.cs bl:=by unfold ip;rw[bd]
    have bS:=de.ext df;rw[if_pos fV,fW,bL,bM];refine al bS.2.1 ?_;have eE:=cp.trans df;rw[br cL.p cL.i rfl (dd.ext eE).range];refine (Ny (at_:=(y.at_:Int)) (h.ext bS.1) ((be.ext bS.1).ls) (cg.ext bS.1) (λv aV=>⟨(bf.scope.1 v aV).1,bf.vars v aV⟩) (eD.ext df) (by rw[ug cn,fC])).mono ?_;rintro _ hL _ ⟨rfl,eH⟩;have eI:=bS.ext eH;have bm:=eE.trans eH;have eJ:((bh f.szs).take (q+1)).filter (di s f.sc)=((bh f.szs).take q).filter (di s f.sc)++(if di s f.sc bl=true then[bl] else[]):=by
     rw[r9,cn,j6,List.filter_append];congr 1;cases aw:di s f.sc bl<;>simp[aw]
    rw[bt];refine⟨λdg=>?_,λdg=>?_⟩
    .obtain⟨bJ,cV,v5,fm,aP,ae,bO⟩:=eI;rw[aS (v:=v5) Ψ (aP.Qz rfl)];have fo:(((bh f.szs).take q).filter (di s f.sc)).length<=4096:=by
      have:=S5 (di s f.sc) ((bh f.szs).take q);rw[o5] at this;omega
     refine sU ae (by simp only[r8,oZ,u5];omega) λfp cW fq ah cX cY=>?_;have fs:=bJ.size;have cZ:Ext w cW:=bJ.then ah λr W he=>by have:=bO r he;omega
     refine hc.put (w:=w) (g1:=g1) cZ a6 (side cV ae Φ ah) (side aP ae Φ ah) cX (λr W=>(cY r W).elim (bO r) λh=>Ω) λc1 cd bb=>?_;have dh:∀ {b:Nat} {e:o4} {cs:List y0},ad eA b e cs->an≠e->au≠e->ad c1 b e cs:=λX h1 ap=>qD (side (X.ext bm) ae h1 ah) (side aP ae Φ ah) ap cd;refine⟨⟨dh eB Φ Φ,cg.ext bb.1,bb.1.size⟩,⟨?_,dh dc Φ Φ,dh dd Φ Φ⟩,λh=>by cases h⟩;rw[eJ,if_pos dg,j9,List.map_singleton,<-Z4];exact bb
    .refine⟨⟨eB.ext bm,fQ.ext bm,X8 fR bm.size⟩,⟨?_,dc.ext bm,dd.ext bm⟩,λh=>by cases h⟩;rw[eJ,if_neg (by rw[dg];decide),X6];exact eI
   .rintro q eA rfl ⟨cm,_⟩;refine ec _ ?_;rw[n0 Ω] at cm;unfold dS;rw[if_pos c2,<-Z4];exact cm
  .rintro ce fy ak;refine b2 Ω ?_;rw[n0 Ω] at ak;have fX:(bc++s.funs.flatMap (dS s)).length<=1000000000:=by
    have:=jy (L:=s.funs) (f:=dS s) (b:=4103) dl;have ap:s.funs.length*4103<=100000*4103:=X1 _ Ω;rw[r8];omega
   refine al ak.2.1 ?_;rw[aK bF.p 4 (dm.ext ak.1) rfl,dt gb.u (cA.ext ak.1)];generalize bc++s.funs.flatMap (dS s)=cq at ak fX;refine b0.range cw.length (λj cr=>hc w cr aj g1 go (cq++(s.elims.take j).flatMap fv)) Ω (by rw[List.take_zero,List.flatMap_nil,X6];exact ak) ?_ ?_
   .rintro j cr fY aZ aE fZ;obtain⟨e,he⟩:=aN (l:=s.elims) (i:=j) Ω;obtain⟨x,Y⟩:=aN (l:=cw) aZ;obtain⟨bQ,⟨⟨fA,be⟩,_⟩,⟨hM,eK⟩,_⟩:=dp.2 j x e Y he;obtain⟨hN,eh⟩:=X e (x5 he);have bq:(cq++(s.elims.take j).flatMap fv).length<=10000000000:=by
     have:=jy (L:=s.elims.take j) (f:=fv) (b:=2004) λa bu=>by
      obtain⟨h1,ap⟩:=X a (U9 bu);unfold fv;simp only[r8,oZ,Z5,List.length_nil];omega
     rw[o5] at this;have ap:min j s.elims.length*2004<=100000*2004:=X1 _ Ω;rw[r8];omega
    generalize bw:cq++(s.elims.take j).flatMap fv=aH at aE bq;have bA:cq++(s.elims.take (j+1)).flatMap fv=aH++fv e:=by
     rw[<-bw,r9,he,j6,List.flatMap_append,List.flatMap_singleton,Z4]
    refine bk Ω ?_;rw[cE rfl gb.u bW.i (cA.ext aE.1) aZ,br bW.p bW.i rfl ((cA.ext aE.1).range Y)];refine bp bW.i λge ee hO ck bi=>?_;have c6:=(be.ext aE.1).ls;have ga:=(eK.ext aE.1).ls;refine bK (vs:=hT x) bW.i rfl rfl (by intro u hu;simp[hT] at hu;rcases hu with rfl|rfl|rfl<;>first|rfl|exact c6.cells.2|exact ga.cells.2) bi λef gc hP bn=>?_;have gd:Ext cr ef:=ck.put gc Ω;intro c4 eL _ _;have bn:ad c4 ge bW [Δ x.v,x.ax,x.bv]:=bn.ext eL;obtain⟨aI,J,v,g,am,hm,aR⟩:=aE.ext (gd.trans eL);rw[aS (v:=v) Ψ (am.Qz rfl),av bW.p 0 bn rfl,av bW.p 1 bn rfl,av bW.p 2 bn rfl,bQ];refine n8 (l:=[-1,e.v]) au.u an.i Ω rfl Ψ λhQ hR ek hS a2 gf=>?_;refine⟨.inl a2,?_⟩;have az:=hm.ext a2;refine fc au.u an.i rfl az gf.ls Θ Θ λcJ e1 cK aA cM aB=>?_;have e2:=aI.size;have hU:=a2.size;have bC:∀r,leads cJ r->w.heap.size<=r:=λr W=>(cM r W).elim (aR r) λh=>Ω
    have aO:Ext w cK:=(aI.trans a2).then aB λr W he=>by have:=aR r he;omega
    have dj:=side (bn.ext a2) az Φ aB;have bY:=side (J.ext a2) az Φ aB;have cN:=side (am.ext a2) az Φ aB;refine⟨.inr ⟨iF Ψ (dj.cell (o:=0+2) rfl),Go.Vc.gU λK=>aM bW.p rfl,iF Ψ (dj.cell (o:=0+1) rfl),Go.Vc.gU λK=>aM bW.p rfl,trivial⟩,?_⟩;refine (sV aA (be.ext aO) Θ).mono ?_;rintro b1 bD _ ⟨aa,⟨dK,aW⟩,bE⟩;have e6:=aO.size;have b4:∀r,leads b1 r->w.heap.size<=r:=λr W=>(bE r W).elim (bC r) λh=>Ω
    have aX:Ext w bD:=aO.then aa λr W he=>by have:=bC r he;omega
    have gg:=side dj aA Φ aa;have cP:=side bY aA Φ aa;have b5:=side cN aA Φ aa;refine⟨.inr ⟨iF Ψ (gg.cell (o:=0+2) rfl),Go.Vc.gU λK=>aM bW.p rfl,trivial⟩,?_⟩;refine (sV aW (eK.ext aX) (by simp[oZ];omega)).mono ?_;rintro hV b6 _ ⟨aY,⟨hW,gh⟩,gi⟩;have hX:=aX.size;have gj:Ext w b6:=aX.then aY λr W he=>by have:=b4 r he;omega
    refine hc.put (w:=w) (g1:=g1) gj a6 (side cP aW Φ aY) (side b5 aW Φ aY) gh (λr W=>(gi r W).elim (b4 r) λh=>Ω) λe8 hY gk=>?_;rw[aL];refine fZ _ ?_;rw[bA];unfold fv;rw[<-Z4,<-Z4];exact gk
   .rintro cr fY aE;refine b2 Ω ?_;rw[n0 Ω] at aE;obtain⟨aI,J,v,g,am,hm,aR⟩:=aE;rw[aS (v:=v) Ψ (am.Qz rfl)];intro hZ eM _;exact⟨aI.trans eM,g,hm.ext eM,aR⟩
end
def fX (s:aB):List dE:=s.funs.filter λf=>decide (f.live≠0)
structure o0 (s t:aB):Prop where
 zero:s.zero=t.zero
 NB:s.elims.length=t.elims.length
 vars:s.vars.map dG=t.vars.map dG
 elims:s.elims.map fv=t.elims.map fv
 funs:(fX s).map (dS s)=(fX t).map (dS t)
theorem sW {a b:Λ} (h:jp a++r=jp b++r'):a=b/\r=r':=by
 unfold jp at h;rw[List.cons_append,List.cons_append,List.cons.injEq] at h;exact List.append_inj h.2 Ω
theorem CX {x:eX}:(fF x).length=if x.gone≠0 then 0 else (bN x).length:=by
 unfold fF;split<;>simp
theorem wp {x y:eX} (h:dG x++r=dG y++r'):(x.gone=y.gone/\bN x=bN y/\fF x=fF y)/\r=r':=by
 unfold dG at h;rw[Z4,Z4,Z4,Z4,List.singleton_append,List.singleton_append,List.cons.injEq] at h;obtain⟨h1,U⟩:=h;obtain⟨J,V⟩:=sW U;obtain⟨W,X⟩:=List.append_inj V (by rw[CX,CX,h1,J]);exact⟨⟨h1,J,W⟩,X⟩
theorem qE {x y:eX}:dG x=dG y↔x.gone=y.gone/\bN x=bN y/\fF x=fF y:=⟨λh=>(wp (r:=[]) (r':=[]) (by rw[h])).1,λ⟨h1,J,U⟩=>by unfold dG;rw[h1,J,U]⟩
theorem CY {α:Type} {f g:α->Λ} (h:∀x y r r',f x++r=g y++r'->f x=g y/\r=r'):∀ (L M:List α) (r r':Λ),L.length=M.length->L.flatMap f++r=M.flatMap g++r'->L.map f=M.map g/\r=r'
 |[],[],_,_,_,e=>⟨rfl,e⟩
 |[],_::_,_,_,J,_=>by simp at J
 |_::_,[],_,_,J,_=>by simp at J
 |x::L,y::M,r,r',J,e=>by
  rw[X3,X3,Z4,Z4] at e;obtain⟨h1,U⟩:=h x y _ _ e;obtain⟨V,W⟩:=CY h L M r r' (by simpa using J) U;exact⟨by rw[T2,T2,h1,V],W⟩
theorem wq {α:Type} {f g:α->Λ} {P:Int->Prop}:∀ (L M:List α) (r r':Λ),(∀x∈L,∀y∈M,∀r r',f x++r=g y++r'->f x=g y/\r=r')->(∀x∈L,∃a l,f x=a::l/\P a)->(∀x∈M,∃a l,g x=a::l/\P a)->(∀a l,r=a::l->¬P a)->(∀a l,r'=a::l->¬P a)->
  L.flatMap f++r=M.flatMap g++r'->L.map f=M.map g/\r=r'
 |[],[],_,_,_,_,_,_,_,e=>⟨rfl,e⟩
 |[],y::M,r,r',_,_,U,V,_,e=>by
  obtain⟨a,l,W,h⟩:=U y (.head _);rw[List.flatMap_nil,List.nil_append,X3,W,Z4,List.cons_append] at e;exact absurd h (V _ _ e)
 |x::L,[],r,r',_,h1,_,_,X,e=>by
  obtain⟨a,l,W,h⟩:=h1 x (.head _);rw[List.flatMap_nil,List.nil_append,X3,W,Z4,List.cons_append] at e;exact absurd h (X _ _ e.symm)
 |x::L,y::M,r,r',h,h1,U,V,X,e=>by
  rw[X3,X3,Z4,Z4] at e;obtain⟨Y,aa⟩:=h x (.head _) y (.head _) _ _ e;obtain⟨ab,ac⟩:=wq L M r r' (λa J b ad=>h a (.tail _ J) b (.tail _ ad)) (λa J=>h1 a (.tail _ J)) (λa J=>U a (.tail _ J)) V X aa;exact⟨by rw[T2,T2,Y,ab],ac⟩
theorem wr {s:aB}:∀ (L:List dE),L.flatMap (dS s)=(L.filter λf=>decide (f.live≠0)).flatMap (dS s)
 |[]=>rfl
 |f::L=>by
  rw[X3,wr L,List.filter_cons];by_cases h:f.live≠0
  .rw[decide_eq_true h,if_pos rfl,X3]
  .rw[decide_eq_false h,if_neg Φ];unfold dS;rw[if_neg h,List.nil_append]
theorem CZ {s t:aB} {V:Λ} (h:s.vars.map dG=t.vars.map dG):di s sc V=di t sc V:=by
 unfold di;congr 1;funext p;have h1:(s.vars.map dG)[p.1.toNat]? =(t.vars.map dG)[p.1.toNat]?:=by rw[h]
 rw[u4,u4] at h1;cases J:s.vars[p.1.toNat]? with
 |none=>
  rw[J] at h1;cases U:t.vars[p.1.toNat]? with
  |none=>rfl
  |some y=>rw[U] at h1;cases h1
 |some x=>
  rw[J] at h1;cases U:t.vars[p.1.toNat]? with
  |none=>rw[U] at h1;cases h1
  |some y=>
   rw[U] at h1;have:=(qE.1 (Z9 h1)).2.1;show decide (p.2∈bN x)=decide (p.2∈bN y);rw[this]
theorem nz {s:aB} {f:dE} (h:f∈fX s):f∈s.funs/\dS s f=jp f.sc++((bh f.szs).filter (di s f.sc)).map (ch f.szs f.cs):=by
 obtain⟨h1,J⟩:=List.mem_filter.1 h;exact⟨h1,by unfold dS;rw[if_pos (of_decide_eq_true J)]⟩
theorem C0 {s t:aB} (J:dA k sizes s) (V:dA k sizes t) (W:s.vars.map dG=t.vars.map dG) {f g:dE} (X:f∈fX s) (Y:g∈fX t) (e:dS s f++r=dS t g++r'):
  f.sc=g.sc/\((bh f.szs).filter (di s f.sc)).map (ch f.szs f.cs)=((bh f.szs).filter (di s f.sc)).map (ch f.szs g.cs)/\r=r':=by
 obtain⟨f1,f2⟩:=nz X;obtain⟨g1,aa⟩:=nz Y;rw[f2,aa,Z4,Z4] at e;obtain⟨h1,U⟩:=sW e;have ab:g.szs=f.szs:=by rw[(J.funs f f1).2.1,(V.funs g g1).2.1,h1]
 have ac:di t g.sc=di s f.sc:=by funext af;rw[<-CZ W,h1]
 rw[ab,ac] at U;obtain⟨ad,ae⟩:=List.append_inj U (by rw[u5,u5]);exact⟨h1,ad,ae⟩
theorem C1 {s t:aB} (J:dA k sizes s) (V:dA k sizes t) (W:s.vars.map dG=t.vars.map dG) {f g:dE} (X:f∈fX s) (Y:g∈fX t):
  dS s f=dS t g↔f.sc=g.sc/\((bh f.szs).filter (di s f.sc)).map (ch f.szs f.cs)=((bh f.szs).filter (di s f.sc)).map (ch f.szs g.cs):=by
 refine⟨λh=>?_,λ⟨h1,U⟩=>?_⟩
 .obtain⟨h1,U,_⟩:=C0 (r:=[]) (r':=[]) J V W X Y (by rw[h]);exact⟨h1,U⟩
 .obtain⟨f1,f2⟩:=nz X;obtain⟨g1,aa⟩:=nz Y;have ab:g.szs=f.szs:=by rw[(J.funs f f1).2.1,(V.funs g g1).2.1,h1]
  have ac:di t g.sc=di s f.sc:=by funext ad;rw[<-CZ W,h1]
  rw[f2,aa,ab,ac,U,h1]
theorem C2 {a b:hx} (h:fv a++r=fv b++r'):(a.v=b.v/\a.sc=b.sc/\a.dl=b.dl)/\r=r':=by
 unfold fv at h;rw[Z4,Z4,Z4,Z4,List.cons_append,List.cons_append,List.nil_append,List.cons_append,List.cons_append,List.nil_append] at h;injection h with _ h;injection h with h1 h;obtain⟨J,h⟩:=sW h;obtain⟨U,h⟩:=sW h;exact⟨⟨h1,J,U⟩,h⟩
theorem C3 {s t:aB} (J:dA k sizes s) (U:dA k sizes t):lv s=lv t↔o0 s t:=by
 unfold lv;rw[wr s.funs,wr t.funs];refine⟨λh=>?_,λh=>?_⟩
 .rw[Z4,Z4,Z4,Z4,List.singleton_append,List.singleton_append] at h;injection h with ab h;obtain⟨h1,h⟩:=CY (λx y r r' e=>⟨qE.2 (wp e).1,(wp e).2⟩) s.vars t.vars _ _ (by rw[J.vars,U.vars]) h;have V:∀u:aB,∀a l,u.elims.flatMap fv=a::l->¬0<=a:=λu a l e=>by
   cases hu:u.elims with
   |nil=>rw[hu] at e;cases e
   |cons x l'=>
    rw[hu,X3] at e;unfold fv at e;rw[Z4,Z4,List.cons_append] at e;injection e with e _;omega
  have W:∀u:aB,∀f∈fX u,∃a l,dS u f=a::l/\0<=a:=λu f ac=>by
   rw[(nz ac).2];exact⟨_,_,rfl,Ω⟩
  obtain⟨ad,h⟩:=wq (P:=λa=>0<=a) (fX s) (fX t) _ _ (λx X y Y r r' e=>by
   obtain⟨a,b,c⟩:=C0 J U h1 X Y e;exact⟨(C1 J U h1 X Y).2 ⟨a,b⟩,c⟩) (W s) (W t) (V s) (V t) h
  obtain⟨aa,_⟩:=wq (f:=fv) (g:=fv) (P:=λ_=>True) (r:=[]) (r':=[]) s.elims t.elims (λx _ y _ r r' e=>by
   obtain⟨⟨a,b,c⟩,d⟩:=C2 e;exact⟨by unfold fv;rw[a,b,c],d⟩) (λx _=>⟨_,_,rfl,trivial⟩) (λx _=>⟨_,_,rfl,trivial⟩) (λ_ _ e=>by cases e) (λ_ _ e=>by cases e) (by rw[X6,X6];exact h)
  exact⟨ab,by simpa using congrArg T9 aa,h1,aa,ad⟩
 .show[s.zero]++s.vars.flatMap dG++(fX s).flatMap (dS s)++_=[t.zero]++t.vars.flatMap dG++(fX t).flatMap (dS t)++_;rw[List.flatMap_def,List.flatMap_def,List.flatMap_def,List.flatMap_def (l:=t.vars),List.flatMap_def (l:=fX t),List.flatMap_def (l:=t.elims),h.zero,h.vars,h.elims,h.funs]
theorem nA {cx cy:Bool} {a b:Bool} {K:y0->Prop} (J:x3.underlying t=σ .bool):U x3 (aA .neq t cx cy (.bool a) (.bool b)) w K=K (.bool !(a == b)):=
 yr (λ_=>rfl) rfl λw' _=>run_equalIn_bool' (P:=x3) (w:=w') 9999 t a b J
theorem ws {m:Bool} {S R:ah} {e:hx} (h:al.rep (α:=hW) m S R w cs (iM e)):∃ax bv,cs=[Δ e.v,ax,bv]/\Seen dr w [ax] e.sc/\Seen dr w [bv] e.dl:=by
 obtain⟨V,ac,A,B,rfl,_,_,_,h1,W,X,aG,ad,rfl,_,_,_,J,U⟩:=h;have h1:V=[Δ e.v]:=h1;have J:Seen _ w W e.sc:=J;have U:Seen _ w X e.dl:=U;have one:∀ {α:Type} [al α] {m:Bool} {S R:ah} {c:List y0} {l:List α},al.rep m S R w c l-> ∃v,c=[v]:=λh=>by obtain⟨v,Y,_⟩:=h;exact⟨v,Y⟩
 obtain⟨aa,rfl⟩:=one J;obtain⟨ab,rfl⟩:=one U;subst h1;exact⟨aa,ab,rfl,gQ J,gQ U⟩
theorem wu {b:Bool} {szv aI:y0} {J U V:Λ} (h1:Seen dr w [ax] J) (W:Seen dr w [szv] U) (X:Seen dr w [aI] V):∀u∈[ax,szv,aI,.bool b],u.oneCell'=true:=by
 intro u hu;simp only[T1,List.not_mem_nil,or_false] at hu;rcases hu with rfl|rfl|rfl|rfl
 .exact e7 h1
 .exact e7 W
 .exact e7 X
 .rfl
def nB (s:aB) (l:Λ) (m:Nat) (r:Int):Prop:=(r= -1/\ ∀ (q:Nat) g,q<m->s.funs[q]? =σ g->¬(g.live≠0/\g.sc=l))\/ ∃ (j:Nat) (f:dE),r=j/\j<m/\s.funs[j]? =σ f/\f.live≠0/\f.sc=l/\ ∀ (q:Nat) g,q<j->s.funs[q]? =σ g->¬(g.live≠0/\g.sc=l)
theorem nB.step {s:aB} {m:Nat} {r:Int} {g:dE} (h:nB s l m r) (V:s.funs[m]? =σ g):nB s l (m+1) (if g.live≠0/\r<0/\g.sc=l then (m:Int) else r):=by
 rcases h with⟨rfl,h⟩|⟨j,f,rfl,ac,h1,X,Y,aa⟩
 .by_cases J:g.live≠0/\g.sc=l
  .rw[if_pos ⟨J.1,Ω,J.2⟩];exact .inr ⟨m,g,rfl,Ω,V,J.1,J.2,λq y W U=>h q y W U⟩
  .rw[if_neg λh=>J ⟨h.1,h.2.2⟩];refine .inl ⟨rfl,λq y W U=>?_⟩;by_cases ab:q=m
   .subst ab;rw[V] at U;cases U;exact J
   .exact h q y Ω U
 .rw[if_neg λh=>Ω];exact .inr ⟨j,f,rfl,Ω,h1,X,Y,aa⟩
theorem nB.find {s:aB} {r r':Int} (h:nB s l s.funs.length r) (k:Cx s l r'):r'=r:=by
 rcases h with⟨rfl,h⟩|⟨j,f,rfl,ae,h1,W,X,ac⟩<;>rcases k with⟨rfl,k⟩|⟨J,Y,rfl,U,aa,ab,ad⟩
 .rfl
 .exact absurd ⟨aa,ab⟩ (h J Y (x4.1 U).1 U)
 .exact absurd ⟨W,X⟩ (k f (x5 h1))
 .rcases Nat.lt_trichotomy j J with V|rfl|V
  .exact absurd ⟨W,X⟩ (ad j f V h1)
  .rfl
  .exact absurd ⟨aa,ab⟩ (ac J Y V U)
section
variable {w:x2} {aj ag:Nat} {A R:ah} {n:aY} {s:aB} {t:aC} {iD:y0}
theorem NC (h:ci w aj ag A R n s t) (cT:gK w iD n.k n.sizes s) (cU:Laid w) (cV:nx s) (ee:s.funs.length<=100000) (cW:s.elims.length<=100000):ai x3 D5 [Γ aj,iD] w λv w'=>v= .bool true/\Ext w w':=by
 have bD:=h.2.2.2.1;have ef:=bD.vars;have one:∀ {w:x2} {α:Type} [al α] {m:Bool} {S R:ah} {c:List y0} {l:List α},al.rep m S R w c l-> ∃v,c=[v]:=λh=>by obtain⟨v,bd,_⟩:=h;exact⟨v,bd⟩
 refine az func20 ?_;refine bP λg1 V eg bE cX=>?_;obtain⟨szv,ei,ek,em,cY,ep,aG,bJ,_,cZ,c1,c2,bu,cu⟩:=cT.box bE cX;have h1:=h.ext bE;refine aR (λv aa=>v= .bool false/\Ext V aa) ?_ λer c3=>?_
 rotate_left
 .intro aa bm _ _;rw[av aD.p 0 (aG.ext bm) rfl];refine (nr (h1.ext bm)).mono ?_;rintro _ bO _ ⟨rfl,a8⟩;have bQ:=bm.trans a8;refine⟨.inl a8,?_⟩;rw[bH,ak];refine⟨λbo=>absurd rfl bo,λ_=>?_⟩;rw[av aD.p 1 (aG.ext bQ) rfl,aU af.u (bJ.ext bQ)];refine (sL (h1.ext bQ)).mono ?_;rintro _ be _ ⟨rfl,aC⟩;have bi:=bQ.trans aC;refine⟨.inl aC,?_⟩;rw[bH,ak];refine⟨λbo=>absurd rfl bo,λ_=>?_⟩;rw[av aD.p 2 (aG.ext bi) rfl];refine (vO (h1.ext bi)).mono ?_;rintro _ aH _ ⟨rfl,Y⟩;have am:=bi.trans Y;refine⟨.inl Y,?_⟩;rw[bH,ak];refine⟨λbo=>absurd rfl bo,λ_=>?_⟩;rw[av aD.p 6 (aG.ext am) rfl,eh b8.u (a7 bu am),u5];refine (ql (h1.ext am)).mono ?_;rintro _ aA _ ⟨rfl,J⟩;refine⟨.inl J,?_⟩;rw[bH];exact c3 _ _ ⟨by congr 1;exact decide_eq_false Ω,am.trans J⟩
 rintro _ aa ⟨rfl,bm⟩;rw[aT,av aD.p 1 (aG.ext bm) rfl,aU af.u (bJ.ext bm)];refine bA.range n.sizes.length (λi _ bO=>Ext V bO) bJ.le bm ?_ ?_
 .rintro i t4 bO c5 hi a8 c6;obtain⟨z,bS⟩:=aN (l:=n.sizes) hi;obtain⟨x,bj⟩:=aN (l:=s.vars) (i:=i) Ω;obtain⟨es,et,_⟩:=bD.var i x z bj bS;have eu:=bD.ej.2.2 z (x5 bS);have c7:z=(x.un.length:Int):=Ω
  refine bk Ω ?_;rw[bf af.u ac.i Ψ (bJ.ext a8) bS];refine aR (λv be=>v= .bool false/\Ext V be) ?_ λev c8=>?_
  .rintro _ be ⟨rfl,aC⟩;rw[aT,av aD.p 6 (aG.ext aC) rfl,eh b8.u (a7 bu aC),u5];refine bA.range s.funs.length (λj out aH=>Ext V aH/\ ∃g,ao .i64 ac aH g out (fV s i j)/\ ∀r,leads out r->V.heap.size<=r) Ω ⟨aC,0,ao.nil _ _ _ _,λr aY=>by obtain⟨a,n,c,aP,bq⟩:=aY;cases aP⟩ ?_ ?_
   .rintro j out aH c9 b4 ⟨Y,g,hm,b5⟩ da;obtain⟨f,aO⟩:=aN (l:=s.funs) b4;refine bk Ω ?_;refine aR (λout aA=>Ext V aA/\ ∃g,ao .i64 ac aA g out (fV s i (j+1))/\ ∀r,leads out r->V.heap.size<=r) (λout aA b6=>by rw[aL];exact da _ _ b6) λew cw=>?_;refine hF (α:=fu) (a:=eo f) bT.p rfl b8.u bT.i (a7 bu Y) (by rw[u4,aO];rfl) λcs bF=>?_;obtain⟨ax,a1,aI,rfl,aP,bq,bw⟩:=qu bF;have db:∀u∈[ax,a1,aI,.bool (decide (f.live≠0))],u.oneCell'=true:=wu aP bq bw;refine bp bT.i λdc aE ey ae dd=>?_;refine bK (vs:=[ax,a1,aI,.bool (decide (f.live≠0))]) bT.i rfl rfl db dd λap b7 de a2=>?_;have b9:Ext aH ap:=ae.put b7 Ω;refine aR (λr a6=>r= .bool (hX s i j)/\Ext aH a6) ?_ λez cz=>?_
    .rintro _ a6 ⟨rfl,X⟩;rw[bt];refine⟨λdf=>?_,λdg=>cw _ _ ⟨Y.trans X,g,by rw[CT,if_neg (by rw[dg];decide)];exact hm.ext X,b5⟩⟩;exact Nu (Y.trans X) (hm.ext X) b5 (by have:=Nv (s:=s) (i:=i) (j:=j);omega) λv aV dh aB di dj=>cw _ _ ⟨aB,dh,by rw[CT,if_pos df];exact di,dj⟩
    .have cA:hX s i j=(decide (f.live≠0)&&decide ((i:Int)∈f.sc)):=by unfold hX;rw[aO]
     rw[av bT.p 1 a2 rfl,ak];refine⟨λaF=>?_,λaF=>cz _ _ ⟨by rw[cA,decide_eq_false aF,Bool.false_and],b9⟩⟩;rw[aM bT.p rfl,aM aX.p rfl,aS (v:=ax) Ψ (a2.cell (o:=0+0+0) rfl)];refine (wh (x:=(i:Int)) (c4 (a7 aP b9))).mono ?_;rintro _ aV _ ⟨rfl,aB⟩;exact cz _ _ ⟨by rw[cA,decide_eq_true aF,V6],b9.trans aB⟩
   .rintro out aH c9 ⟨Y,g,hm,b5⟩;refine b2 Ω ?_;refine (CI (i:=(i:Int)) (h1.ext Y)).mono ?_;rintro v aA _ ⟨J,eB,dk,_⟩;refine (k4 dk.ls (hm.ls.ext J)).mono ?_;rintro _ aE _ ⟨rfl,ae⟩;rw[decide_eq_true rfl,bg,Y6,aT,c7];refine bA.range x.un.length (λv _ ap=>Ext V ap) Ω ((Y.trans J).trans ae) ?_ ?_
    .rintro v bG ap dl bd W dm;obtain⟨c,aq⟩:=aN (l:=x.un) bd;refine bk Ω ?_;refine (vQ (i:=(i:Int)) (v:=(v:Int)) (h1.ext W)).mono ?_;rintro _ a6 _ ⟨rfl,X⟩;have dn:eF n i v:=⟨Ω,Ω,Ω,by rw[j0,u9,bS,S1];omega⟩;have dp:l8 s (i:Int).toNat (v:Int).toNat=c:=by
      rw[j0,j0];unfold l8;rw[bj];simp[u9,aq]
     rw[if_pos dn,dp,bL,bM];refine aR (λv w'=>v= .bool false/\Ext V w') ?_ λeC dq=>?_
     .rintro _ aV ⟨rfl,aB⟩;rw[aT,aL];exact dm _ _ aB
     .have bl:=W.trans X;rw[bH,ak];refine⟨λh=>absurd rfl h,λ_=>?_⟩;rw[av aD.p 5 (aG.ext bl) rfl];refine hE (α:=Λ) (a:=x.un) rfl rfl dH.u au.i Ψ (a7 c2 bl) (by rw[u4,bj];rfl) λeD ds=>?_;rw[bf au.u an.i Ψ (c4 ds) aq,bH];exact dq _ _ ⟨by congr 1;exact decide_eq_false Ω,bl⟩
    .rintro bG ap dl W;refine b2 Ω ?_;rw[aL];exact c6 _ _ W
  .intro be aC _ _;have bi:=a8.trans aC;rw[av aD.p 4 (aG.ext bi) rfl];refine iY (α:=Bool) (a:=decide (x.gone≠0)) rfl e4.u ec.i (a7 c1 bi) (by rw[u4,bj];rfl) λb o cs aY aq=>?_;obtain rfl:cs=[.bool (decide (x.gone≠0))]:=aq;rw[aS (v:=.bool (decide (x.gone≠0))) Ψ (by have:=aY 0 _ rfl;simpa using this)];refine (qm (i:=(i:Int)) (h1.ext bi)).mono ?_;rintro _ aH _ ⟨rfl,Y⟩;have am:=bi.trans Y;refine⟨.inl Y,?_⟩;have du:(decide (0<=(i:Int))&&ft s (i:Int).toNat)=decide (x.gone≠0):=by
    rw[decide_eq_true Ω,V6,j0];unfold ft;rw[bj]
   rw[du,nA ec.u,beq_self_eq_true,Y6,aT,av aD.p 3 (aG.ext am) rfl];refine iY (α:=Λ) (a:=bN x) rfl cj.u af.i (a7 cZ am) (by rw[u4,bj];rfl) λb o cs aY aq=>?_;obtain⟨dv,rfl⟩:=one aq;rw[aS (v:=dv) Ψ (by have:=aY 0 _ rfl;simpa using this)];refine (oT (i:=(i:Int)) (h1.ext am)).mono ?_;rintro _ aA _ ⟨⟨eE,eH,rfl,cB⟩,J⟩;refine⟨.inl J,?_⟩;refine uC.mono ?_;rintro _ aE _ ⟨ae,cC,rfl,eI,ca⟩;refine⟨.inl (J.trans ae),?_⟩;have cD:=sP cB Ω (by rw[j0];exact bj);have ba:=(am.trans J).trans ae;have dw:=cU.ext (bE.trans ba);have eJ:=bE.size;refine (vc (L:=bN x) (uB (g:=cC) cB.1) (λk vs w hk=>by
     obtain⟨v,bd,rfl⟩:=hk;exact⟨v,by rw[<-cD,u4,bd];rfl,rfl⟩) (λa b aq cF=>⟨cF.1.ab aq λh=>by have:=ca.lt;have h:aE.heap.size<=cC:=h;omega,nY aq (λh=>by have h:aE.heap.size<=0:=h;have:=ca.lt;omega) cF.2⟩) ⟨ca,dw⟩ (by rw[<-cD,u5]) (by have:=wo x;omega)).mono ?_
   rintro _ ap _ ⟨W,eK,_,dx⟩;refine⟨.inl ((J.trans ae).trans W),?_⟩;have bU:=ba.trans W;refine (k4 dx.ls (c4 (a7 (gQ aq) ((J.trans ae).trans W)))).mono ?_;rintro _ a6 _ ⟨rfl,X⟩;rw[decide_eq_true rfl,bg,Y6,aT];have bl:=bU.trans X;refine (oT (i:=(i:Int)) (h1.ext bl)).mono ?_;rintro _ aV _ ⟨⟨eL,eM,rfl,dy⟩,aB⟩;refine zr.mono ?_;rintro _ aW _ ⟨rfl,aw⟩;rw[bH];have eN:=(dy.2.2 x Ω (by rw[j0];exact bj)).1;exact c8 _ _ ⟨by congr 1;exact decide_eq_false Ω,(bl.trans aB).trans aw⟩
 .rintro t4 bO c5 a8;refine b2 Ω ?_;rw[av aD.p 6 (aG.ext a8) rfl,eh b8.u (a7 bu a8),u5];have cG:∀ {bb:x2} {q:Nat} {f:dE} {K:y0->x2->Prop},Ext V bb->s.funs[q]? =σ f->
    (∀ax a1 aI aZ bx,Ext bb bx->ad bx aZ bT [ax,a1,aI,.bool (decide (f.live≠0))]->Seen dr bb [ax] f.sc->Seen dr bb [a1] f.szs->Seen dr bb [aI] f.cs->K (Γ aZ) bx)->
    U x3 (l7 b8 cY (Δ (q:Int))) bb λp=>U x3 (x7 bT p) bb λy=>ay x3 (S8 bT true (.tuple #[])) bb λa bx=>ay x3 (o7 bT a y) bx λ(_:Unit) cb=>K a cb:=λ{bb q f K} dz aO dA=>by
   refine hF (α:=fu) (a:=eo f) bT.p rfl b8.u bT.i (a7 bu dz) (by rw[u4,aO];rfl) λcs bF=>?_;obtain⟨ax,a1,aI,rfl,aP,bq,bw⟩:=qu bF;refine bp bT.i λaZ bx dC dD cc=>?_;refine bK (vs:=[ax,a1,aI,.bool (decide (f.live≠0))]) bT.i rfl rfl (wu aP bq bw) cc λcb dF eO dG=>?_;exact dA ax a1 aI aZ cb (dD.then dF λr aY he=>by have he:r=aZ:=he;omega) dG aP bq bw
  refine bA.range s.funs.length (λj _ be=>Ext V be) Ω a8 ?_ ?_
  .rintro j bG be dI b4 aC dJ;obtain⟨f,aO⟩:=aN (l:=s.funs) b4;obtain⟨bV,cd,_⟩:=bD.funs f (x5 aO);refine bk Ω ?_;refine cG aC aO λax a1 aI dc aH Y bz aP bq bw=>?_;have am:=aC.trans Y;rw[av aD.p 6 (aG.ext am) rfl,eh b8.u (a7 bu am),u5];refine bA.range s.funs.length (λq a aA=>Ext aH aA/\ ∃r:Int,a=Δ r/\nB s f.sc q r) Ω ⟨Ext.refl _,-1,rfl,.inl ⟨rfl,λq g h=>Ω⟩⟩ ?_ ?_
   .rintro q _ aA ce bB ⟨J,r,rfl,aY⟩ cg;obtain⟨g,cH⟩:=aN (l:=s.funs) bB;refine bk Ω ?_;refine aR (λa aE=>Ext aH aE/\ ∃r:Int,a=Δ r/\nB s f.sc (q+1) r) (λout aE b6=>by rw[aL];exact cg _ _ b6) λeP cI=>?_;refine cG (am.trans J) cH λdK eQ eR eS aE ae cJ d1 d2 d3=>?_;have aK:=J.trans ae;have bY:=aY.step cH;refine aR (λv ap=>v= .bool (decide (g.live≠0/\r<0/\g.sc=f.sc))/\Ext aE ap) ?_ λeU ck=>?_
    .rintro _ ap ⟨rfl,W⟩;rw[ak];exact⟨λaq=>cI _ _ ⟨aK.trans W,_,rfl,by rw[if_pos aq] at bY;exact bY⟩,λaq=>cI _ _ ⟨aK.trans W,_,rfl,by rw[if_neg aq] at bY;exact bY⟩⟩
    .rw[av bT.p 1 cJ rfl,ak];refine⟨λaF=>?_,λaF=>ck _ _ ⟨by congr 1;symm;exact decide_eq_false λh=>aF h.1,Ext.refl _⟩⟩;rw[aQ,ak];refine⟨λcl=>?_,λcl=>ck _ _ ⟨by congr 1;symm;exact decide_eq_false λh=>cl h.2.1,Ext.refl _⟩⟩;rw[aM bT.p rfl,aM aX.p rfl,aS (v:=dK) Ψ (cJ.cell (o:=0+0+0) rfl),aM bT.p rfl,aM aX.p rfl,aS (v:=ax) Ψ ((bz.ext aK).cell (o:=0+0+0) rfl)];refine (k4 (c4 (a7 d1 ae)) (c4 (a7 aP (Y.trans aK)))).mono ?_;rintro _ ap _ ⟨rfl,W⟩;exact ck _ _ ⟨by congr 1;exact decide_eq_decide.2 ⟨λh=>⟨aF,cl,h⟩,λh=>h.2.2⟩,W⟩
   .rintro _ aA ce ⟨J,r,rfl,aY⟩;refine b2 Ω ?_;have b0:=am.trans J;refine aR (λv aE=>v= .bool false/\Ext aA aE) ?_ λeV dL=>?_
    .rintro _ aE ⟨rfl,ae⟩;have ba:=b0.trans ae;have aK:=J.trans ae;have cm:dW f.szs:=by rw[cd];exact ld bD.ej.2.2 λv bd=>⟨(bV.scope.1 v bd).1,bV.vars v bd⟩
     have dM:bZ f.szs:=⟨by rw[cd];unfold bI;rw[u5];exact bV.scope.2,cm⟩;have eW:=hq cm;have eX:f.cs.length=(aJ f.szs).toNat:=by rw[cd];exact bV.len
     rw[aT,aM bT.p rfl,aM aX.p rfl,aS (v:=a1) Ψ ((bz.ext aK).cell (o:=0+0+1) rfl)];refine (oe f.szs (c4 (a7 bq (Y.trans aK))) dM).mono ?_;rintro eY ap _ ⟨W,cn⟩;rw[eh cj.u cn];refine bA.range (bh f.szs).length (λq _ a6=>Ext ap a6) (lR cn) (Ext.refl _) ?_ ?_
     .rintro q t5 a6 dN bB X cK;obtain⟨b1,cL⟩:=aN (l:=(bh f.szs)) bB;obtain⟨c,aq⟩:=aN (l:=f.cs) (i:=q) Ω;refine bk Ω ?_;refine hE (α:=Λ) (a:=b1) rfl rfl cj.u af.i Ψ (a7 cn X) cL λu hu=>?_;have bl:=(ba.trans W).trans X;refine (vR (j:=j) (h1.ext bl) (c4 (gQ hu))).mono ?_;rintro _ aV _ ⟨rfl,aB⟩;have bc:=bz.ext (((aK.trans W).trans X).trans aB);have cM:=mT cm cL;have cN:∀aW,Ext aV aW->Ext ap aW:=λaW aw=>(X.trans aB).trans aw;by_cases aF:f.live≠0
      .have cp:(en s j b1).isSome=true:=by unfold en;rw[aO];simp only;rw[if_pos aF,cM];rfl
       have dO:ip s j b1=c:=by unfold ip ch;rw[aO];simp only;rw[cM];simp[u9,aq]
       rw[if_pos cp,dO,bL,bM];refine aR (λv w'=>v= .bool false/\Ext aV w') ?_ λdP cq=>?_
       .rintro _ aW ⟨rfl,aw⟩;rw[aT,aL];exact cK _ _ (cN _ aw)
       rw[bn,av bT.p 1 bc rfl,nA ec.u,decide_eq_true rfl,decide_eq_true aF,beq_self_eq_true,Y6,aT,av bT.p 1 bc rfl,decide_eq_true aF,bX,aM bT.p rfl,aM aX.p rfl,aS (v:=aI) Ψ (bc.cell (o:=0+0+2) rfl),bf au.u an.i Ψ (c4 (a7 bw (Y.trans (((aK.trans W).trans X).trans aB)))) aq,bH];exact cq _ _ ⟨by congr 1;exact decide_eq_false Ω,Ext.refl _⟩
      .have cp:¬(en s j b1).isSome=true:=by unfold en;rw[aO];simp only;rw[if_neg aF];simp
       rw[if_neg cp,bL,bM];refine aR (λv w'=>v= .bool false/\Ext aV w') ?_ λdP cq=>?_
       .rintro _ aW ⟨rfl,aw⟩;rw[aT,aL];exact cK _ _ (cN _ aw)
       rw[bn,av bT.p 1 bc rfl,nA ec.u,decide_eq_false Φ,decide_eq_false aF,beq_self_eq_true,Y6,aT,av bT.p 1 bc rfl,decide_eq_false aF,aT];exact cq _ _ ⟨rfl,Ext.refl _⟩
     .rintro t5 a6 dN X;refine b2 Ω ?_;rw[aL];exact dJ _ _ ((ba.trans W).trans X)
    .intro aE ae _ _;have ba:=b0.trans ae;have aK:=J.trans ae;have dQ:(decide (0<=(j:Int))&&dR s (j:Int).toNat)=decide (f.live≠0):=by
      rw[decide_eq_true Ω,V6,j0];unfold dR;rw[aO]
     rw[av bT.p 1 (bz.ext aK) rfl];refine (ma (j:=(j:Int)) (h1.ext ba)).mono ?_;rintro _ ap _ ⟨rfl,W⟩;refine⟨.inl W,?_⟩;have a2:=bz.ext (aK.trans W);rw[dQ,nA ec.u,beq_self_eq_true,Y6,aT,aM bT.p rfl,aM aX.p rfl,aS (v:=ax) Ψ (a2.cell (o:=0+0+0) rfl)];refine (Mx (h1.ext (ba.trans W)) aO).mono ?_;rintro _ a6 _ ⟨X,eZ,_,dS⟩;refine⟨.inl X,?_⟩;have cr:=(aK.trans W).trans X;refine (k4 dS.ls (c4 (a7 aP (Y.trans cr)))).mono ?_;rintro _ aV _ ⟨rfl,aB⟩;rw[decide_eq_true rfl,bg,Y6,aT,aM bT.p rfl,aM aX.p rfl,aS (v:=ax) Ψ ((bz.ext (cr.trans aB)).cell (o:=0+0+0) rfl)];refine (Md (h1.ext (((ba.trans W).trans X).trans aB)) (c4 (a7 aP (Y.trans (cr.trans aB))))).mono ?_;rintro _ aW _ ⟨⟨r',rfl,dT⟩,aw⟩;rw[bH];exact dL _ _ ⟨by congr 1;exact decide_eq_false (by rw[aY.find dT];simp),(((ae.trans W).trans X).trans aB).trans aw⟩
  .rintro bG be dI aC;refine b2 Ω ?_;refine (Nw (h1.ext aC) cV cW).mono ?_;rintro e0 aH _ ⟨Y,e1,⟨E,b3,dU,dV⟩,_⟩;have am:=aC.trans Y;rw[dt gb.u b3,av aD.p 7 (aG.ext am) rfl,eh eA.u (a7 cu am),u5,bH,ak];refine⟨λbo=>absurd (by rw[dU]) bo,λ_=>?_⟩;rw[dt gb.u b3];refine bA.range E.length (λq _ aA=>Ext aH aA) Ω (Ext.refl _) ?_ ?_
   .rintro q bG aA ce bB J cg;obtain⟨x,cO⟩:=aN (l:=E) bB;obtain⟨e,cP⟩:=aN (l:=s.elims) (i:=q) Ω;obtain⟨dX,⟨_,cQ⟩,_,cR⟩:=dV q x e cO cP;have b0:=am.trans J;refine bk Ω ?_;rw[cE rfl gb.u bW.i (b3.ext J) bB,br bW.p bW.i rfl ((b3.ext J).range cO)];refine bp bW.i λaZ aE dC ae cc=>?_;refine bK (vs:=hT x) bW.i rfl rfl (by intro u hu;simp[hT] at hu;rcases hu with rfl|rfl|rfl<;>first|rfl|exact cQ.ls.cells.2|exact cR.ls.cells.2) cc λap b7 de a2=>?_;have cS:Ext aA ap:=ae.put b7 Ω;have bU:=b0.trans cS;have a2:ad ap aZ bW [Δ x.v,x.ax,x.bv]:=a2;rw[av aD.p 7 (aG.ext bU) rfl];refine hF (α:=hW) (a:=iM e) bR.p rfl eA.u bR.i (a7 cu bU) (by rw[u4,cP];rfl) λcs bF=>?_;obtain⟨ax,bv,rfl,d1,d2⟩:=ws bF;refine bp bR.i λe2 a6 e3 X dY=>?_;refine bK (vs:=[Δ e.v,ax,bv]) bR.i rfl rfl (by intro u hu;simp at hu;rcases hu with rfl|rfl|rfl<;>first|rfl|exact e7 d1|exact e7 d2) dY λaV dZ e5 bc=>?_;have bC:Ext ap aV:=X.put dZ Ω;have ct:=cS.trans bC;refine aR (λv aW=>v= .bool false/\Ext aV aW) ?_ λe6 ea=>?_
    .rintro _ aW ⟨rfl,aw⟩;rw[aT,aL];exact cg _ _ ((J.trans ct).trans aw)
    rw[av bW.p 0 (a2.ext bC) rfl,av bR.p 0 bc rfl,bH,dX,ak];refine⟨λh=>absurd rfl h,λ_=>?_⟩;rw[av bW.p 1 (a2.ext bC) rfl,av bR.p 1 bc rfl];refine (k4 ((cQ.ls.ext J).ext ct) (c4 (a7 d1 bC))).mono ?_;rintro _ aW _ ⟨rfl,aw⟩;rw[decide_eq_true rfl,bg,Y6,aT,av bW.p 2 (a2.ext (bC.trans aw)) rfl,av bR.p 2 (bc.ext aw) rfl];refine (k4 (((cR.ls.ext J).ext ct).ext aw) (c4 (a7 d2 (bC.trans aw)))).mono ?_;rintro _ e8 _ ⟨rfl,ed⟩;rw[decide_eq_true rfl,bg];exact ea _ _ ⟨rfl,aw.trans ed⟩
   .rintro bG aA ce J;rw[aQ,ak];exact⟨λh=>Ω,λ_=>⟨rfl,bE.trans (am.trans J)⟩⟩
end
theorem ND {R:ah} {f:dE} (h:Seen (α:=fu) R w cs (eo f)):∃ax szv aI,cs=[ax,szv,aI,.bool (decide (f.live≠0))]/\Seen R w [ax] f.sc/\Seen R w [szv] f.szs/\Seen R w [aI] f.cs:=by
 obtain⟨aj,W,A,B,rfl,X,_,_,⟨Y,ak,aG,am,rfl,_,aa,_,h1,ab,ac,an,ad,rfl,_,ae,_,J,U⟩,V⟩:=h;have one:∀ {α:Type} [al α] {m:Bool} {S R:ah} {c:List y0} {l:List α},al.rep m S R w c l-> ∃v,c=[v]:=λh=>by obtain⟨v,af,_⟩:=h;exact⟨v,af⟩
 have h1:Seen R w Y f.sc:=h1;have J:Seen R w ab f.szs:=J;have V:W=[.bool (decide (f.live≠0))]:=V;have U:al.rep false ad R w ac f.cs:=U;obtain⟨ag,rfl⟩:=one h1;obtain⟨ai,rfl⟩:=one J;obtain⟨v3,rfl⟩:=one U;subst V;exact⟨ag,ai,v3,rfl,h1,J,lQ U λr _ h=>h.elim (λh=>(X r (aa r (ae r h))).elim) id⟩
def jq (B:Nat) (w:x2) (sizes:Λ) (h:ey):Prop:=Seen (λr=>r<B) w [h.ax] h.sc/\Seen (λr=>r<B) w [h.szv] (bI sizes h.sc)/\Seen (λr=>r<B) w [h.aI] h.cs
theorem jq.ab {S:Nat->Prop} {h:ey} (aw:jq B w sizes h) (J:ae S w w') (U:∀r,r<B->¬S r):jq B w' sizes h:=by
 have c:∀ {v:y0} {l:Λ},Seen (λr=>r<B) w [v] l->Seen (λr=>r<B) w' [v] l:=λh=>al.ab h J λr _ h=>U r (h.elim False.elim id);exact⟨c aw.1,c aw.2.1,c aw.2.2⟩
theorem jq.ext {h:ey} (aw:jq B w sizes h) (J:Ext w w'):jq B w' sizes h:=aw.ab (J.ab λ_=>False) λ_ _ h=>h
theorem jq.one {h:ey} (aw:jq B w sizes h):∀u∈cO h,u.oneCell'=true:=by
 intro u hu;simp only[cO,T1,List.not_mem_nil,or_false] at hu;rcases hu with rfl|rfl|rfl
 .exact e7 aw.1
 .exact e7 aw.2.1
 .exact e7 aw.2.2
def qF (f:dE):cu:=(f.sc,f.cs)
def sX (B:Nat) (w:x2) (sizes:Λ) (g:Nat) (v:y0) (l:List cu):Prop:=∃L,bb cO 3 aX w g v L/\L.map da=l/\ ∀h∈L,jq B w sizes h
theorem sX.ext {g:Nat} {l:List cu} (h:sX B w sizes g v l) (J:Ext w w'):sX B w' sizes g v l:=by
 obtain⟨L,h1,U,V⟩:=h;exact⟨L,h1.ext J,U,λx W=>(V x W).ext J⟩
theorem C4 {iD:y0} {s:aB} (aH:gK w iD k sizes s) (aJ:dA k sizes s) (be:s.funs.length<=100000):
  ai x3 Ev [iD] w λv w'=>Ext w w'/\ ∃g,sX w'.heap.size w' sizes g v ((fX s).map qF):=by
 refine az func74 ?_;refine bP λg1 V bf aq aK=>?_;obtain⟨szv,bg,bh,bi,aO,bj,aP,bl,_,bm,bn,bo,aQ,bq⟩:=aH.box aq aK;have au:Seen (λr=>r<V.heap.size) V [aO] (s.funs.map eo):=lQ aQ λr J _=>J;rw[av aD.p 6 aP rfl,eh b8.u au,u5];refine bA.range s.funs.length (λi out aa=>Ext V aa/\ ∃g L,bb cO 3 aX aa g out L/\L.map da=((s.funs.take i).filter λf=>decide (f.live≠0)).map qF/\(∀h∈L,jq V.heap.size aa sizes h)/\ ∀r,leadsTo out r->V.heap.size<=r) Ω
  ⟨Ext.refl _,0,[],bb.nil _ _ _ _ _,rfl,λh aw=>(by cases aw),λr J=>(eT J).elim⟩ ?_ ?_
 .rintro i out aa aS hi ⟨X,g,L,ad,Y,ac,af⟩ aT;obtain⟨f,ag⟩:=aN (l:=s.funs) hi;obtain⟨_,aU,_⟩:=aJ.funs f (x5 ag);have bt:L.length<=100000:=by
   have h1:=congrArg T9 Y;have aV:=S5 (λf:dE=>decide (f.live≠0)) (s.funs.take i);rw[u5,u5] at h1;rw[o5] at aV;omega
  have ay:(s.funs.take (i+1)).filter (λf=>decide (f.live≠0))=(s.funs.take i).filter (λf=>decide (f.live≠0))++(if f.live≠0 then[f] else[]):=by
   rw[r9,ag,j6,List.filter_append];congr 1;by_cases h:f.live≠0
   .rw[if_pos h,List.filter_cons,if_pos (decide_eq_true h),List.filter_nil]
   .rw[if_neg h,List.filter_cons,if_neg (by simpa using h),List.filter_nil]
  refine bk Ω ?_;refine aR (λout aa=>Ext V aa/\ ∃g L,bb cO 3 aX aa g out L/\L.map da=((s.funs.take (i+1)).filter λf=>decide (f.live≠0)).map qF/\(∀h∈L,jq V.heap.size aa sizes h)/\ ∀r,leadsTo out r->V.heap.size<=r) (λ_ _ aW=>by rw[aL];exact aT _ _ aW) λbu aA=>?_;refine hF (α:=fu) (a:=eo f) bT.p rfl b8.u bT.i (a7 au X) (by rw[u4,ag];rfl) λcs aY=>?_;obtain⟨ax,ah,aI,rfl,aC,aE,aF⟩:=ND aY;refine bp bT.i λaZ bw bx a1 a2=>?_;refine bK (vs:=[ax,ah,aI,.bool (decide (f.live≠0))]) bT.i rfl rfl (wu (gQ aC) (gQ aE) (gQ aF)) a2 λaj a6 bz ae=>?_;have U:Ext aa aj:=a1.put a6 Ω;rw[av bT.p 1 ae rfl,ak];refine⟨λam=>?_,λam=>aA _ _ ⟨X.trans U,g,L,ad.ext U,by rw[ay,if_neg am,X6];exact Y,λh aw=>(ac h aw).ext U,af⟩⟩;let a:ey:=⟨ax,ah,aI,f.sc,f.cs⟩;have aG:jq V.heap.size aj sizes a:=⟨a7 aC U,by show Seen _ aj [ah] (bI sizes f.sc);rw[<-aU];exact a7 aE U,a7 aF U⟩;rw[aM bT.p rfl,br (cs:=cO a) aX.p aX.i rfl (λq u W=>by
   have:q<3:=(x4.1 W).1
   match q,this,W with
   |0,_,W=>cases W;exact ae.cell (o:=0+0) rfl
   |1,_,W=>cases W;exact ae.cell (o:=0+1) rfl
   |2,_,W=>cases W;exact ae.cell (o:=0+2) rfl)]
  refine gg (f:=cO) (k:=3) (a:=a) cg.u aX.i Ω rfl rfl λbB bC bD bE an a8=>?_;refine gB (f:=cO) (a:=a) cg.u aX.i rfl ((ad.ext U).ext an) (by simpa using a8.sl) aG.one Ω Ω λbF ba bG bc bd ao=>?_;have ap:=U.trans an;have z:=(X.trans ap).size;have no:∀r,r<V.heap.size->¬leadsTo out r:=λr J h=>by have:=af r h;omega
  refine aA _ _ ⟨(X.trans ap).then ao no,ba,L++[a],bc,by rw[j9,Y,ay,if_pos am,j9];rfl,λh aw=>?_,λr J=>(bd r J).elim (af r) λh=>Ω⟩;rcases l5.1 aw with aw|aw
  .exact ((ac h aw).ext ap).ab ao no
  .rw[l9.1 aw];exact (aG.ext an).ab ao no
 .rintro out aa aS ⟨X,g,L,ad,Y,ac,_⟩;refine b2 Ω ?_;have z:=X.size;rw[o9] at Y;have up:∀ {v:y0} {l:Λ},Seen (λr=>r<V.heap.size) aa [v] l->Seen (λr=>r<aa.heap.size) aa [v] l:=λh=>al.mono h (λ_ _ h=>h) λr J _=>J;exact⟨aq.trans X,g,L,ad,Y,λh aw=>⟨up (ac h aw).1,up (ac h aw).2.1,up (ac h aw).2.2⟩⟩
def lx (s:aB):Prop:=∀x∈s.vars,x.gone=0\/x.gone=1
theorem mc {α β:Type} {f:α->β} {l:List α} {i:Nat} {x:α} (h:l[i]? =σ x):(l.take (i+1)).map f=(l.take i).map f++[f x]:=by
 rw[r9,h,j6,j9,List.map_singleton]
theorem o1 {α β J:Type} {f:α->J} {g:β->J} {l:List α} {m:List β} {i:Nat} {x:α} {y:β} (h:l.map f=m.map g) (U:l[i]? =σ x) (V:m[i]? =σ y):f x=g y:=by
 have:(l.map f)[i]? =(m.map g)[i]?:=by rw[h]
 rw[u4,u4,U,V] at this;exact Z9 this
theorem C5 {a:Int} {bv:y0} {J U:Λ} (h1:Seen dr w [ax] J) (V:Seen dr w [bv] U):∀u∈[Δ a,ax,bv],u.oneCell'=true:=by
 intro u hu;simp only[T1,List.not_mem_nil,or_false] at hu;rcases hu with rfl|rfl|rfl
 .rfl
 .exact e7 h1
 .exact e7 V
section
variable {w:x2} {xs fY:y0} {k:Int} {sizes:Λ} {s t:aB}
theorem NE {Q:y0->x2->Prop} (J:gK w xs k sizes s) (ds:gK w fY k sizes t) (aV:dA k sizes s) (bm:dA k sizes t) (gs:lx s) (du:lx t) (cJ:s.funs.length<=100000/\t.funs.length<=100000)
  (aW:¬o0 s t-> ∀w',Ext w w'->Q (.bool false) w') (dv:o0 s t-> ∀w',Ext w w'->Q (.bool true) w'):ai x3 xJ [xs,fY] w Q:=by
 have eW:=aV.vars;have bO:=bm.vars;have eX:=aV.ej.2.1;have one:∀ {w:x2} {α:Type} [al α] {m:Bool} {S R:ah} {c:List y0} {l:List α},al.rep m S R w c l-> ∃v,c=[v]:=λh=>by obtain⟨v,bQ,_⟩:=h;exact⟨v,bQ⟩
 refine az func18 ?_;refine bP λg1 V eY cb dw=>?_;refine bP λeZ aa e0 cc dx=>?_;have cK:=(J.box cb dw).ext cc;have cL:=ds.box (cb.trans cc) dx;have aJ:=cb.trans cc;obtain⟨szv,e1,dy,e2,e3,e5,ao,cM,_,cd,dz,dC,e6,bS⟩:=id cK;obtain⟨e7,e8,e9,fa,fb,ev',a1,_,_,dD,dE,dF,fc,cN⟩:=id cL;refine aR (λv cO=>v= .bool (!decide (s.zero=t.zero/\s.elims.length=t.elims.length))/\Ext aa cO) ?_ λbT ap=>?_
 rotate_left
 .rw[av aD.p 2 ao rfl,av aD.p 2 a1 rfl,bH,ak];refine⟨λW=>ap _ _ ⟨by rw[decide_eq_false λh=>W (by rw[h.1])];rfl,Ext.refl _⟩,λbn=>?_⟩;rw[av aD.p 7 ao rfl,eh eA.u bS,u5,av aD.p 7 a1 rfl,eh eA.u cN,u5,bH];refine ap _ _ ⟨?_,Ext.refl _⟩;congr 1;have bn:s.zero=t.zero:=X9.1 bn;by_cases ae:s.elims.length=t.elims.length
  .rw[decide_eq_true (show _/\_ from⟨bn,ae⟩)];exact decide_eq_false Ω
  .rw[decide_eq_false (λh:_/\_=>ae h.2)];exact decide_eq_true Ω
 rintro _ cO ⟨rfl,bU⟩;rw[bt];refine⟨λW=>aW (λh=>by rw[decide_eq_true (show _/\_ from⟨h.zero,h.NB⟩)] at W;cases W) _ (aJ.trans bU),λdI=>?_⟩;obtain⟨bn,dJ⟩:s.zero=t.zero/\s.elims.length=t.elims.length:=by simpa using dI
 rw[av aD.p 1 (ao.ext bU) rfl,aU af.u (cM.ext bU)];refine bA.range sizes.length (λi _ ce=>Ext aa ce/\(s.vars.take i).map dG=(t.vars.take i).map dG) cM.le ⟨bU,rfl⟩ ?_ ?_
 .rintro i t4 ce bo hi ⟨bq,br⟩ bu;obtain⟨x,aY⟩:=aN (l:=s.vars) (i:=i) Ω;obtain⟨y,aZ⟩:=aN (l:=t.vars) (i:=i) Ω;have am:=gs x (x5 aY);have dK:=du y (x5 aZ);have cP:o0 s t->dG x=dG y:=λh=>o1 h.vars aY aZ;have cQ:(s.vars.map bN)[i]? =σ (bN x):=by rw[u4,aY];rfl
  have dL:(t.vars.map bN)[i]? =σ (bN y):=by rw[u4,aZ];rfl
  have dM:(s.vars.map λx=>decide (x.gone≠0))[i]? =σ (decide (x.gone≠0)):=by rw[u4,aY];rfl
  have dN:(t.vars.map λx=>decide (x.gone≠0))[i]? =σ (decide (y.gone≠0)):=by rw[u4,aZ];rfl
  have dO:(s.vars.map (·.un))[i]? =σ x.un:=by rw[u4,aY];rfl
  have dP:(t.vars.map (·.un))[i]? =σ y.un:=by rw[u4,aZ];rfl
  have fd:=(aV.var i x _ aY (x6 hi)).1;have fe:=(bm.var i y _ aZ (x6 hi)).1;have dQ:∀d∈bN x,0<=d/\d<(x.un.length:Int):=λd aB=>by
   unfold bN at aB;obtain⟨h1,_⟩:=List.mem_filter.1 aB;obtain⟨q,bV,rfl⟩:=Z6.1 h1;have:=List.mem_range.1 bV;omega
  have cR:∀ {ag:x2} {K:y0->Prop},Ext aa ag->K (.bool (decide (x.gone≠0)))->U x3 (l7 e4 dy (Δ (i:Int))) ag λp=>U x3 (x7 ec p) ag K:=λa2 ci=>by
   refine iY (α:=Bool) (a:=decide (x.gone≠0)) rfl e4.u ec.i (a7 dz a2) dM λb o cs ck aC=>?_;obtain rfl:cs=[.bool (decide (x.gone≠0))]:=aC;rw[aS (v:=.bool (decide (x.gone≠0))) Ψ (by have:=ck 0 _ rfl;simpa using this)];exact ci
  refine bk Ω ?_;refine aR (λv aq=>v= .bool (!decide (x.gone=y.gone/\bN x=bN y))/\Ext aa aq) ?_ λff cS=>?_
  rotate_left
  .intro aq ab _ _;have ay:=bq.trans ab;rw[av aD.p 4 (ao.ext ay) rfl];refine cR ay ?_;rw[av aD.p 4 (a1.ext ay) rfl];refine iY (α:=Bool) (a:=decide (y.gone≠0)) rfl e4.u ec.i (a7 dE ay) dN λb o cs ck aC=>?_;obtain rfl:cs=[.bool (decide (y.gone≠0))]:=aC;rw[aS (v:=.bool (decide (y.gone≠0))) Ψ (by have:=ck 0 _ rfl;simpa using this),nA ec.u,bt];have dR:(decide (x.gone≠0) == decide (y.gone≠0))=decide (x.gone=y.gone):=by
    rcases am with e|e<;>rcases dK with X|X<;>rw[e,X]<;>decide
   rw[dR];refine⟨λW=>cS _ _ ⟨by rw[decide_eq_false (λh:_/\_=>by rw[decide_eq_true h.1] at W;cases W)];rfl,ay⟩,λW=>?_⟩;have bW:x.gone=y.gone:=by simpa using W
   rw[av aD.p 3 (ao.ext ay) rfl];refine hE (α:=Λ) (a:=bN x) rfl rfl cj.u af.i Ψ (a7 cd ay) cQ λcT aE=>?_;rw[av aD.p 3 (a1.ext ay) rfl];refine hE (α:=Λ) (a:=bN y) rfl rfl cj.u af.i Ψ (a7 dD ay) dL λfg dT=>?_;refine (od (c4 aE) (c4 dT)).mono ?_;rintro _ a6 _ ⟨rfl,aA⟩;rw[bg];exact cS _ _ ⟨by congr 2;exact decide_eq_decide.2 ⟨λh=>⟨bW,h⟩,λh=>h.2⟩,ay.trans aA⟩
  rintro _ aq ⟨rfl,ab⟩;rw[bt];refine⟨λW=>aW (λh=>by
   have h:=qE.1 (cP h);rw[decide_eq_true (show _/\_ from⟨h.1,h.2.1⟩)] at W;cases W) _ (aJ.trans ab),λW=>?_⟩
  obtain⟨bW,cl⟩:x.gone=y.gone/\bN x=bN y:=by simpa using W
  rw[av aD.p 3 (ao.ext ab) rfl];refine hE (α:=Λ) (a:=bN x) rfl rfl cj.u af.i Ψ (a7 cd ab) cQ λcT aE=>?_;have aE:=c4 aE;rw[aU af.u aE];refine bA.range (bN x).length (λq _ a6=>Ext aq a6/\(x.gone=0->((bN x).take q).map (λv=>x.un.getD v.toNat 0)=((bN x).take q).map (λv=>y.un.getD v.toNat 0))) aE.le ⟨Ext.refl _,λ_=>rfl⟩ ?_ ?_
  .rintro q cm a6 dU bV ⟨aA,bX⟩ dV;obtain⟨d,aB⟩:=aN (l:=(bN x)) bV;have fh:=dQ d (x5 aB);obtain⟨c,aC⟩:=aN (l:=x.un) (i:=d.toNat) Ω;obtain⟨aK,bw⟩:∃c,y.un[d.toNat]? =σ c:=⟨_,x6 Ω⟩;have cU:x.un.getD d.toNat 0=c:=by rw[u9,aC];rfl
   have cV:y.un.getD d.toNat 0=aK:=by rw[u9,bw];rfl
   refine bk Ω ?_;rw[bf af.u ac.i Ψ (aE.ext aA) aB];refine aR (λr a8=>r= .bool (!decide (x.gone=0->c=aK))/\Ext aq a8) ?_ λfi cW=>?_
   .rintro _ a8 ⟨rfl,ba⟩;rw[bt];refine⟨λW=>aW (λh=>?_) _ (aJ.trans (ab.trans ba)),λW=>?_⟩
    .have h:=(qE.1 (cP h)).2.2;rw[decide_eq_true λaO=>?_] at W
     .cases W
     .unfold fF at h;rw[if_neg Ω,if_neg Ω,<-cl] at h;have:=o1 h aB aB;rw[cU,cV] at this;exact this
    .rw[aL];have dX:x.gone=0->c=aK:=by simpa using W
     exact dV _ _ ⟨ba,λaO=>by rw[mc aB,mc aB,bX aO,cU,cV,dX aO]⟩
   .intro bY bb _ _;have cn:=aA.trans bb;have ad:=ab.trans cn;rw[av aD.p 4 (ao.ext ad) rfl];refine cR ad ?_;rw[bg,bt];refine⟨λaP=>?_,λaP=>cW _ _ ⟨by rw[decide_eq_true λh=>absurd h (by simpa using aP)];rfl,cn⟩⟩;have aO:x.gone=0:=by simpa using aP
    rw[av aD.p 5 (ao.ext ad) rfl];refine hE (α:=Λ) (a:=x.un) rfl rfl dH.u au.i Ψ (a7 dC ad) dO λfj dZ=>?_;rw[dY (y:=d) (i:=d.toNat) Ω au.u an.i Ψ (c4 dZ) aC,av aD.p 5 (a1.ext ad) rfl];refine hE (α:=Λ) (a:=y.un) rfl rfl dH.u au.i Ψ (a7 dF ad) dP λfk ea=>?_;rw[dY (y:=d) (i:=d.toNat) Ω au.u an.i Ψ (c4 ea) bw,bH];refine cW _ _ ⟨?_,cn⟩;congr 1;by_cases h:c=aK
    .rw[decide_eq_true (p:=x.gone=0->c=aK) λ_=>h];exact decide_eq_false Ω
    .rw[decide_eq_false (p:=x.gone=0->c=aK) λaG=>h (aG aO)];exact decide_eq_true h
  .rintro cm a6 dU ⟨aA,bX⟩;refine b2 Ω ?_;rw[aL];rw[o9] at bX;refine bu _ _ ⟨ab.trans aA,?_⟩;rw[mc aY,mc aZ,br];congr 2;refine qE.2 ⟨bW,cl,?_⟩;unfold fF;by_cases aO:x.gone=0
   .rw[if_neg Ω,if_neg Ω,<-cl];exact bX aO
   .rw[if_pos aO,if_pos Ω]
 rintro t4 ce bo ⟨bq,cp⟩;rw[n0 Ω,n0 Ω] at cp;refine b2 Ω ?_;rw[av aD.p 7 (ao.ext bq) rfl,eh eA.u (a7 bS bq),u5];have cX:=lR bS;rw[u5] at cX;refine bA.range s.elims.length (λi _ aq=>Ext aa aq/\(s.elims.take i).map fv=(t.elims.take i).map fv) cX ⟨bq,rfl⟩ ?_ ?_
 .rintro i t4 aq bo hi ⟨ab,br⟩ bu;obtain⟨e,cq⟩:=aN (l:=s.elims) (i:=i) Ω;obtain⟨X,cr⟩:∃y,t.elims[i]? =σ y:=⟨_,x6 Ω⟩;have ed:o0 s t->e.v=X.v/\e.sc=X.sc/\e.dl=X.dl:=λh=>(C2 (r:=[]) (r':=[]) (by rw[o1 h.elims cq cr])).1;refine bk Ω ?_;refine hF (α:=hW) (a:=iM e) bR.p rfl eA.u bR.i (a7 bS ab) (by rw[u4,cq];rfl) λcs bx=>?_;obtain⟨ax,bv,rfl,bZ,b0⟩:=ws bx;refine bp bR.i λge a6 bW aA ee=>?_;refine bK (vs:=[Δ e.v,ax,bv]) bR.i rfl rfl (C5 bZ b0) ee λa8 ef fm eg=>?_;have cY:Ext aq a8:=aA.put ef Ω;have ct:=ab.trans cY;rw[av aD.p 7 (a1.ext ct) rfl];refine hF (α:=hW) (a:=iM X) bR.p rfl eA.u bR.i (a7 cN ct) (by rw[u4,cr];rfl) λcs bx=>?_;obtain⟨ei,ek,rfl,cZ,c1⟩:=ws bx;refine bp bR.i λfo bY fp bb em=>?_;refine bK (vs:=[Δ X.v,ei,ek]) bR.i rfl rfl (C5 cZ c1) em λbz en fq cu=>?_;have bB:Ext a8 bz:=bb.put en Ω;have cw:=ct.trans bB;have cz:=eg.ext bB;have c2:=cY.trans bB;refine aR (λr b1=>r= .bool (!decide (e.v=X.v/\e.sc=X.sc/\e.dl=X.dl))/\Ext aa b1) ?_ λbT ap=>?_
  .rintro _ b1 ⟨rfl,aj⟩;rw[bt];refine⟨λW=>aW (λh=>by rw[decide_eq_true (ed h)] at W;cases W) _ (aJ.trans aj),λW=>?_⟩;obtain⟨h1,aG,eo⟩:e.v=X.v/\e.sc=X.sc/\e.dl=X.dl:=by simpa using W
   rw[aL];exact bu _ _ ⟨aj,by rw[mc cq,mc cr,br];unfold fv;rw[h1,aG,eo]⟩
  .have cA:∀ {b:Bool} {ag:x2},Ext aa ag->(b=false↔e.v=X.v/\e.sc=X.sc/\e.dl=X.dl)->bT (.bool b) ag:=λ{b ag} a2 c3=>ap _ _ ⟨by
    congr 1;cases b
    .rw[decide_eq_true (c3.1 rfl)];rfl
    .rw[decide_eq_false λh=>by cases c3.2 h];rfl,a2⟩
   rw[av bR.p 0 cz rfl,av bR.p 0 cu rfl,bH,ak];refine⟨λW=>cA cw ⟨λh=>(by cases h),λh=>absurd h.1 W⟩,λW=>?_⟩;have h1:e.v=X.v:=X9.1 W;rw[av bR.p 1 cz rfl,av bR.p 1 cu rfl];refine (od (c4 (a7 bZ c2)) (c4 (a7 cZ bB))).mono ?_;rintro _ b1 _ ⟨rfl,aj⟩;rw[bg,bt];refine⟨λW=>cA (cw.trans aj) ⟨λh=>(by cases h),λh=>absurd h.2.1 (by simpa using W)⟩,λW=>?_⟩;have aG:e.sc=X.sc:=by simpa using W
   rw[av bR.p 2 (cz.ext aj) rfl,av bR.p 2 (cu.ext aj) rfl];refine (od (c4 (a7 b0 (c2.trans aj))) (c4 (a7 c1 (bB.trans aj)))).mono ?_;rintro _ ep _ ⟨rfl,cB⟩;rw[bg];exact cA ((cw.trans aj).trans cB) ⟨λh=>⟨h1,aG,by simpa using h⟩,λh=>by rw[decide_eq_true h.2.2];rfl⟩
 rintro t4 aq bo ⟨ab,c5⟩;rw[n0 Ω,n0 Ω] at c5;refine b2 Ω ?_;intro a6 aA _ _;have cC:=ab.trans aA;refine (cK.ext cC).load λus er=>?_;refine (cL.ext cC).load λfs es=>?_;refine (C4 er aV cJ.1).mono ?_;rintro et a8 _ ⟨ba,ft,eu⟩;refine⟨.inl ba,?_⟩;obtain⟨ev,rfl,ew⟩:=es;refine (C4 ⟨ev,rfl,ew.ext ba⟩ bm cJ.2).mono ?_;rintro fu bY _ ⟨bb,fw,c6,bC,c7,ey⟩;obtain⟨L,aH,c8,ez⟩:=eu.ext bb;have ad:=(cC.trans ba).trans bb;have fx:L.length=(fX s).length:=by have:=congrArg T9 c8;simpa using this
 have fy:c6.length=(fX t).length:=by have:=congrArg T9 c7;simpa using this
 rw[dt cg.u aH,dt cg.u bC,bH,ak];refine⟨λW=>aW (λh=>by have:=congrArg T9 h.funs;rw[u5,u5] at this;omega) _ (aJ.trans ad),λW=>?_⟩;rw[dt cg.u aH];refine bA.range L.length (λi _ bz=>Ext bY bz/\((fX s).take i).map (dS s)=((fX t).take i).map (dS t)) aH.le ⟨Ext.refl _,rfl⟩ ?_ ?_
 .rintro i t4 bz bo hi ⟨cD,br⟩ bu;obtain⟨h,aw⟩:=aN (l:=L) hi;obtain⟨h',b3⟩:∃h,c6[i]? =σ h:=⟨_,x6 Ω⟩;obtain⟨f,b4⟩:=aN (l:=(fX s)) (i:=i) Ω;obtain⟨g,aP⟩:=aN (l:=(fX t)) (i:=i) Ω;have c9:=x5 b4;have db:=x5 aP;have eB:da h=qF f:=o1 c8 aw b4;have eC:da h'=qF g:=o1 c7 b3 aP;obtain⟨eD,bx⟩:=R8.inj eB;obtain⟨eE,eF⟩:=R8.inj eC;obtain⟨s1,bD,b5⟩:=ez h (x5 aw);obtain⟨b6,_,b7⟩:=ey h' (x5 b3);have s1:=c4 s1;have bD:=c4 bD;have b5:=c4 b5;have b6:=c4 b6;have b7:=c4 b7;rw[eD] at s1 bD;rw[bx] at b5;rw[eE] at b6;rw[eF] at b7;obtain⟨bc,bE,_⟩:=aV.funs f (nz c9).1;obtain⟨eH,fz,_⟩:=bm.funs g (nz db).1;rw[<-bE] at bD;have b8:dW f.szs:=by rw[bE];exact ld aV.ej.2.2 λv bQ=>⟨(bc.scope.1 v bQ).1,bc.vars v bQ⟩
  have eI:f.szs.length=f.sc.length:=by rw[bE];simp[bI]
  have cG:=C1 aV bm cp c9 db;have dc:o0 s t->dS s f=dS t g:=λh=>o1 h.funs b4 aP;have fA:=hq b8;refine bk Ω ?_;intro b1 aj _ _;have bd:=cD.trans aj;have dd:∀ {ag:x2} {K:y0->Prop},Ext bY ag->K h.ax->U x3 (l7 cg et (Δ (i:Int))) ag λp=>U x3 (x8 aX p 0) ag λq=>U x3 (x7 af q) ag K:=λa2 ci=>by
   rw[cE rfl cg.u aX.i (aH.ext a2) hi,aM aX.p rfl,aS (v:=h.ax) Ψ ((aH.ext a2).range aw 0 _ rfl)];exact ci
  refine dd bd ?_;rw[cE rfl cg.u aX.i (bC.ext bd) Ω,aM aX.p rfl,aS (v:=h'.ax) Ψ ((bC.ext bd).range b3 0 _ rfl)];refine (od (s1.ext bd) (b6.ext bd)).mono ?_;rintro _ ep _ ⟨rfl,cB⟩;have bF:=bd.trans cB;rw[bg,bt];refine⟨λW=>aW (λh=>absurd (cG.1 (dc h)).1 (by simpa using W)) _ (aJ.trans (ad.trans bF)),λW=>?_⟩;have de:f.sc=g.sc:=by simpa using W
  rw[cE rfl cg.u aX.i (aH.ext bF) hi,aM aX.p rfl,aS (v:=h.szv) Ψ ((aH.ext bF).range aw 1 _ rfl)];refine (oe f.szs (bD.ext bF) ⟨by rw[eI];exact bc.scope.2,b8⟩).mono ?_;rintro fB eJ _ ⟨eK,cH⟩;have df:=bF.trans eK;rw[eh cj.u cH];refine bA.range (bh f.szs).length (λq _ bG=>Ext eJ bG/\(((bh f.szs).take q).filter (di s f.sc)).map (ch f.szs f.cs)=(((bh f.szs).take q).filter (di s f.sc)).map (ch f.szs g.cs)) (lR cH) ⟨Ext.refl _,rfl⟩ ?_ ?_
  .rintro q cm bG eL bV ⟨bJ,b9⟩ eM;have be:(bh f.szs)[q]? =σ (cF f.szs (q:Int)):=mU b8 Ω;generalize cF f.szs (q:Int)=Y at be;have fC:=ug be;have dg:=mT b8 be;have bi:=df.trans bJ;have eN:((bh f.szs).take (q+1)).filter (di s f.sc)=((bh f.szs).take q).filter (di s f.sc)++(if di s f.sc Y=true then[Y] else[]):=by
    rw[r9,be,j6,List.filter_append];congr 1;cases aw:di s f.sc Y<;>simp[aw]
   refine bk Ω ?_;refine hE (α:=Λ) rfl rfl cj.u af.i Ψ (a7 cH bJ) be λaF bO=>?_;have bO:=c4 bO;refine dd bi ?_;rw[aU af.u (s1.ext bi)];refine bA.range f.sc.length (λp left ca=>Ext bG ca/\left= .bool (di s (f.sc.take p) (Y.take p))) s1.le ⟨Ext.refl _,rfl⟩ ?_ ?_
   .rintro p _ ca eO eP ⟨bL,rfl⟩ eQ;obtain⟨v,cI⟩:=aN (l:=f.sc) eP;obtain⟨y,dh⟩:=aN (l:=Y) (i:=p) Ω;have dj:=x5 cI;have dk:=(bc.scope.1 v dj).1;have dm:=bc.vars v dj;have dm:v<sizes.length:=dm;have dk:0<=v:=dk;obtain⟨x,dn⟩:=aN (l:=s.vars) (i:=v.toNat) Ω;have dp:di s (f.sc.take (p+1)) (Y.take (p+1))=(di s (f.sc.take p) (Y.take p)&&decide (y∈bN x)):=by
     unfold di;rw[r9,r9,cI,dh,j6,j6,List.zip_append Θ,List.all_append];simp[dn]
    refine bk Ω ?_;refine aR (λleft bj=>Ext bG bj/\left= .bool (di s (f.sc.take (p+1)) (Y.take (p+1)))) (λ_ _ eR=>by rw[aL];exact eQ _ _ eR) λbT ap=>?_;rw[bf af.u ac.i Ψ (s1.ext (bi.trans bL)) cI];intro bj aT _ _;have bM:=bL.trans aT;rw[bt];refine⟨λae=>?_,λae=>ap _ _ ⟨bM,by rw[dp,ae];rfl⟩⟩;rw[av aD.p 3 (ao.ext (ad.trans (bi.trans bM))) rfl];refine hE (α:=Λ) (a:=bN x) (i:=v.toNat) rfl Ω cj.u af.i Ψ (a7 cd (ad.trans (bi.trans bM))) (by rw[u4,dn];rfl) λcT aE=>?_;rw[bf af.u ac.i Ψ (bO.ext bM) dh];refine (vU (c4 aE)).mono ?_;rintro _ fD _ ⟨rfl,eS⟩;exact ap _ _ ⟨bM.trans eS,by rw[dp,ae,V6]⟩
   .rintro _ ca eO ⟨bL,rfl⟩;rw[o9,n0 Ω];refine b2 Ω ?_;have dq:=bi.trans bL;refine aR (λr bj=>r= .bool (di s f.sc Y&& !decide (ch f.szs f.cs Y=ch f.szs g.cs Y))/\Ext ca bj) ?_ λbT ap=>?_
    .rintro _ bj ⟨rfl,aT⟩;rw[bt];refine⟨λW=>aW (λh=>?_) _ (aJ.trans (ad.trans (dq.trans aT))),λW=>?_⟩
     .have h:=(cG.1 (dc h)).2;have hm:Y∈(bh f.szs).filter (di s f.sc):=List.mem_filter.2 ⟨x5 be,by revert W;cases di s f.sc Y<;>simp⟩;have h:=List.map_inj_left.1 h Y hm;rw[decide_eq_true h,Y6,Bool.and_false] at W;cases W
     .rw[aL];refine eM _ _ ⟨(bJ.trans bL).trans aT,?_⟩;rw[eN,j9,j9,b9];congr 1;split
      .rename_i ae;rw[ae,V6] at W;rw[List.map_singleton,List.map_singleton,show ch f.szs f.cs Y=ch f.szs g.cs Y by simpa using W]
      .rfl
    .intro bj aT _ _;rw[bt];refine⟨λae=>?_,λae=>ap _ _ ⟨by rw[ae];rfl,aT⟩⟩;have bl:=dq.trans aT;have eU:q<f.cs.length:=by have:=bc.len;have aG:f.cs.length=_:=this;rw[<-bE] at aG;omega
     have eV:q<g.cs.length:=by have:=eH.len;have aG:g.cs.length=_:=this;rw[show (g.sc,g.cs).1=f.sc from de.symm,<-bE] at aG;omega
     obtain⟨c,aC⟩:=aN (l:=f.cs) eU;obtain⟨aK,bw⟩:∃c,g.cs[q]? =σ c:=⟨_,x6 eV⟩;have bZ:ch f.szs f.cs Y=c:=by unfold ch;rw[dg];simp[u9,aC]
     have b0:ch f.szs g.cs Y=aK:=by unfold ch;rw[dg];simp[u9,bw]
     rw[cE rfl cg.u aX.i (aH.ext bl) hi,aM aX.p rfl,aS (v:=h.aI) Ψ ((aH.ext bl).range aw 2 _ rfl),bf au.u an.i Ψ (b5.ext bl) aC,
      cE rfl cg.u aX.i (bC.ext bl) Ω,aM aX.p rfl,aS (v:=h'.aI) Ψ ((bC.ext bl).range b3 2 _ rfl),bf au.u an.i Ψ (b7.ext bl) bw,bH]
     refine ap _ _ ⟨?_,aT⟩;rw[ae,V6,bZ,b0];congr 1;exact decide_not
  .rintro cm bG eL ⟨bJ,b9⟩;rw[o9] at b9;refine b2 Ω ?_;rw[aL];exact bu _ _ ⟨df.trans bJ,by rw[mc b4,mc aP,br,cG.2 ⟨de,b9⟩]⟩
 .rintro t4 bz bo ⟨cD,dr⟩;rw[n0 Ω,n0 Ω] at dr;rw[aQ,ak];exact⟨λh=>Ω,λ_=>dv ⟨bn,dJ,cp,c5,dr⟩ _ (aJ.trans (ad.trans cD))⟩
theorem C6 (J:gK w xs k sizes s) (X:gK w fY k sizes t) (U:dA k sizes s) (V:dA k sizes t) (gs:lx s) (Y:lx t) (aa:s.funs.length<=100000/\t.funs.length<=100000):
  ai x3 xJ [xs,fY] w λv w'=>v= .bool (decide (lv s=lv t))/\Ext w w':=
 NE J X U V gs Y aa (λh w' W=>⟨by rw[decide_eq_false λe=>h ((C3 U V).1 e)],W⟩) λh w' W=>⟨by rw[decide_eq_true ((C3 U V).2 h)],W⟩
end
def wv (T:Nat) (acc:List ce) (s:aE):Prop:=∃M,(∀x∈acc,x.lines.length<=M)/\(∀q∈s.shared,q.2.length<=M)/\3*acc.length+M+s.toks.length<=T
theorem NF {s s':aE} {l:List (Λ×Int)} {M:Nat} (aa:∀q∈s.shared,q.2.length<=M) (h:ds sizes s=σ (l,s')):
  s'.shared=s.shared/\ ∃U,M<=U/\l.length<=U/\U+s'.toks.length+1<=M+s.toks.length:=by
 unfold ds at h;cases V:ba (-aq) aq s with
 |none=>rw[V] at h;cases h
 |some q=>
  obtain⟨n,s1⟩:=q;rw[V] at h;simp only at h;have h1:=db V;obtain⟨ac,ad,W⟩:=h1.eqs;have ae:=h1.1;split at h
  .cases J:s1.shared[(-n-1).toNat]? with
   |none=>rw[J] at h;cases h
   |some q=>
    obtain⟨z,l'⟩:=q;rw[J] at h;simp only at h;split at h
    .simp only[Y8,T5] at h;obtain⟨rfl,rfl⟩:=h;have hm:=x5 J;rw[W] at hm;exact⟨W,M,n9 _,aa _ hm,Ω⟩
    .cases h
  .have:=ia (λacc t=>t.shared=s.shared/\t.toks.length+acc.length<=s1.toks.length) (λacc t a bD ⟨X,ab⟩ g=>by
    obtain⟨af,ag,ah,Y⟩:=mX g;obtain⟨f1,f2,f3⟩:=Y.eqs;exact⟨by rw[f3,X],by have:=Y.1;simp only[r8,U2];omega⟩) n.toNat [] (a6 (decide (16384<min (s1.told+n) aq)) {s1 with told:=min (s1.told+n) aq}) l s' ⟨W,by simp[a6]⟩ h
   obtain⟨⟨X,ab⟩,_⟩:=this;exact⟨X,M+l.length,Ω,Ω,Ω⟩
theorem NG {all:Λ} {T:Nat} {acc:List ce} {s s':aE} {f:ce} (aj:wv T acc s) (h:cW all s=σ (f,s')):wv T (acc++[f]) s':=by
 obtain⟨M,ak,ac,al⟩:=aj;unfold cW at h;cases Y:ba (-aq) aq s with
 |none=>rw[Y] at h;cases h
 |some q=>
 obtain⟨a,s1⟩:=q;rw[Y] at h;simp only at h;have t0:=db Y;cases h1:eK all.length a.natAbs s1 with
 |none=>rw[h1] at h;cases h
 |some q=>
 obtain⟨sc,W⟩:=q;rw[h1] at h;simp only at h;obtain⟨ad,_⟩:=rN h1;generalize sc.map (λv=>all.getD v.toNat 0)=sizes at h;cases aa:ba 0 aq (a6 (decide (6<a.natAbs)||df sizes) W) with
 |none=>rw[aa] at h;cases h
 |some q=>
 obtain⟨other,ab⟩:=q;rw[aa] at h;simp only at h;have ae:=db aa;have af:ab.shared=s.shared:=by rw[ae.eqs.2.2];show W.shared=_;rw[ad.eqs.2.2,t0.eqs.2.2]
 have am:ab.toks.length+2<=s.toks.length:=by
  have:=t0.1;have:=ad.1;have X:=ae.1;have:(a6 (decide (6<a.natAbs)||df sizes) W).toks.length=W.toks.length:=rfl;omega
 cases X:ds sizes ab with
 |none=>rw[X] at h;cases h
 |some q=>
 obtain⟨lines,U⟩:=q;rw[X] at h;simp only[Y8,T5] at h;obtain⟨rfl,rfl⟩:=h;obtain⟨g1,ag,an,ah,ao⟩:=NF (M:=M) (by rw[af];exact ac) X;have ai:∀q∈U.shared,q.2.length<=ag:=λq J=>by rw[g1,af] at J;have:=ac q J;omega
 refine⟨ag,λx V=>?_,λq J=>?_,?_⟩
 .rcases l5.1 V with V|V
  .have:=ak x V;omega
  .rw[l9.1 V];exact ah
 .split at J
  .rcases l5.1 J with J|J
   .exact ai q J
   .rw[l9.1 J];exact ah
  .exact ai q J
 .have:(if a<0 then {U with shared:=U.shared++[(sizes,lines)]} else U).toks=U.toks:=by split<;>rfl
  rw[this,r8,U2];omega
theorem C7 {M:Nat}:∀ (l:List ce),(∀x∈l,x.lines.length<=M)->hR l<=l.length*M
 |[],_=>by simp[hR]
 |x::l,h=>by
  have h1:=C7 l λy J=>h y (.tail _ J);have U:=h x (.head _);unfold hR at h1 ⊢;rw[T2,List.sum_cons,Z5,U7,Nat.one_mul];omega
theorem NH {q:Λ} {f:b4} (ay:q.length<=300) (h:fj q=σ f):hR f.funs<=16384/\f.funs.length<=100:=by
 have az:=n5 q.length q (n9 _);unfold fj at h;rw[if_neg Ω] at h;cases J:gx ⟨(lex q).1,0,false,[]⟩ with
 |none=>rw[J] at h;cases h
 |some p=>
 obtain⟨aA,s'⟩:=p;rw[J] at h;simp only at h;split at h
 rotate_left
 .cases h
 cases h;have W:(⟨(lex q).1,0,false,[]⟩:aE).toks.length<=300:=by show (lex q).1.length<=300;omega
 have ah:(⟨(lex q).1,0,false,[]⟩:aE).shared=[]:=rfl;generalize (⟨(lex q).1,0,false,[]⟩:aE)=s at J W ah;unfold gx at J;cases X:dD s with
 |none=>rw[X] at J;cases J
 |some p=>
 obtain⟨name,s0⟩:=p;rw[X] at J;simp only at J;obtain⟨V,aa⟩:=pF X;have a0:s0.toks.length<=300/\s0.shared=[]:=⟨by rw[V] at W;simp at W;omega,by rw[aa];exact ah⟩;have num:∀ {lo hi n:Int} {b:Bool} {s t:aE},(s.toks.length<=300/\s.shared=[])->ba lo hi (a6 b s)=σ (n,t)->t.toks.length<=300/\t.shared=[]:=λ{lo hi n b s t} al am=>by
  have:=db am;have h1:(a6 b s).toks.length=t.toks.length+1:=this.1;have U:s.toks.length=t.toks.length+1:=h1;exact⟨Ω,by rw[this.eqs.2.2];exact al.2⟩
 cases h1:ba 1 aq (a6 (decide (64<name.length)) s0) with
 |none=>rw[h1] at J;cases J
 |some p=>
 obtain⟨n,s1⟩:=p;rw[h1] at J;simp only at J;have an:=num a0 h1;cases U:ba 1 aq (a6 (decide (64<n)) s1) with
 |none=>rw[U] at J;cases J
 |some p=>
 obtain⟨most,ao⟩:=p;rw[U] at J;simp only at J;have ap:=num an U;cases Y:ba 0 aq ao with
 |none=>rw[Y] at J;cases J
 |some p=>
 obtain⟨count,ab⟩:=p;rw[Y] at J;simp only at J;have a3:ab.toks.length<=300/\ab.shared=[]:=by
  have:=db Y;exact⟨by have:=this.1;omega,by rw[this.eqs.2.2];exact ap.2⟩
 cases ac:ba 1 aq (a6 (decide (256<count)) ab) with
 |none=>rw[ac] at J;cases J
 |some p=>
 obtain⟨k,ai⟩:=p;rw[ac] at J;simp only at J;have a4:=num a3 ac;cases ad:cD (e0 most) n.toNat [] (a6 (decide (2147483648<k)) ai) with
 |none=>rw[ad] at J;cases J
 |some p=>
 obtain⟨sizes,ae⟩:=p;rw[ad] at J;simp only at J;have aj:=ia (f:=e0 most) (λ(acc:Λ) t=>t.toks.length<=300/\t.shared=[]) (λacc t a bD g1 g=>by
  unfold e0 at g;cases af:ba 1 most t with
  |none=>rw[af] at g;cases g
  |some p=>
   obtain⟨z,ak⟩:=p;rw[af] at g;simp only[Y8,T5] at g;obtain⟨rfl,rfl⟩:=g;have:=db af;exact⟨by show ak.toks.length<=300;have:=this.1;omega,by show ak.shared=[];rw[this.eqs.2.2];exact g1.2⟩) n.toNat [] (a6 (decide (2147483648<k)) ai) sizes ae a4 ad
 cases ag:cD (λ_ s=>cW sizes s) count.toNat [] ae with
 |none=>rw[ag] at J;cases J
 |some p=>
 obtain⟨funs,au⟩:=p;rw[ag] at J;simp only[Y8,T5] at J;obtain⟨rfl,rfl⟩:=J;obtain⟨⟨M,av,_,aB⟩,_⟩:=ia (wv 300) (λacc t a bD aw g=>NG aw g) count.toNat [] ae funs au ⟨0,Ξ,by rw[aj.1.2];simp,by have:=aj.1.1;simp;omega⟩ ag;have aC:=C7 funs av;show hR funs<=16384/\funs.length<=100;refine⟨?_,Ω⟩;have ax:∀k<101,k*(300-3*k)<=16384:=Φ
 have aD:=Nat.mul_le_mul_left funs.length (show M<=300-3*funs.length by omega);have:=ax funs.length Ω;omega
theorem NI {q:Λ} {f:b4} (J:q.length<=300) (h:fj q=σ f):hR f.funs<=16384:=(NH J h).1
theorem NJ (n:aY):lx (eb n):=λx J=>by
 obtain⟨u,_,rfl⟩:=Z6.1 (show x∈n.unary.map newVar from J);exact .inl rfl
theorem NK {n:aY} {s:aB} {a:dn} (h:lx s):lx (eO n s a):=by
 unfold eO lp kE jS lr kH lq lu ha gJ iL iN gp
 repeat' split
 all_goals first
  |exact h
  |(intro x V
    rcases W8 V with V|rfl
    .exact h x V
    .first
     |exact .inr rfl
     |(rename_i J U;exact h U (x5 J))
     |(rename_i U J;exact h U (x5 J))
     |(rename_i J U _;exact h U (x5 J)))
def hd (A R:ah) (A9:Nat->ah) (aP:ah) (am:Nat) (r:Nat):Prop:=A r\/R r\/(∃q,A9 q r)\/aP r\/r=am
structure iQ (P:ah) (c0 w:x2) (aj ag am:Nat) (A R:ah) (A9:Nat->ah) (aP:ah) (n:aY) (s:aB) (t:aC) (h:List aC) (cs:List y0) (m:Nat):Prop where
 p:bV w aj ag am A R A9 aP n s s t h cs
 nC:∀r,A r->cI c0 r->P r
 md:∀r,(∃q,A9 q r)\/r=am->P r
 sY:∀q r,A9 q r->r<w.heap.size
 kI:nx s
 me:lx s
 b:t.ever<=m/\t.cells.length<=2000000+700*m/\t.olds.length<=800*m/\s.funs.length<=256+m/\s.elims.length<=m
section
variable {P:ah} {c0 w w':x2} {aj ag am fG fH hA:Nat} {A R aG R':ah} {A9 bm:Nat->ah} {aP R9':ah} {n:aY} {s s':aB} {t bD:aC} {h h':List aC} {cs bo:List y0} {m c7:Nat}
theorem iQ.lt (o:iQ P c0 w aj ag am A R A9 aP n s t h cs m):∀r,hd A R A9 aP am r->r<w.heap.size:=λr J=>by
 have U:=qx o.p.cJ;rcases J with J|J|⟨q,J⟩|J|rfl
 .exact U r (.inl J)
 .exact U r (.inr J)
 .exact o.sY q r J
 .exact (o.p.read r J).2.1
 .exact o.p.box.lt
theorem iQ.ext (o:iQ P c0 w aj ag am A R A9 aP n s t h cs m) (J:Ext w w'):iQ P c0 w' aj ag am A R A9 aP n s t h cs m:=
 ⟨o.p.ext J,o.nC,o.md,λq r U=>by have:=o.sY q r U;have:=J.size;omega,o.kI,o.me,o.b⟩
theorem iQ.side {S:ah} (o:iQ P c0 w aj ag am A R A9 aP n s t h cs m) (V:ae S w w') (U:∀r,S r->¬hd A R A9 aP am r):iQ P c0 w' aj ag am A R A9 aP n s t h cs m:=
 ⟨o.p.side V λr _ J=>⟨λh=>U r J (.inl h),λh=>U r J (.inr (.inl h)),λq h=>U r J (.inr (.inr (.inl ⟨q,h⟩))),λh=>U r J (.inr (.inr (.inr (.inl h)))),λh=>U r J (.inr (.inr (.inr (.inr h))))⟩,o.nC,o.md,λq r J=>by have:=o.sY q r J;have:=V.size;omega,o.kI,o.me,o.b⟩
theorem iQ.wx (o:iQ P c0 w aj ag am A R A9 aP n s t h cs m) (hk:ae P c0 w) (r:Nat) (V:(A r\/(∃q,A9 q r)\/r=am)/\(cI w r\/(∃q,A9 q r)\/r=am)):P r:=by
 by_cases W:P r
 .exact W
 rcases V.2 with U|U
 .rcases V.1 with h1|h1
  .exact o.nC r h1 (jL (λq X J _=>hk.bc r q X J W) U)
  .exact o.md r h1
 .exact o.md r U
def fd (P:ah) (c0 w:x2) (aj ag am fG fH hA:Nat) (n:aY) (s s':aB) (h h':List aC) (m c7:Nat) (Z fe:ah):Prop:=ae P c0 w/\(∀r,Z r->¬fe r)/\ ∃A R A9 aP t cs aG R' bm R9' bD bo,iQ P c0 w aj ag am A R A9 aP n s t h cs m/\iQ P c0 w fG fH hA aG R' bm R9' n s' bD h' bo c7/\Z=hd A R A9 aP am/\fe=hd aG R' bm R9' hA
variable {Z fe:ah}
theorem fd.symm (k:fd P c0 w aj ag am fG fH hA n s s' h h' m c7 Z fe):fd P c0 w fG fH hA aj ag am n s' s h' h c7 m fe Z:=by
 obtain⟨J,d,A,R,A9,aP,t,cs,aG,R',bm,R9',bD,bo,o,o',e,U⟩:=k;exact⟨J,λr h1 V=>d r V h1,aG,R',bm,R9',bD,bo,A,R,A9,aP,t,cs,o',o,U,e⟩
theorem fd.ext (k:fd P c0 w aj ag am fG fH hA n s s' h h' m c7 Z fe) (J:Ext w w'):fd P c0 w' aj ag am fG fH hA n s s' h h' m c7 Z fe:=by
 obtain⟨U,d,A,R,A9,aP,t,cs,aG,R',bm,R9',bD,bo,o,o',e⟩:=k;exact⟨U.trans (J.ab _),d,A,R,A9,aP,t,cs,aG,R',bm,R9',bD,bo,o.ext J,o'.ext J,e⟩
theorem fd.lt (k:fd P c0 w aj ag am fG fH hA n s s' h h' m c7 Z fe):∀r,Z r->r<w.heap.size:=by
 obtain⟨J,d,A,R,A9,aP,t,cs,aG,R',bm,R9',bD,bo,o,o',rfl,e⟩:=k;exact o.lt
theorem fd.act {a:dn} {dk cG:y0} (X:∀r,c0.heap.size<=r->P r) (k:fd P c0 w aj ag am fG fH hA n s s' h h' m c7 Z fe) (hm:m<100) (an:sO w dk a) (ao:a.d % 9<7):
  ai x3 tG [Γ aj,Γ am,cG,dk] w λv w'=>v= .bool true/\ae (λr=>P r/\Z r) w w'/\ ∃Y,(∀r,Y r->Z r\/w.heap.size<=r)/\fd P c0 w' aj ag am fG fH hA n (eO n s a) s' h h' (m+1) c7 Y fe:=by
 obtain⟨V,d,A,R,A9,aP,t,cs,aG,R',bm,R9',bD,bo,o,o',rfl,rfl⟩:=k;obtain⟨aD,aE,aF,aH,aI⟩:=o.b;refine (M0 o.p Ω Ω Ω Ω an ao).mono ?_;rintro _ aa _ ⟨rfl,ab,ac,ap,ad,aq,au,av,aw,af,ax,_,ay,ah,_,aJ,aK,az,aL⟩;have ak:=sN aw az;have z:=ak.size;have z0:=V.size;have aA:∀r,(A r\/(∃q,A9 q r)\/r=am)->hd A R A9 aP am r:=λr J=>J.elim .inl λh=>h.elim (λh=>.inr (.inr (.inl h))) λh=>.inr (.inr (.inr (.inr h)));have W:=ak.mono (T:=λr=>P r/\hd A R A9 aP am r) λr _ J=>⟨o.wx V r J,aA r J.1⟩;have aB:=o'.lt;have aM:=M1 (n:=n) (s:=s) (a:=a);have al:∀r,hd ab ac (λq r=>ap q r/\r<aa.heap.size) ad am r->hd A R A9 aP am r\/w.heap.size<=r:=λr J=>by
  rcases J with J|J|⟨q,J,_⟩|J|J
  .exact (af r J).imp .inl id
  .exact (ax r J).imp (λh=>.inr (.inl h)) id
  .exact (ah q r J).imp (λh=>.inr (.inr (.inl h))) id
  .exact (ay r J).imp (λh=>.inr (.inr (.inr (.inl h)))) id
  .exact .inl (.inr (.inr (.inr (.inr J))))
 refine⟨rfl,W,_,al,V.trans (W.mono λr _ h=>h.1),λr J U=>(al r J).elim (λh=>d r h U) λh=>by have:=aB r U;omega,ab,ac,_,ad,aq,au,aG,R',bm,R9',bD,bo,⟨av.olds,λr J aC=>?_,λr J=>?_,λq r J=>J.2,Nt o.kI,NK o.me,Ω,Ω,Ω,Ω,Ω⟩,o'.side W λr J U=>d r J.2 U,rfl,rfl⟩
 .exact (af r J).elim (λh=>o.nC r h aC) λh=>X r Ω
 .rcases J with⟨q,J,_⟩|J
  .exact (ah q r J).elim (λh=>o.md r (.inl h)) λh=>X r Ω
  .exact o.md r (.inr J)
end
theorem wy {w0:x2} {ah:y0} {L:List nw} {N:Nat} {c:Int} {K:x2->Prop} {I:Nat->x2->Prop} {body:y0->x2->(x2->Prop)->Prop} (ab:Seen dr w0 [ah] L) (aD:∀x∈L,(iq x).ok) (aE:c=(N:Int)) (an:I 0 w) (aF:∀m a b,Ext a b->I m a->I m b) (ao:∀m a,I m a->Ext w0 a)
  (aG:∀m ae cs x aj V (X:x2->Prop),m<N->I m aj->Ext aj V->aj.heap.size<=ae->ad V ae aW cs->cs.length=9->(iq x).ok->Seen (λr=>r<w0.heap.size) V cs x->(iq x).d % 9<7->(∀aa,I (m+1) aa->X aa)->body (Γ ae) V X) (aH:∀m w',m<=N->I m w'->K w'):
  U x3 (X0 #[nT] ac #[ah]) w λaI=>
 b0 (Δ 0) w λai J k=>
  U x3 (aA .lss ac false false ai aI) J λaJ=>
  Split aJ (bJ (α:=x2->Prop) (λ(af:x2)=>
   U x3 (aA .add ac false true ai (Δ 1)) af λaK=>
   k aK af) λX=>
  U x3 (l7 nT ah ai) J λaM=>
  U x3 (x7 aW aM) J λt45=>
  ay x3 (S8 aW true (.tuple #[])) J λy ap=>
  ay x3 (o7 aW y t45) ap λ(_:Unit) W=>
  bJ (α:=y0->x2->Prop) (λ(t53:y0) (ag:x2)=>
   Split t53 (body y ag X)
    (X ag)) λaq=>
  U x3 (aA .lss ac false true ai (Δ c)) W λaO=>
  Split aO (U x3 (x8 aW y 0) W λaP=>
   U x3 (x7 cq aP) W λt50=>
  U x3 (aA .rem cq false true t50 (.int .u8 9)) W λaS=>
  U x3 (aA .lss cq false true aS (.int .u8 7)) W λaT=>
  aq aT W)
   (aq (.bool false) W))
   (K J):=by
 subst aE;have ab:Seen (λr=>r<w0.heap.size) w0 [ah] L:=lQ ab λr aU _=>aU;rw[eh nT.u (a7 ab (ao 0 w an))];refine b0.range L.length (λi J=>∃m,m<=i/\m<=N/\I m J) (lR ab) ⟨0,Ω,Ω,an⟩ ?_ ?_
 .rintro i J aV hi ⟨m,bg,aX,Y⟩ aY;obtain⟨x,au⟩:=aN (l:=L) hi;have al:=aD x (x5 au);refine bk Ω ?_;refine dv (λaf=>∃m,m<=i+1/\m<=N/\I m af) (λaf Y=>by rw[aL];exact aY _ Y) λX aw=>?_;refine hF (α:=nw) aW.p rfl nT.u aW.i (a7 ab (ao m J Y)) au λcs ax=>?_;obtain⟨az,aZ,a1,bh⟩:=qA ax al;refine bp aW.i λae ap bi a2 a6=>?_;refine bK (vs:=cs) aW.i az rfl a1 a6 λW a8 bj aB=>?_;have am:Ext J W:=a2.put a8 Ω;have ba:=aF m _ _ am Y;refine aR (λv ag=>W=ag/\ ∃b,v= .bool b/\(b=true->i<N/\(iq x).d % 9<7)) ?_ λbl aC=>?_
  .rintro _ ag ⟨rfl,b,rfl,bb⟩;rw[bt];refine⟨λbc=>?_,λ_=>aw _ ⟨m,Ω,aX,ba⟩⟩;obtain⟨bm,bd⟩:=bb bc;exact aG m ae cs x J W X Ω Y am Ω aB az al (a7 ax am) bd λaa be=>aw _ ⟨m+1,Ω,Ω,be⟩
  .rw[aQ,ak];refine⟨λbn=>?_,λ_=>aC _ _ ⟨rfl,false,rfl,λh=>by cases h⟩⟩;have bf:=al.1;rw[av aW.p 0 aB aZ,kc Φ,Int.tmod_eq_emod_of_nonneg bf.1,aQ];exact aC _ _ ⟨rfl,_,rfl,λh=>⟨Ω,of_decide_eq_true h⟩⟩
 .rintro J aV ⟨m,_,hm,Y⟩;rw[aQ,ak];exact⟨λh=>Ω,λ_=>aH m J hm Y⟩
theorem C8 {B0:Nat} {c0 aa U:x2} {V:y0} {f:b4} (Y:sT B aa V cs f) (ab:Ext aa U) (ac:ad U am aD cs) (ae:aa.heap.size<=am) (ak:B<=aa.heap.size) (W:B0<=B):
  ∃aj ag A R A9 aP t,V=Γ aj/\iQ (λr=>B0<=r) c0 U aj ag am A R A9 aP (cM f) (eb (cM f)) t [] cs 0/\ ∀r,hd A R A9 aP am r->B<=r:=by
 obtain⟨aj,ag,A,R,A9,aP,t,rfl,p,al,X,af,an,ao,ap,aq,ah,ai⟩:=Nd Y ab ac ae;have low:∀r,hd A R (λq r=>A9 q r/\r<U.heap.size) aP am r->B<=r:=λr J=>by
  rcases J with J|J|⟨q,J,_⟩|J|J
  .exact X r J
  .exact ai r J
  .exact af q r J
  .exact ah r J
  .omega
 refine⟨aj,ag,A,R,_,aP,t,rfl,⟨p.olds,λr J _=>X8 W (X r J),λr J=>X8 W (low r (J.elim (λh=>.inr (.inr (.inl h))) λh=>.inr (.inr (.inr (.inr h))))),λq r J=>J.2,λe he=>(by simp[eb] at he),NJ _,Ω,Ω,Ω,by show ((cM f).funs.map _).length<=_;rw[u5];omega,by simp[eb]⟩,low⟩
section
variable {P:ah} {c0 w w':x2} {aj ag am fG fH hA:Nat} {n:aY} {s s':aB} {h':List aC} {m c7:Nat}
theorem fd.mark {Z fe:ah} (k:fd P c0 w aj ag am fG fH hA n s s' [] h' m c7 Z fe) (hm:m<1000) (ak:∀r,c0.heap.size<=r->P r):ai x3 xI [Γ aj] w λv w'=>v=Δ 0/\ae (λr=>P r/\Z r) w w'/\ ∃t0 Y,t0.b3=s.cells/\(∀r,Y r->Z r\/w.heap.size<=r)/\fd P c0 w' aj ag am fG fH hA n s s' [t0] h' (m+1) c7 Y fe:=by
 obtain⟨W,d,A,R,A9,aP,t,cs,aG,R',bm,R9',bD,bo,o,o',rfl,rfl⟩:=k;obtain⟨au,av,aw,ax,ay⟩:=o.b;have al:t.marks.length=0:=o.p.hV.len;refine (Ni o.p.cJ Ω Ω).mono ?_;rintro _ aa _ ⟨rfl,ab,ac,U,an⟩;rw[al];have ao:=o.p.prog (B:=w.heap.size) ab U an o.p.hV.mark (λ_ h=>.inl h) (λ_ _ _ h=>h) o.p.box.lt;have ad:=sN U.1 ab;have X:=ad.mono (T:=λr=>P r/\hd A R A9 aP am r) λr _ J=>⟨o.wx W r ⟨.inl J.1,.inl J.2⟩,.inl J.1⟩;have z:=ad.size;have z0:=W.size;have ap:=o'.lt;have af:∀r,hd ac R (λq r=>A9 q r/\r<w.heap.size) aP am r->hd A R A9 aP am r\/w.heap.size<=r:=λr J=>by
  rcases J with J|J|⟨q,J,_⟩|J|J
  .exact (U.2.1 r J).imp .inl id
  .exact .inl (.inr (.inl J))
  .exact .inl (.inr (.inr (.inl ⟨q,J⟩)))
  .exact .inl (.inr (.inr (.inr (.inl J))))
  .exact .inl (.inr (.inr (.inr (.inr J))))
 exact⟨rfl,X,t,_,o.p.cJ.2.1,af,W.trans (X.mono λr _ h=>h.1),λr J V=>(af r J).elim (λh=>d r h V) λh=>(by have:=ap r V;omega),ac,R,_,aP,t.mark,cs,aG,R',bm,R9',bD,bo,⟨ao,λr J aq=>(U.2.1 r J).elim (λh=>o.nC r h aq) λh=>ak r Ω,λr J=>o.md r (J.imp (λ⟨q,h⟩=>⟨q,h.1⟩) id),λq r J=>(by have:=J.2;omega),o.kI,o.me,by show t.ever+1<=_;omega,by show t.cells.length<=_;omega,by show t.olds.length<=_;omega,Ω,Ω⟩,o'.side X λr J V=>d r J.2 V,rfl,rfl⟩
end
def o2 (w:x2) (am:Nat) (A9:Nat->ah) (aP:ah) (n:aY) (s:aB) (cs:List y0):Prop:=ad w am aD cs/\gq true A9 aP w cs n.k n.sizes s
theorem o2.ab {S:ah} {A9:Nat->ah} {aP:ah} {n:aY} {s:aB} (h:o2 w am A9 aP n s cs) (J:ae S w w') (U:∀r,r<w.heap.size->(∃q,A9 q r)\/aP r\/r=am->¬S r):o2 w' am A9 aP n s cs:=
 ⟨h.1.ab J (U am h.1.lt (.inr (.inr rfl))),h.2.ab J λr V aw=>U r V (aw.imp id .inl)⟩
theorem o2.look {A9:Nat->ah} {aP:ah} {n:aY} {s:aB} (h:o2 w am A9 aP n s cs):jR w am n.k n.sizes s:=gK.box h.2.CB (Ext.refl _) (by have:=h.1;exact this)
section
variable {P Z fe:ah} {c0 w w':x2} {aj ag am fG fH hA:Nat} {n:aY} {s s':aB} {h h':List aC} {m c7:Nat}
theorem fd.facts (k:fd P c0 w aj ag am fG fH hA n s s' h h' m c7 Z fe) (J:Laid w) (hm:m<100):ai x3 xH [Γ aj] w λv w'=>Ext w w'/\ ∃g,ao .i64 an w' g v (lv s)/\ ∀r,leads v r->w.heap.size<=r:=by
 obtain⟨U,d,A,R,A9,aP,t,cs,aG,R',bm,R9',bD,bo,o,o',e⟩:=k;obtain⟨V,W,X,Y,aa⟩:=o.b;exact CW o.p.cJ J o.kI Ω Ω
theorem fd.ok (k:fd P c0 w aj ag am fG fH hA n s s' h h' m c7 Z fe):dA n.k n.sizes s/\lx s/\s.funs.length<=256+m/\s.elims.length<=m/\nx s/\jR w am n.k n.sizes s:=by
 obtain⟨V,d,A,R,A9,aP,t,cs,aG,R',bm,R9',bD,bo,o,o',e⟩:=k;obtain⟨W,X,Y,J,U⟩:=o.b;exact⟨o.p.cJ.2.2.2.1,o.me,J,U,o.kI,o.p.look⟩
theorem NL {p bU bV bW:y0} {pl:Λ} {bY bZ b0:List nw} {Q:y0->x2->Prop} (b1:∀w',Ext w w'->Q (.bool true) w') (aB:aH .u8 w p pl) (b2:∀b∈pl,0<=b/\b<256) (cT:Seen dr w [bU] bY) (cU:∀x∈bY,(iq x).ok) (cV:Seen dr w [bV] bZ) (cW:∀x∈bZ,(iq x).ok) (cX:Seen dr w [bW] b0) (cY:∀x∈b0,(iq x).ok) (bk:e2 w) (av:Laid w):
  ai x3 xF [p,bU,bV,bW] w Q:=by
 refine az func4 ?_;refine (Nf bk).mono ?_;rintro _ V _ ⟨rfl,a2⟩;rw[bg,Y6,aT];refine (wm (aB.ext a2) b2 (bk.ext a2)).mono ?_;rintro _ aa _ ⟨b3,eK,cs,ok,rfl,⟨cZ,c1⟩,c2,_⟩;have c3:=a2.trans b3;rw[hj,hl,hn];refine bp aD.i λam eL eM c4 c5=>?_;refine bK (vs:=cs) aD.i cZ rfl c1 c5 λc6 bl eN c7=>?_;have bt:Ext aa c6:=c4.put bl Ω;have a6:=c3.trans bt;rcases c2 with⟨rfl,rfl⟩|⟨rfl,f,aw,c8⟩
 .rw[bg,W6,bX,cR et.u];exact b1 _ a6
 have eO:=a2.size;have eP:=b3.size;have c9:=bt.size;obtain⟨aj,ag,A,R,A9,aP,t,rfl,b4,eQ⟩:=C8 (B0:=w.heap.size) (c0:=w) c8 bt c7 Ω Ω Ω;rw[bg,Y6,aT];refine (wm (aB.ext a6) b2 (bk.ext a6)).mono ?_;rintro _ da _ ⟨b5,eR,bo,eS,rfl,⟨db,dc⟩,dd,de⟩;rw[hj,hl,hn];refine bp aD.i λaf eU eV df dg=>?_;refine bK (vs:=bo) aD.i db rfl dc dg λdh di eW dj=>?_;have bu:Ext da dh:=df.put di Ω;have dk:=de f aw (NI (by rw[o5];omega) aw);rcases dd with⟨h,_⟩|⟨_,dl,dm,dn⟩
 .rw[dk] at h;cases h
 obtain rfl:f=dl:=Z9 (aw.symm.trans dm);have z5:=b5.size;have eX:=bu.size;obtain⟨fG,fH,aG,R',bm,R9',bD,rfl,dp,dq⟩:=C8 (B0:=w.heap.size) (c0:=w) dn bu dj Ω Ω Ω;have a7:=b5.trans bu;have ds:=a6.trans a7;refine bp rn.i λcN eY _ dt _=>?_;refine bp rn.i λeZ du _ dv _=>?_;have bw:=dt.trans dv;have dw:fd (λr=>w.heap.size<=r) w du aj ag am fG fH af (cM f) (eb (cM f)) (eb (cM f)) [] [] 0 0 _ _:=⟨(ds.trans bw).ab _,λr h1 ap=>(by have:=b4.lt r h1;have:=dq r ap;omega),A,R,A9,aP,t,cs,aG,R',bm,R9',bD,bo,(b4.ext a7).ext bw,dp.ext bw,rfl,rfl⟩;have bx:∀ {X:x2},ae (λr=>w.heap.size<=r) w X->Ext w X:=λbA=>(Ext.refl w).then bA λr U h=>Ω
 refine wy (w0:=w) (N:=15) (I:=λm X=>∃s Z fe,fd (λr=>w.heap.size<=r) w X aj ag am fG fH af (cM f) s s [] [] m m Z fe) cT cU rfl ⟨_,_,_,dw⟩ (λm a b ax ⟨s,Z,fe,h⟩=>⟨s,Z,fe,h.ext ax⟩) (λm a ⟨s,Z,fe,h⟩=>bx h.1) ?_ ?_
 .rintro m aZ b6 x X b7 bB hm ⟨s,Z,fe,hk⟩ aN b8 aC aE aF aI aJ ay;have dx:=hk.lt;rw[br aW.p aW.i aE aC.range];refine ((hk.ext aN).act (λr h=>h) Ω (qA aI aF).2.2.2 aJ).mono ?_;rintro _ b9 _ ⟨_,ca,dy,cb,aO⟩;have dz:∀r,r=aZ->¬(w.heap.size<=r/\Z r):=λr he h=>by have:=dx r h.2;omega
  have dA:=aC.ab ca (dz aZ rfl);rw[br aW.p aW.i aE dA.range];have dC:=(qA (al.ab aI ca λr U h ap=>by
   have e0:r<w.heap.size:=h.elim False.elim id;have e1:=ap.1;omega) aF).2.2.2
  refine (aO.symm.act (λr h=>h) Ω dC aJ).mono ?_;rintro _ e3 _ ⟨_,_,e4,_,dD⟩;exact ay _ ⟨_,_,_,dD.symm⟩
 rintro aK e5 e6 ⟨s,Z,fe,a8⟩;have bC:=bx a8.1;refine (a8.facts (av.ext bC) Ω).mono ?_;rintro e7 e8 _ ⟨bE,e9,dE,_⟩;refine ((a8.symm.ext bE).facts (av.ext (bC.trans bE)) Ω).mono ?_;rintro fa fb _ ⟨cc,fc,dF,_⟩;refine (pu (dE.ls.ext cc) dF.ls).mono ?_;rintro _ ff _ ⟨rfl,dG⟩;have cd:=(bE.trans cc).trans dG;rw[decide_eq_true rfl,bg,Y6,aT];have ba:=a8.ext cd;have dH:=bC.trans cd;refine (ba.facts (av.ext dH) Ω).mono ?_;rintro ce fg _ ⟨cg,dI,ch,ci⟩;refine ((ba.ext cg).mark Ω (λr h=>h)).mono ?_;rintro _ aQ _ ⟨rfl,cj,t0,dy,dJ,cb,ck⟩;have bF:=bx ck.1;have cl:=ba.lt;have cm:=ba.symm.lt;have fh:=cg.size;have fi:=cj.size;obtain⟨fj,aS,A,R,A9,aP,t,cs,aG,R',bm,R9',bD,bo,o,o',rfl,rfl⟩:=ck;obtain⟨fk,fm,fo,fp,fq⟩:=o.b;have aU:=o.lt;have cn:=o'.lt;rw[br aD.p aD.i (bq.len o.p.doc).1 o.p.box.range];refine (Mq o.p.doc (λr U=>(o.p.read r U).2.1) o.p.cJ.2.2.2.1 Ω Ω).mono ?_;rintro _ aV _ ⟨cp,bb,cq,rfl,cr,bd⟩;obtain⟨dK,dL⟩:=bq.len cr;refine bp aD.i λgz fs ft dM dN=>?_;refine bK (vs:=cq) aD.i dK rfl dL dN λW dO fu dP=>?_;have bG:Ext aV W:=dM.put dO Ω;have aA:=cp.trans bG;have dQ:=bF.trans aA;have z22:=cp.size;have c9:=bG.size;have bH:∀r,cI W r->cI aQ r:=λr h=>jL (λq bI J _=>aA.bc r q bI J) h;have dR:∀r,(A r\/(∃q,A9 q r)\/aP r\/r=am)->hd A R A9 aP am r:=λr h=>h.elim .inl λh=>.inr (.inr h);have bJ:∀r,(aG r\/(∃q,bm q r)\/r=af)->hd aG R' bm R9' af r:=λr h=>h.elim .inl λh=>.inr (.inr (h.imp id .inr));obtain⟨Y,ct⟩:∃Y:ah,Y=λr=>W.heap.size<=r\/(A r/\cI W r)\/((∃q,bb q r/\r<aV.heap.size)\/r=gz)\/(aG r/\cI W r)\/((∃q,bm q r)\/r=af):=⟨_,rfl⟩;have aX:∀r,(W.heap.size<=r\/(A r/\cI W r)\/((∃q,bb q r/\r<aV.heap.size)\/r=gz)\/(aG r/\cI W r)\/((∃q,bm q r)\/r=af))->Y r:=λr h=>by rw[ct];exact h
 have bL:∀r,Y r->(W.heap.size<=r\/(A r/\cI aQ r)\/aQ.heap.size<=r\/(aG r/\cI aQ r)\/((∃q,bm q r)\/r=af)):=λr h=>by
  rw[ct] at h;rcases h with h|h|h|h|h
  .exact .inl h
  .exact .inr (.inl ⟨h.1,bH r h.2⟩)
  .refine .inr (.inr (.inl ?_));rcases h with⟨q,h,_⟩|h
   .exact bd q r h
   .omega
  .exact .inr (.inr (.inr (.inl ⟨h.1,bH r h.2⟩)))
  .exact .inr (.inr (.inr (.inr h)))
 have dS:∀r,r<w.heap.size->¬Y r:=λr U h=>by
  have z0:=bF.size;have cu:cI aQ r->cI w r:=λh=>jL (λq bI J _=>bF.bc r q bI J) h;rcases bL r h with h|h|h|h|h
  .omega
  .have:=o.nC r h.1 (cu h.2);omega
  .omega
  .have:=o'.nC r h.1 (cu h.2);omega
  .have:=o'.md r h;omega
 have bf:∀ {X:x2},ae Y W X->Ext w X:=λbA=>dQ.then bA dS;have cw:∀r,W.heap.size<=r->Y r:=λr h=>aX r (.inl h);have dT:fd Y W W aj ag gz fG fH af (cM f) s s [t0] [] (aK+1) aK (hd A R (λq r=>bb q r/\r<aV.heap.size) aP gz) (hd aG R' bm R9' af):=by
  refine⟨ae.refl _ _,λr h1 ap=>?_,A,R,λq r=>bb q r/\r<aV.heap.size,aP,t,cq,aG,R',bm,R9',bD,bo,
  ⟨⟨o.p.cJ.ext aA,o.p.hV,dP,(bq.old cr).ext bG,λq r U=>⟨λh=>?_,λh=>?_,by have:=U.2;omega⟩,λr U=>⟨λh=>(o.p.read r U).1 (bH r h),by have:=(o.p.read r U).2.1;omega,by have:=(o.p.read r U).2.1;omega⟩,λh=>?_,λh=>?_⟩,λr U bM=>aX r (.inr (.inl ⟨U,bM⟩)),λr U=>aX r (.inr (.inr (.inl U))),λq r U=>by have:=U.2;omega,o.kI,o.me,o.b⟩,
  ⟨o'.p.ext aA,λr U bM=>aX r (.inr (.inr (.inr (.inl ⟨U,bM⟩)))),λr U=>aX r (.inr (.inr (.inr (.inr U)))),λq r U=>by have:=o'.sY q r U;omega,o'.kI,o'.me,o'.b⟩,rfl,rfl⟩
  .rcases h1 with h|h|⟨q,h,_⟩|h|h
   .exact aS r (.inl h) ap
   .exact aS r (.inr (.inl h)) ap
   .have:=bd q r h;have:=cn r ap;omega
   .exact aS r (.inr (.inr (.inr (.inl h)))) ap
   .have:=cn r ap;omega
  .have:=bd q r U.1;have:=aU r (.inl h);omega
  .have:=bd q r U.1;have:=aU r (.inr (.inl h));omega
  .have:=aU gz (.inl h);omega
  .have:=aU gz (.inr (.inl h));omega
 have cz:o2 W am A9 aP (cM f) s cs:=⟨o.p.box.ext aA,o.p.doc.ext aA⟩;have cA:∀r,r<W.heap.size->(∃q,A9 q r)\/aP r\/r=am->¬Y r:=λr U hk aB=>by
  have aw:=dR r (.inr hk);have fv:=aU r aw;rcases bL r aB with h|h|h|h|h
  .omega
  .rcases hk with⟨q,hk⟩|hk|hk
   .exact (o.p.apart q r hk).1 h.1
   .exact (o.p.read r hk).1 h.2
   .exact o.p.out.1 (hk▸h.1)
  .omega
  .exact aS r aw (bJ r (.inl h.1))
  .exact aS r aw (bJ r (.inr h))
 have cB:ao .i64 an W dI ce (lv s):=(be ch cj λr U h=>by have:=ci r U;have:=cl r h.2;omega).ext aA;have cC:∀r,leads ce r->¬Y r:=λr U aB=>by
  have h1:=ci r U;have ap:=bz ch U;rcases bL r aB with h|h|h|h|h
  .omega
  .have:=(cb r (.inl h.1)).imp (cl r) id;omega
  .omega
  .have:=cm r (.inl h.1);omega
  .have:=cm r (bJ r (.inr h));omega
 refine wy (w0:=w) (N:=10) (I:=λm X=>∃aq ac ad,hb s aq/\fd Y W X aj ag gz fG fH af (cM f) aq s [t0] [] (aK+1+m) aK ac ad) cV cW rfl ⟨_,_,_,hb.refl _,dT⟩ (λm a b ax ⟨aq,ac,ad,h1,h⟩=>⟨aq,ac,ad,h1,h.ext ax⟩) (λm a ⟨aq,ac,ad,_,h⟩=>bf h.1) ?_ ?_
 .rintro m aZ b6 x X b7 bB hm ⟨aq,ac,ad,dU,hk⟩ aN b8 aC aE aF aI aJ ay;rw[br aW.p aW.i aE aC.range];refine ((hk.ext aN).act cw Ω (qA aI aF).2.2.2 aJ).mono ?_;rintro _ b9 _ ⟨_,_,dV,_,aO⟩;exact ay _ ⟨_,_,_,dU.trans Ns,aO⟩
 rintro dW fw fx ⟨aq,ac,ad,dX,dY⟩;refine wy (w0:=w) (N:=3) (I:=λm X=>∃aL ac ad,fd Y W X aj ag gz fG fH af (cM f) aq aL [t0] [] (aK+1+dW) (aK+m) ac ad) cX cY rfl ⟨_,_,_,dY⟩ (λm a b ax ⟨aL,ac,ad,h⟩=>⟨aL,ac,ad,h.ext ax⟩) (λm a ⟨aL,ac,ad,h⟩=>bf h.1) ?_ ?_
 .rintro m aZ b6 x X b7 bB hm ⟨aL,ac,ad,hk⟩ aN b8 aC aE aF aI aJ ay;rw[br aW.p aW.i aE aC.range];refine ((hk.ext aN).symm.act cw Ω (qA aI aF).2.2.2 aJ).mono ?_;rintro _ b9 _ ⟨_,_,dV,_,aO⟩;exact ay _ ⟨_,_,_,aO.symm⟩
 rintro fy dZ fz ⟨aL,ac,ad,au⟩;have cD:=bf au.1;have ea:=cz.ab au.1 cA;have ed:=be cB au.1 cC;obtain⟨cE,cF,fA,fB,fC,cG⟩:=au.ok;obtain⟨ee,ef,fD,fE,fF,eg⟩:=au.symm.ok;have cH:=o.p.cJ.2.2.2.1;refine aR (λv cK=>v= .bool false/\Ext dZ cK) ?_ λfI eh=>?_
 .rintro _ cK ⟨rfl,ei⟩;rw[aT];refine aR (λv w'=>v= .bool true/\Ext w w') (λ_ w' ⟨e,ax⟩=>e▸b1 _ ax) λbB ay=>?_;obtain⟨cL,_,_,_,_,_,u,_,_,_,_,_,_,_,bN,_,_⟩:=au.ext ei;refine (Np (m:=0) (tm:=t0) (sm:=s) bN.p.cJ bN.p.hV rfl dJ cH dX).mono ?_;rintro _ fJ _ ⟨rfl,ej,fK,ek,cO⟩;have em:=(sN ek.1 ej).mono (T:=Y) λr _ U=>bN.wx cL r ⟨.inl U.1,.inl U.2⟩;have bO:=cL.trans em;have bP:=bf bO;rw[bn,ak];refine⟨λ_=>?_,λh=>absurd rfl h⟩;refine (CW cO (av.ext bP) o.kI Ω Ω).mono ?_;rintro fL fM _ ⟨cP,fN,en,_⟩;refine (pu en.ls ((be cB bO cC).ls.ext cP)).mono ?_;rintro _ fO _ ⟨rfl,eo⟩;rw[decide_eq_true rfl,bX];have bh:=cP.trans eo;refine ((cz.ab bO cA).look.ext bh).load λep bQ=>?_;refine (NC (cO.ext bh) bQ (av.ext (bP.trans bh)) o.kI Ω Ω).mono ?_;rintro _ fP _ ⟨rfl,er⟩;exact ay _ _ ⟨rfl,(bP.trans bh).trans er⟩
 .intro fQ aY _ _;have cQ:=au.ext aY;refine (cG.ext aY).load λes bR=>?_;refine (eg.ext aY).load λfR eu=>?_;have cS:=av.ext (cD.trans aY);refine (cQ.facts cS Ω).mono ?_;rintro fS fU _ ⟨a1,fV,ev,_⟩;refine⟨.inl a1,?_⟩;refine ((cQ.symm.ext a1).facts (cS.ext a1) Ω).mono ?_;rintro fW fX _ ⟨bS,fY,ew,_⟩;refine⟨.inl (a1.trans bS),?_⟩;refine (pu (ev.ls.ext bS) ew.ls).mono ?_;rintro _ fZ _ ⟨rfl,ey⟩;have bi:=(a1.trans bS).trans ey;refine⟨.inl bi,?_⟩;obtain⟨ez,rfl,eA⟩:=bR;obtain⟨eB,rfl,eC⟩:=eu;refine (C6 ⟨ez,rfl,eA.ext bi⟩ ⟨eB,rfl,eC.ext bi⟩ cE ee cF ef ⟨Ω,Ω⟩).mono ?_;rintro _ ga _ ⟨rfl,a7⟩;rw[nA ec.u,beq_self_eq_true,Y6,aT];have aM:=aY.trans (bi.trans a7);refine (cG.ext aM).load λes bR=>?_;refine (ea.look.ext aM).load λep bQ=>?_;refine ((au.ext aM).facts (av.ext (cD.trans aM)) Ω).mono ?_;rintro gb gc _ ⟨bT,gd,eD,_⟩;refine⟨.inl bT,?_⟩;refine (pu eD.ls (ed.ls.ext (aM.trans bT))).mono ?_;rintro _ gf _ ⟨rfl,eE⟩;have bj:=bT.trans eE;refine⟨.inl bj,?_⟩;obtain⟨eF,rfl,eH⟩:=bR;obtain⟨eI,rfl,bl⟩:=bQ;refine (C6 ⟨eF,rfl,eH.ext bj⟩ ⟨eI,rfl,bl.ext bj⟩ cE cH cF o.me ⟨Ω,Ω⟩).mono ?_;rintro _ gg _ ⟨rfl,eJ⟩;rw[nA ec.u,beq_self_eq_true,Y6];exact eh _ _ ⟨rfl,aM.trans (bj.trans eJ)⟩
theorem NM {p J U V:y0} {pl:Λ} {W X Y:List nw} (aa:aH .u8 w p pl) (ab:∀b∈pl,0<=b/\b<256) (ac:Seen dr w [J] W) (ad:∀x∈W,(iq x).ok) (ae:Seen dr w [U] X) (af:∀x∈X,(iq x).ok) (ag:Seen dr w [V] Y) (ah:∀x∈Y,(iq x).ok) (aj:e2 w) (ak:Laid w):
  ai x3 xF [p,J,U,V] w λv w'=>v= .bool true/\Ext w w':=by
 exact NL (λw' al=>⟨rfl,al⟩) aa ab ac ad ae af ag ah aj ak
end
end Go.Proofs.YthjegppepbbojaaGreatDoor
