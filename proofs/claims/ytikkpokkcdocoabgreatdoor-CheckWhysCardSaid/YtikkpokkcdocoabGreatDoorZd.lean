/- own texts, made small by a tool (wip/ holds them as they were written): no statement of the seat. -/
import Derived.Test.YtikkpokkcdocoabGreatDoorZc
set_option linter.defProp false
set_option linter.unusedVariables false
set_option linter.unusedSimpArgs false
set_option linter.unnecessarySimpa false
open Array renaming getElem?_eq_some_iff→j9
open BitVec renaming ofInt→T5
open Bool renaming not_true→X2,not_false→V8,and_eq_true→V9,eq_iff_iff→U6,true_and→T9,or_eq_false_iff→R5
open Decidable renaming not_not→Y3
open Go renaming Value→x1,World→x3,TypeId→p8,IntKind→n9,Program→W9
open Go.Builtin renaming append_→Z5,len_→U1
open Go.Instr renaming loadAt→u5,fieldAt→u6,storeAt→l9,indexAt→c9,extract→Y4,buildSlice→Y5,sliceAt→U5,alloc→Q6
open Go.IntKind renaming i64→W5
open Go.Proofs.Tryz renaming prog→x7
open Int renaming toNat_natCast→u7
open List renaming getElem?_eq_some_iff→x4,mem_of_getElem?→x5,getElem?_eq_getElem→x6,getElem?_map→x8,getD_eq_getElem?_getD→u4,take_add_one→u9,length_append→r8,length_map→r9,mem_append→p9,replicate→o8,take_length→o9,mem_singleton→j5,length_take→j6,mem_map→c7,eq_nil_of_length_eq_zero→b6,getElem?_set_self→b8,length_cons→b9,length_set→Z0,take_of_length_le→Z2,range→Z4,getElem?_eq_none→Z7,map_append→Z9,getElem?_take_of_lt→Y2,append_nil→Y8,ext_getElem?→Y9,getElem?_append_left→X0,getElem?_append_right→X1,getElem?_set→X4,drop_eq_getElem_cons→X5,append_assoc→X6,mem_flatMap→X9,mem_iff_getElem?→W3,mem_range→W8,flatMap_cons→V0,mem_or_eq_of_mem_set→V4,length_eq_one_iff→V7,map_set→T0,mem_filter→T2,map_cons→T3,length_singleton→T7,length_range→S0,set_append_right→S2,getElem_mem→S3,mem_of_mem_take→S4,map_map→S6,length→R2,foldl_append→R3,length_filter_le→Q2
open Nat renaming le_refl→o4,le_trans→X3,zero_le→X8,mul_le_mul_right→V1,mul_one→U7,add_mul→U8,sub_self→U9,pow_le_pow_right→S7,add_assoc→Q1,eq_zero_or_pos→Q8
open Option renaming toList_some→j4,some→c8,isNone_some→Y0,map_some→Y1,map_eq_some_iff→X7,getD_some→V2,map→U4,isSome_some→S1,isSome_none→R7
open Option.some renaming inj→Z3,injEq→Y7
open Prod renaming mk→Q9
open Prod.mk renaming injEq→T6
set_option maxHeartbeats 16000000
open Option renaming some→σ,none→ν
variable{al all cs l sizes t tl:Λ}{J w:x3}{B N ag gT gs gz j:Nat}{c k n y:Int}{a e:p8}{aN sv szv v z:x1}{K:x1->Prop}{S:Nat->Prop}
namespace Go.Proofs.YtikkpokkcdocoabGreatDoor
open Go Go.Vc Go.RowKit Go.Proofs Go.Proofs.Tryz
set_option maxRecDepth 100000
def ki(s:aq)(sc al cs:Λ):aq:={s with funs:=s.funs++[⟨sc,al,1,cs⟩]}
def pB(s:aq)(t:aD)(cs:Λ):aD:=(oj t (1::cs)).set 1 ((s.funs.length+1:Nat):Int)
def PR{s:aq}{t:aD}{sc:Λ}(h:t.bY=s.cells):(pB s t cs).bY=(ki s sc al cs).cells:=by
 unfold pB ki;rw[aD.rF,EO,h,<-PI];rfl
def PS{bo:Nat}{bq aM br:x1}{A R:ak}{n:aH}{s:aq}{t:aD}{aQ:x1}{sc:Λ}{g bN:Nat}{Y:x1}(h:eP w ag gT bo bq aM br A R n s t)(ae:t.bY=s.cells)(ce:aK .i64 w aQ sc)(dn:∀r,leads aQ r->¬A r)(bs:di w g bN Y al k cs)(bO:¬A g/\¬A bN/\∀r,leads Y r->¬A r)(dp:sc.length<=1000)(aV:t.cells.length+cs.length+1<=100000000)(bf:t.olds.length+cs.length+1<=100000000)(hm:t.marks.length<=100000000)(af:s.funs.length<=1000000):
  an x7 I3 [Γ ag,aQ,Γ g] w λv J=>v=Δ (s.funs.length:Int)/\ai (eA w) w J/\∃aU R' bt,Grow A w aU J/\eP J ag gT bo bq bt br aU R' n (ki s sc al cs) (pB s t cs)/\(∀r,R r->R' r)/\∀r,R' r->R r\/leads Y r\/w.heap.size<=r:=by
 have dq:t.cells.length=s.cells.length:=by rw[<-ae];simp[aD.bY]
 have dr:=sy s;have cf:eZ (ki s sc al cs) s.funs.length=t.cells.length:=by
  unfold eZ ki;simp only[List.take_left];omega
 have cg:∀j,j<s.funs.length->eZ (ki s sc al cs) j=eZ s j:=λj bu=>by
  unfold eZ ki;simp only[List.take_append_of_le_length (show j<=s.funs.length by omega)]
 have ch:jN (ki s sc al cs)=jN s:=rfl;refine aA func129 ?_;refine da (λaa=>ai (eA w) w aa/\∃aU R' bt,Grow A w aU aa/\eP aa ag gT bo bq bt br aU R' n (ki s sc al cs) (oj t (1::cs))/\(∀r,R r->R' r)/\∀r,R' r->R r\/leads Y r\/w.heap.size<=r) ?_ ?_
 .rintro aa ⟨ci,ds,cj,ck,cl,cm,cn,cp⟩;intro ab bx _ _;have bQ:=cm.ext bx;obtain⟨_,ba,bz,ge,L,E,_,w0,am,_,_,_,⟨a2,bg⟩,_⟩:=id bQ;have bh:L.length=s.funs.length+1:=by rw[bg.1];simp[ki]
  rw[aT cN.p 1 am F,aT cN.p 3 am F,et fJ.u a2];obtain⟨bS,cq,cr⟩:=bQ.yr;have ct:=yo t (1::cs) (1::cs).length;have cu:=yp t (1::cs) (1::cs).length;have cw:=sE t (1::cs) (1::cs).length;simp only[b9]at ct cu;refine(vi cq F (by show 1<(fU _ _ _).cells.length;simp only[b9];omega) ⟨by show(fU _ _ _).cells.length<=_;simp only[b9];omega,by show(fU _ _ _).olds.length<=_;simp only[b9];omega,by show(fU _ _ _).marks.length<=_;rw[cw];exact hm⟩).mono ?_;rintro _ cz _ ⟨rfl,cA,cB,cC⟩;obtain⟨cE,cF,cG,bT⟩:=cr cA cz _ cB cC;obtain⟨_,ba,bz,ge,cH,E,_,w0,am,_,_,_,⟨a2,cI⟩,_⟩:=id bT;have dt:cH.length=s.funs.length+1:=by rw[cI.1];simp[ki]
  rw[aT cN.p 3 am F,et fJ.u a2,dI,wrap_i64 Ω Ω];refine⟨by congr 1;omega,yq ci (lk bx cE),cF,cj,ck,cl.trans ((Grow.ext bx).trans cG),?_,cn,cp⟩;have e:pB s t cs=(oj t (1::cs)).set 1 (L.length:Int):=by unfold pB;rw[bh]
  rw[e];exact bT
 intro aB cK;intro aN aO _ _;have bU:=h.ext aO;obtain⟨_,ba,bz,ge,L,E,_,w0,am,_⟩:=id bU;rw[aT cN.p 3 am F];have z4:=aO.size;have bi:∀{C:x3}{Z P:x1}{a6 S:Nat},Ext aN C->w.heap.size<=a6->w.heap.size<=S->ay .i64 aj C a6 Z sc->ay .i64 av C S P (1::cs)->(∀r,leads Z r\/leads P r->¬A r)->
   an x7 A7 [Γ ag,P] C λcL aC=>
    (Ext aN aC\/cD x7 (u5 fJ (.pointer (σ ⟨ag,0+3,ν⟩))) aM aC/\cD x7 (u6 cN (Γ ag) 3) (.pointer (σ ⟨ag,0+3,ν⟩)) aC/\cD x7 (bP (Γ ag)) (Γ ag) aC/\True)/\
    ad x7 (Instr.build fk #[(0,Z),(1,.agg #[Y]),(2,cL)]) aC λt22=>
    aF x7 (Y5 fJ 1 #[(0,t22)]) aC λcM ao=>
     (Ext aN ao\/cD x7 (u5 fJ (.pointer (σ ⟨ag,0+3,ν⟩))) aM ao/\cD x7 (u6 cN (Γ ag) 3) (.pointer (σ ⟨ag,0+3,ν⟩)) ao/\cD x7 (bP (Γ ag)) (Γ ag) ao/\True)/\
    aF x7 (Z5 #[fJ,fJ] fJ #[aM,cM]) ao λcO bj=>
     ad x7 (bP (Γ ag)) bj λt25=>
     ad x7 (u6 cN t25 3) bj λcP=>
     aF x7 (l9 fJ cP cO) bj λ(_:Unit)aX=>
      aB aX:=by
  intro C Z P a6 S B bV Q G I bA;have cQ:=bU.ext B;refine(EQ cQ I.ls (λr y=>bA r (.inr y)) (by simp only[b9];omega) (by simp only[b9];omega) hm).mono ?_;rintro _ aC _ ⟨rfl,cR,a7,aY,cT⟩;obtain⟨⟨bW,bX,cU,b0⟩,ba,bz,ge,L,E,bS,w0,am,⟨cV,cW,b1⟩,⟨cX,b2,b3,aI⟩,bB,⟨a2,bg⟩,bC,cY⟩:=id cT;have aE:=bw G aY.1 λr y=>bA r (.inl y);have bk:=((Classical.choose_spec (show∃gs,ay .i64 aj w gs Y al from by obtain⟨⟨_,gs,_,q,_⟩,_⟩:=bs;exact⟨gs,q⟩)).ext aO).ext B;have cZ:=bw bk aY.1 bO.2.2;refine⟨.inr (vl am (λK=>by rw[aW cN.p F]) Ψ F),?_⟩;rw[cJ (cs:=#[Z,Y,Δ (t.cells.length:Int)]) (by obtain⟨_,_,_,rfl⟩:=c6 G.ls;obtain⟨_,_,_,rfl⟩:=c6 bk.ls;kernel_rfl)];let a:qN:=⟨Z,Y,t.cells.length⟩;have c0:∀u∈qO a,u.oneCell'=true:=by
   intro u hu;simp[qO]at hu;rcases hu with rfl|rfl|rfl
   .exact G.ls.cells.2
   .exact bk.ls.cells.2
   .rfl
  refine im (f:=qO) (a:=a) fJ.u fk.i Ω F rfl λdu dv ao dw H c1=>?_;refine⟨.inr (vl (am.ext H) (λK=>by rw[aW cN.p F]) Ψ F),?_⟩;have a8:=a2.ext H;have bh:=bg.1;refine jo fJ.u fk.i F a8 (by simpa using c1.sl) c0 Ω Ω λc2 c3 bj bb c4 b4=>?_;have bc:=am.ext H;have b5:=bc.ac b4 λhe=>cS a8 bc Φ he;rw[bZ,aW cN.p F];refine bp fJ.i (eO bb.sl).1 (eO bb.sl).2 b5 Ξ λaX bD dx bE=>?_;have bE:=bE;have ap:ai (λr=>leadsTo aM r\/r=ag) ao aX:=(b4.mono λr _ h=>.inl h).trans (bD.mono λr _ h=>.inr h);have z9:=B.size;have dy:=aY.1.size;have dz:=H.size;have dA:=ap.size;have bF:∀r,(leadsTo aM r\/r=ag)->a7 r:=λr y=>y.elim (λy=>(aI r (.inr (.inl y))).1) λy=>y▸bW;have bG:∀r,(leadsTo aM r\/r=ag)->¬R r:=λr y=>bX r (bF r y);have c5:ai (eA w) w aX:=yq (lk (aO.trans B) cR) (lk H (ap.mono λr _ y=>by
   rcases y with y|rfl
   .obtain⟨_,c,aV⟩:=dM a8 y;exact .inl ⟨_,c,‹r=_› ▸aV,Φ⟩
   .exact .inl ⟨_,_,bc,Φ⟩))
  let c7:ak:=λr=>a7 r\/(ao.heap.size<=r/\r<aX.heap.size);let bH:ak:=λr=>R r\/(leads Y r/\r<aC.heap.size)\/(leads Z r/\r<aC.heap.size);have dC:∀r,r<w.heap.size->a7 r->A r:=λr y h=>(aY.2.1 r h).elim id λh=>Ω
  have bI:∀r,leads Z r->w.heap.size<=r/\r<C.heap.size:=λr y=>by obtain⟨h1,aZ⟩:=bR G y;omega
  have b6:∀r,leads Y r->r<C.heap.size:=λr y=>by obtain⟨h1,aZ⟩:=bR bk y;omega
  have bl:∀r,leads Z r\/leads Y r->¬a7 r:=λr y c8=>by
   rcases aY.2.1 r c8 with h|h
   .rcases y with y|y
    .exact bA r (.inl y) h
    .exact bO.2.2 r y h
   .rcases y with y|y
    .have:=bI r y;omega
    .have:=b6 r y;omega
  refine cK _ ⟨c5,c7,bH,c2,(Grow.ext (aO.trans B)).trans (aY.trans ((Grow.ext H).trans ⟨ap.mono λr _ y=>bF r y,λr y=>y.imp id And.left,λr y=>.inl y⟩)),?_,λr y=>.inl y,λr y=>?_⟩
  rotate_left
  .rcases y with y|y|y
   .exact .inl y
   .exact .inr (.inl y.1)
   .exact .inr (.inr (bI r y.1).1)
  have b7:∀{v:x1}{bd:Nat}{l:Λ},ay .i64 aj ao bd v l->(∀r,leads v r->¬a7 r)->ay .i64 aj aX bd v l:=λhm c9=>bw hm ap λr y V=>c9 r y (bF r V);have b8:∀r,bH r->r<ao.heap.size:=λr y=>by
   rcases y with y|y|y
   .have:=cU r y;omega
   .omega
   .omega
  refine⟨⟨.inl bW,λr y aJ=>?_,λr y=>by have:=b8 r y;omega,λr y=>y.elim (λy=>by have:=b0 r y;omega) And.right⟩,ba,c3,ge,L++[a],E,bS,w0,bE,⟨cV,vj (cW.trans H) ap λr o y bf V=>bG r V (b1 r o y bf),λr o y bf=>.inl (b1 r o y bf)⟩,⟨(cX.ext H).ac ap λr y V=>?_,λr y=>.inl (b2 r y),b3,λr y=>?_⟩,?_,⟨bb.ac bD λr y he=>?_,?_⟩,(bC.ext H).ac ap λr y V=>?_,?_⟩
  .have:=b8 r aJ;rcases y with y|y
   .rcases aJ with aJ|aJ|aJ
    .exact bX r y aJ
    .exact bl r (.inr aJ.1) y
    .exact bl r (.inl aJ.1) y
   .omega
  .rcases V with V|rfl
   .exact (aI r (.inr (.inl V))).2 y
   .exact b3 y
  .rcases y with y|y|y
   .exact⟨.inl (aI r (.inl y)).1,(aI r (.inl y)).2⟩
   .obtain⟨h1,aZ⟩:=bb.leads y;rcases c4 r y with h|h
    .exact⟨.inl (aI r (.inr (.inl h))).1,(aI r (.inr (.inl h))).2⟩
    .refine⟨.inr ⟨h,by have:=bD.size;omega⟩,λdb=>?_⟩;have:=b0 r (b2 r db);omega
   .exact⟨.inl (aI r (.inr (.inr y))).1,(aI r (.inr (.inr y))).2⟩
  .rw[ch];exact bw (bB.ext H) ap λr y V=>by
    rcases V with V|rfl
    .obtain⟨rfl,c,aV⟩:=dM a8 V;exact cc (bB.ext H) aV Φ y F
    .exact cc (bB.ext H) bc Φ y F
  .have he:r=ag:=he;subst he;exact cS bb b5 Φ y
  .refine⟨by rw[r8,bh];simp[ki],λj x f U aP=>?_⟩;have aP:(s.funs++[⟨sc,al,1,cs⟩])[j]?=σ f:=aP;by_cases bu:j<s.funs.length
   .rw[X0 Ω]at U;rw[X0 bu]at aP;obtain⟨dc,dd,de⟩:=((((mF.ac bg (H.ac λ_=>False) λ_ _ _ h=>h).ac ap λr _ y V=>bG r V y).mono (R':=bH) λr y=>.inl y)).2 j x f U aP;exact⟨dc,dd,by rw[cg j bu];exact de⟩
   .have bJ:j=s.funs.length:=by have:=(x4.1 aP).1;simp at this;omega
    rw[X1 Ω,bh,bJ,U9]at U;rw[X1 Ω,bJ,U9]at aP;cases U;cases aP;refine⟨⟨⟨_,b7 (aE.ext H) λr y=>bl r (.inl y)⟩,λr y=>.inr (.inr ⟨y,?_⟩)⟩,⟨⟨_,b7 (cZ.ext H) λr y=>bl r (.inr y)⟩,λr y=>.inr (.inl ⟨y,?_⟩)⟩,?_⟩
    .have:=bI r y;omega
    .have:=b6 r y;omega
    .rw[bJ,cf]
  .rcases V with V|rfl
   .obtain⟨rfl,c,aV⟩:=dM a8 V;exact cS (bC.ext H) aV Φ y
   .exact cS (bC.ext H) bc Φ y
  .exact ((ny.ac cY (H.ac λ_=>False) λ_ _ _ h=>h).ac ap λr _ y V=>bG r V y).mono λr y=>.inl y
 have a1:=bs.ext aO;have ca:=ce.ext aO;have df:∀r,A r->r<w.heap.size:=h.1.2.2.2;obtain⟨_,⟨_,_,dD⟩,dE,dF⟩:=id bs;have dG:cs.length<=4096:=Ω
 have bm:∀{au:x3}{aR aS:x1}{W:Nat}{K:x1->x3->Prop},Ext aN au->aN.heap.size<=W->ay .i64 av au W aR [1]->aK .i64 au aS cs->
   (∀P S C,Ext aN C->ai (λr=>r=W) au C->w.heap.size<=S->ay .i64 av C S P (1::cs)->(Ext aN C->K P C))->aF x7 (Z5 #[az,az] az #[aR,aS]) au K:=by
  intro au aR aS W K z bn aw aG dg;refine kA az.u av.i F aw aG Θ Θ λP S C Q I ax=>?_;have B:=z.put ax Ω;have dh:=z.size;exact dg P S C B ax Ω I B
 have aL:∀{v:x1}{bd:Nat}{dj:n9}{e:p8}{dk:x3}{l:Λ},ay dj e dk bd v l->w.heap.size<=bd->∀r,leads v r->¬A r:=λhm dH r y dl=>by
  obtain⟨h1,_⟩:=bR hm y;have:=df r dl;omega
 refine⟨?_,?_⟩
 .refine (lP ca Ω).mono ?_;rintro Z dm _ ⟨M,a6,bV,G⟩;have z5:=M.size;refine⟨.inl M,?_,?_⟩
  .refine (qx (a1.ext M)).mono ?_;rintro _ cb _ ⟨rfl,N⟩;have X:=M.trans N;have dJ:=X.size;have dK:=N.size;have cd:=(a1.ext M).ext N;refine⟨.inl X,?_,?_⟩
   .refine eE az.u av.i F λaR W au bn z aw=>?_;refine⟨.inl (X.trans z),?_⟩;refine(od (cd.ext z)).mono ?_;rintro aS bK _ ⟨O,bL,bM,aG⟩;have ah:=(X.trans z).trans O;refine⟨.inl ah,?_⟩;refine bm ah Ω (aw.ext O) aG.ls λP S C B ax Q I _=>⟨.inl B,?_⟩;have aE:=bw (((G.ext N).ext z).ext O) ax λr y he=>by have he:r=W:=he;obtain⟨h1,aZ⟩:=bR G y;omega
    exact bi B Ω Q aE I λr y=>y.elim (aL G Ω r) (aL I Q r)
   .refine (od cd).mono ?_;rintro aS au _ ⟨z,bL,bM,aG⟩;refine⟨.inl (X.trans z),?_⟩;have dh:=z.size;refine eE az.u av.i F λaR W bK bn O aw=>?_;have ah:=(X.trans z).trans O;refine⟨.inl ah,?_⟩;refine bm ah Ω aw (aG.ls.ext O) λP S C B ax Q I _=>⟨.inl B,?_⟩;have aE:=bw (((G.ext N).ext z).ext O) ax λr y he=>by have he:r=W:=he;obtain⟨h1,aZ⟩:=bR G y;omega
    exact bi B Ω Q aE I λr y=>y.elim (aL G Ω r) (aL I Q r)
  .refine eE az.u av.i F λaR W cb bn N aw=>?_;have X:=M.trans N;refine⟨.inl X,?_⟩;refine(qx ((a1.ext M).ext N)).mono ?_;rintro _ au _ ⟨rfl,z⟩;have be:=X.trans z;refine⟨.inl be,?_⟩;refine(od (((a1.ext M).ext N).ext z)).mono ?_;rintro aS bK _ ⟨O,bL,bM,aG⟩;have ah:=be.trans O;refine⟨.inl ah,?_⟩;refine bm ah Ω ((aw.ext z).ext O) aG.ls λP S C B ax Q I _=>⟨.inl B,?_⟩;have aE:=bw (((G.ext N).ext z).ext O) ax λr y he=>by have he:r=W:=he;obtain⟨h1,aZ⟩:=bR G y;omega
   exact bi B Ω Q aE I λr y=>y.elim (aL G Ω r) (aL I Q r)
 .refine eE az.u av.i F λaR W dm bn M aw=>?_;refine⟨.inl M,?_⟩;have z5:=M.size;have dL:=uV aw Ξ;refine(lP (ca.ext M) Ω).mono ?_;rintro Z cb _ ⟨N,a6,bV,G⟩;have X:=M.trans N;refine⟨.inl X,?_⟩;refine(qx ((a1.ext M).ext N)).mono ?_;rintro _ au _ ⟨rfl,z⟩;have be:=X.trans z;refine⟨.inl be,?_⟩;refine(od (((a1.ext M).ext N).ext z)).mono ?_;rintro aS bK _ ⟨O,bL,bM,aG⟩;have ah:=be.trans O;refine⟨.inl ah,?_⟩;refine bm ah Ω (((aw.ext N).ext z).ext O) aG.ls λP S C B ax Q I _=>⟨.inl B,?_⟩;have aE:=bw ((G.ext z).ext O) ax λr y he=>by have he:r=W:=he;obtain⟨h1,aZ⟩:=bR G y;omega
  exact bi B Ω Q aE I λr y=>y.elim (aL G Ω r) (aL I Q r)
def iU{P:W9}{t F:p8}{k:n9}{b g:Nat}{x:x1}{m:Λ}{K:x1->x3->Prop}(y:P.underlying t=σ (.slice e))(hi:aS P e 1 b z)(A:z.cells.size=1)(h:ay k e w g v l)(U:aK k w x m)(B:(l.length+m.length)*b<=140737488355328)(C:l.length+m.length<=9223372036854775807)(E:∀a f J,ay k e J f a (l++m)->(∀r,leads a r->leads v r\/w.heap.size<=r)->ai (λr=>leads v r) w J->K a J):aF P (Z5 #[t,t] F #[v,x]) w K:=by
 rcases h.2 with⟨ae,G⟩|⟨cap,cs,ae,L,M⟩
 .have H:=b6 G;subst H;have a7:ay k e w w.heap.size v []:=by rw[ae];exact ay.nil _ _ _ _
  refine kA y hi A a7 U B C λa f J q hm s=>E a f J hm (λr p=>.inr ?_) (s.mono λr p he=>by have he:r=w.heap.size:=he;omega);obtain⟨I,_⟩:=bR hm p;omega
 .refine kA y hi A h U B C λa f J q hm s=>E a f J hm (λr p=>?_) (s.mono λr p he=>⟨_,_,_,ae,he.symm⟩);obtain⟨I,_⟩:=bR hm p;rcases q with q|q
  .exact .inl ⟨_,_,_,ae,by show g=r;omega⟩
  .exact .inr Ω
def addVar(s:aq)(u:Λ):aq:={s with vars:=s.vars++[newVar u]}
def PT(s:aq)(u:Λ):jN (addVar s u)=jN s++[((3+(s.vars.flatMap iT).length:Nat):Int)]:=by
 unfold jN addVar;rw[r8,T7,List.range_succ,Z9];congr 1
 .apply List.map_congr_left;intro i hi;have:=W8.1 hi;unfold gX;simp only[List.take_append_of_le_length (show i<=s.vars.length by omega)]
 .simp[gX]
def PU{s:aq}{u:Λ}(af:s.funs=[]):(addVar s u).cells=s.cells++(0::0::u):=by
 unfold aq.cells addVar kg;simp only[af,List.flatMap_nil,Y8,List.flatMap_append,List.flatMap_singleton,X6];rfl
def e0(n:aH)(i j:Nat):aq:=⟨n.zero,(n.unary.take i).map newVar,(n.funs.take j).map (l0 n.sizes),[]⟩
def ER{n:aH}{i:Nat}{u:Λ}(h:n.unary[i]?=σ u):e0 n (i+1) 0=addVar (e0 n i 0) u:=by
 unfold e0 addVar;simp only[u9,h,j4,Z9,List.map_singleton]
def PV{n:aH}{i:Nat}{g:cK}(h:n.funs[j]?=σ g):e0 n i (j+1)=ki (e0 n i j) g.1 (b2 n.sizes g.1) g.2:=by
 unfold e0 ki;simp only[u9,h,j4,Z9,List.map_singleton];rfl
def yt(n:aH):e0 n n.unary.length n.funs.length=df n:=by
 unfold e0 df;rw[o9,o9]
theorem yu{α β:Type}{f:α->List β}{b:Nat}:∀{L:List α},(∀x∈L,(f x).length<=b)->(L.flatMap f).length<=L.length*b
 |[],_=>Ξ
 |x::L,h=>by
  rw[V0,r8,b9,U8];have:=yu λy a=>h y (.tail _ a);have:=h x (.head _);omega
def vm{n:aH}(a:lj n)(af:n.funs.length<=256)(i j:Nat):(e0 n i j).cells.length<=2000000:=by
 rw[sy];have:=yu (f:=iT) (b:=34) (L:=(e0 n i j).vars) λx U=>by
  obtain⟨u,hu,rfl⟩:=c7.1 (show x∈(n.unary.take i).map newVar from U);obtain⟨p,h⟩:=W3.1 (S4 hu);have:=a.lZ;have:=(x4.1 h).1;obtain⟨z,q⟩:=aI (l:=n.sizes) (i:=p) Ω;have s:=(a.unary p z u q h).1;have e:=a.sizes.2.2 z (x5 q);show u.length+2<=34;omega
 have s:=yu (f:=fv) (b:=4097) (L:=(e0 n i j).funs) λx U=>by
  obtain⟨g,w,rfl⟩:=c7.1 (show x∈(n.funs.take j).map (l0 n.sizes)from U);have e:=(a.funs g (S4 w)).1;have r:=e.len;have y:=e.small;show g.2.length+1<=4097;omega
 have e:(e0 n i j).vars.length<=64:=by
  show((n.unary.take i).map newVar).length<=64;rw[r9,j6];have:=a.lZ;have:=a.sizes.2.1;omega
 have r:(e0 n i j).funs.length<=256:=by
  show((n.funs.take j).map (l0 n.sizes)).length<=256;rw[r9,j6];omega
 have y:=V1 34 e;have:=V1 4097 r;omega
def Plain(t:aD):Prop:=t.marks=[]/\t.olds=[]/\iJ t []/\t.kF=0
def Plain.set{t:aD}(h:Plain t)(i:Nat)(x:Int):Plain (t.set i x):=⟨(aD.ym _ _ _).trans h.1,(aD.yn h.1 _ _).trans h.2.1,h.2.2.1.set,(aD.EI _ _ _).trans h.2.2.2⟩
def Plain.lay{t:aD}(h:Plain t)(l:Λ):Plain (oj t l):=⟨(sE _ _ _).trans h.1,(EM h.1 _ _).trans h.2.1,h.2.2.1.fU l _,(EL _ _ _).trans h.2.2.2⟩
def Plain.put{s:aq}{t:aD}(h:Plain t)(cs:Λ):Plain (pB s t cs):=(h.lay _).set _ _
def PW(w:x3)(R0:ak)(n:aH)(v:x1)(J:x3):Prop:=Ext w J/\∃ag gT A R t,v=Γ ag/\StateM J ag gT A R n (df n) t/\t.bY=(df n).cells/\Plain t/\(∀r,A r->w.heap.size<=r)/\∀r,R r->R0 r\/w.heap.size<=r
def PX{w0:x3}{R0:ak}{C:Nat}{n:aH}(aJ:gn w0 C n)(am:Ext w0 w)(bb:∀r o,w0.heap[r]?=σ o->fF o=true->R0 r)(aK:∀r,R0 r->r<w.heap.size)(y:lj n)(af:n.funs.length<=256):an x7 AY [Γ C] w (PW w R0 n):=by
 have h:=aJ.ext am;have bN:=y.lZ;have:=y.sizes.2.1;refine aA func58 ?_;rw[dh nU.u];simp only[Y0,a8];refine(PE (n:=3) Ω).mono ?_;rintro _ aa _ ⟨ap,gT,rfl,bO⟩;rw[cJ (cs:=#[Γ C,Γ gT,.slice ν 0 0,.slice ν 0 0,.slice ν 0 0]) Ψ];refine bh λag ab cV N O=>?_;have O:=O;have:=ap.size;have:=N.size;have:=O.lt;have bP:eP ab ag gT C (.slice ν 0 0) (.slice ν 0 0) (.slice ν 0 0) (λr=>r=ag\/(w.heap.size<=r/\r<aa.heap.size)) R0 n ⟨0,[],[],[]⟩ ⟨o8 3 ⟨0,0⟩,[],[],0⟩:=by
  refine⟨⟨.inl F,λr q I=>?_,λr q=>?_,λr q=>?_⟩,0,0,0,[],[],λr=>w.heap.size<=r/\r<aa.heap.size,w0,O,⟨aJ,am.trans (ap.trans N),bb⟩,⟨(bO.cut).ext N,λr q=>.inr q,λq=>?_,λr q=>?_⟩,ay.nil _ _ _ _,⟨bm.nil _ _ _ _ _,F,λj x f U=>by simp at U⟩,bm.nil _ _ _ _ _,F,λj x f U=>by simp at U⟩
  .have I:=aK r I;rcases q with q|q<;>omega
  .have q:=aK r q;omega
  .rcases q with q|q<;>omega
  .omega
  .rcases q with q|q|q
   .obtain⟨a,cZ,c,aL,c0⟩:=q;cases aL
   .exact (eW q).elim
   .exact (eW q).elim
 intro c1 P _ _;have bQ:=bP.ext P;rw[aT cN.p 1 (O.ext P) F];refine(PL (h.ext ((ap.trans N).trans P))).mono ?_;rintro _ c2 _ ⟨rfl,aq⟩;refine⟨.inl aq,?_⟩;have bS:=bQ.ext aq;obtain⟨aN,bT,bU⟩:=bS.sD;refine(vi bT F Φ ⟨Ξ,Ξ,Ξ⟩).mono ?_;rintro _ bV _ ⟨_,bW,bX,b0⟩;obtain⟨b1,bc,aO⟩:=bU bW bV _ bX b0;have aO:=aO.same (EG ⟨0,[],[],[]⟩ n.zero);have:=P.size;have:=aq.size;have b2:=((ap.trans N).trans P).trans aq;have bd:=b2.then bc.1 λr q he=>by rcases he with he|he<;>omega
 refine(yl (h.ext bd)).mono ?_;rintro _ c3 _ ⟨rfl,be⟩;refine cq.range n.sizes.length (λi au=>∃A G t,Ext w au/\eP au ag gT C G (.slice ν 0 0) (.slice ν 0 0) A R0 n (e0 n i 0) t/\t.bY=(e0 n i 0).cells/\Plain t/\∀r,A r->w.heap.size<=r) Ω
  ⟨b1,_,_,bd.trans be,aO.ext be,?_,?_,λr q=>?_⟩ ?_ ?_
 .rw[aD.rF];rfl
 .exact Plain.set ⟨F,F,⟨F,F,λc z=>by rw[(List.mem_replicate.1 z).2];exact o4 _,X8 _⟩,F⟩ _ _
 .rcases bc.2.1 r q with he|he
  .rcases he with he|he<;>omega
  .omega
 .rintro i au b3 hi ⟨A,G,t,J,aP,Q,S,aw⟩ b4;obtain⟨u,hu⟩:=aI (l:=n.unary) (i:=i) Ω;obtain⟨bf,bg⟩:=aI (l:=n.sizes) (i:=i) Ω;have c4:u.length<=32:=by
   have:=(y.unary i bf u bg hu).1;have:=y.sizes.2.2 bf (x5 bg);omega
  refine bB Ω ?_;refine(ED (h.ext J) y).mono ?_;rintro c7 c8 _ ⟨b5,_,b6⟩;obtain⟨c9,da,b7⟩:=b6 u Ω (by rw[u7];exact hu);intro bi bj _ _;have aR:=b5.trans bj;have bk:=aP.ext aR;obtain⟨⟨_,_,_,W⟩,ba,bl,ge,L,E,aN,w0,ax,_⟩:=id bk;have:=aR.size;have:=J.size;rw[aT cN.p 2 ax F];refine pg (l:=[0,0]) az.u av.i Ω F Ψ λb8 dd de dg aB bn=>?_;refine⟨.inl aB,?_⟩;refine iU az.u av.i F bn ((b7.ext bj).ls.ext aB) Θ Θ λb9 di dj cb cd ce=>?_;have bo:∀r,leads b8 r->bi.heap.size<=r:=λr q=>by obtain⟨aL,_⟩:=bR bn q;omega
  have aC:=aB.then ce λr q he=>by have:=bo r he;omega
  refine⟨.inl aC,?_⟩;have cf:=bk.ext aC;have cg:∀r,leads b9 r->bi.heap.size<=r:=λr q=>by
   rcases cd r q with h|h
   .exact bo r h
   .have:=aB.size;omega
  have ch:t.cells.length<=2000000:=by
   have h1:=vm y af i 0;rw[<-Q]at h1;unfold aD.bY at h1;rwa [r9]at h1
  have ci:t.olds.length=0:=by rw[S.2.1];rfl
  have cj:t.marks.length=0:=by rw[S.1];rfl
  refine(EQ cf cb.ls (λr q s=>by have:=W r s;have:=cg r q;omega) Θ Θ Ω).mono ?_;rintro _ dk _ ⟨rfl,_,aS,aV,ck⟩;obtain⟨⟨bq,br,cl,bs⟩,ba,bl,ge,L,E,aN,w0,ax,⟨cm,cn,bt⟩,⟨cp,bu,bx,aE⟩,cr,⟨ct,cu⟩,cw,cz⟩:=id ck;refine⟨.inr (vl ax (λK=>by rw[aW cN.p F]) Ψ F),?_⟩;refine eE ao.u aj.i F λdl dm bz dn B cA=>?_;have aX:=ax.ext B;refine⟨.inr (vl aX (λK=>by rw[aW cN.p F]) Ψ F),?_⟩;have bA:(jN (e0 n i 0)).length=i:=by
   unfold jN e0;simp only[r9,S0,j6];omega
  have bC:=cr.ext B;refine iU ao.u aj.i F bC cA.ls (by rw[bA];simp;omega) (by rw[bA];simp;omega) λcB cC dp X cD bD=>?_;have bE:=aX.ac bD λhe=>cc bC aX Φ he F;rw[bZ,aW cN.p F];refine bp ao.i X.ls.cells.1 X.ls.cells.2 bE Ξ λbF aY dq aZ=>?_;have aZ:=aZ;rw[aM];have z:ai (λr=>leads G r\/r=ag) bz bF:=(bD.mono λr _ h=>.inl h).trans (aY.mono λr _ h=>.inr h);have:=aC.size;have:=aV.1.size;have:=B.size;have:=z.size;have bG:∀r,aS r->w.heap.size<=r:=λr q=>(aV.2.1 r q).elim (aw r) λh=>Ω
  have bH:∀r,(leads G r\/r=ag)->aS r:=λr q=>q.elim (λq=>(aE r (.inl q)).1) λq=>q▸bq;have cE:(e0 n (i+1) 0).cells=(e0 n i 0).cells++(0::0::u):=by rw[ER hu];exact PU F
  have cF:t.cells.length=3+((e0 n i 0).vars.flatMap iT).length:=by
   have h1:=congrArg R2 Q;rw[sy]at h1;unfold aD.bY at h1;rw[r9]at h1;have:((e0 n i 0).funs.flatMap fv).length=0:=by simp[e0]
   omega
  refine b4 _ ⟨λr=>aS r\/(bz.heap.size<=r/\r<bF.heap.size),cB,oj t ([0,0]++u),?_,⟨⟨.inl bq,λr q I=>?_,λr q=>by have:=cl r q;omega,λr q=>?_⟩,cC,bl,ge,L,E,aN,w0,aZ,⟨cm,vj (cn.trans B) z λr o q cG V=>br r (bH r V) (bt r o q cG),bt⟩,⟨(cp.ext B).ac z λr q V=>?_,λr q=>.inl (bu r q),bx,λr q=>?_⟩,?_,⟨(ct.ext B).ac z λr q V=>?_,?_⟩,(cw.ext B).ac z λr q V=>?_,?_⟩,?_,S.lay _,λr q=>?_⟩
  .exact ((J.trans (aR.trans aC)).then aV.1 λr q he=>by have:=aw r he;omega).trans B |>.then z λr q V=>by have:=bG r (bH r V);omega
  .rcases q with q|q
   .exact br r q I
   .have I:=aK r I;omega
  .rcases q with q|q
   .have:=bs r q;omega
   .exact q.2
  .rcases V with V|rfl
   .exact (aE r (.inl V)).2 q
   .exact bx q
  .rcases q with q|q|q
   .have du:=(bR X q);rcases cD r q with h|h
    .exact⟨.inl (aE r (.inl h)).1,(aE r (.inl h)).2⟩
    .refine⟨.inr ⟨h,by have:=aY.size;omega⟩,λcH=>by have:=bs r (bu r cH);omega⟩
   .exact (eW q).elim
   .exact (eW q).elim
  .rw[ER hu,PT,<-cF];exact bw X aY λr q he=>by
    have he:r=ag:=he;subst he;exact cc X bE Φ q F
  .exact (eW q).elim
  .refine⟨cu.1,λj x f U a1=>?_⟩;have a1:((n.funs.take 0).map (l0 n.sizes))[j]?=σ f:=a1;simp at a1
  .exact (eW q).elim
  .refine⟨cz.1,λj x e U he=>?_⟩;have he:([]:List yj)[j]?=σ e:=he;simp at he
  .rw[EO,cE,Q];rfl
  .rcases q with q|q
   .exact bG r q
   .omega
 .rintro au b3 ⟨A,G,t,J,aP,Q,S,aw⟩;refine ca Ω ?_;refine(EC (h.ext J)).mono ?_;rintro _ dv _ ⟨rfl,bI⟩;refine cq.range n.funs.length (λj Y=>∃A R aF t,Ext w Y/\eP Y ag gT C G aF (.slice ν 0 0) A R n (e0 n n.sizes.length j) t/\t.bY=(e0 n n.sizes.length j).cells/\Plain t/\(∀r,A r->w.heap.size<=r)/\∀r,R r->R0 r\/w.heap.size<=r) Ω
   ⟨A,_,_,t,J.trans bI,aP.ext bI,Q,S,aw,λ_ h=>.inl h⟩ ?_ ?_
  .rintro j Y cI cK ⟨A,R,aF,t,H,Z,M,ad,ae,a2⟩ cL;obtain⟨g,aG⟩:=aI (l:=n.funs) cK;have a6:=(y.funs g (x5 aG)).1;refine bB Ω ?_;refine(PM (h.ext H) y aG).mono ?_;rintro aQ dw _ ⟨ah,gs,dx,bJ⟩;refine(PO aJ (am.trans (H.trans ah)) aG).mono ?_;rintro _ dy _ ⟨al,gt,dz,cM,rfl,dA,dC,cO,bK⟩;have:=am.size;have cP:∀r,leads cM r->r<w.heap.size:=λr q=>by obtain⟨c,a7⟩:=bK r q;have:=a7.lt;omega
   have cQ:=(Z.ext ah).ext al;have W:∀r,A r->r<Y.heap.size:=Z.1.2.2.2;have:=ah.size;have ch:t.cells.length<=2000000:=by
    have h1:=vm y af n.sizes.length j;rw[<-M]at h1;unfold aD.bY at h1;rwa [r9]at h1
   have ci:t.olds.length=0:=by rw[ad.2.1];rfl
   have cj:t.marks.length=0:=by rw[ad.1];rfl
   have dE:g.2.length<=4096:=by have:=a6.len;have:=a6.small;omega
   have:=a6.scope.2;refine(PS (sc:=g.1) cQ M (bJ.ls.ext al) (λr q s=>by have:=W r s;obtain⟨aL,_⟩:=bR bJ q;omega) cO ⟨λs=>by have:=W _ s;omega,λs=>by have:=W _ s;omega,λr q s=>by have:=ae r s;have:=cP r q;omega⟩ Ω Ω Ω Ω ?_).mono ?_
   .show ((n.funs.take j).map (l0 n.sizes)).length<=_;rw[r9,j6];omega
   rintro _ dG _ ⟨rfl,_,aU,R',cR,bL,cS,dH,cT⟩;rw[aM];have bM:=PV (i:=n.sizes.length) aG;refine cL _ ⟨aU,R',cR,pB (e0 n n.sizes.length j) t g.2,((H.trans ah).trans al).then bL.1 (λr q s=>by have:=ae r s;omega),?_,?_,ad.put _,λr q=>?_,λr q=>?_⟩
   .rw[bM];exact cS
   .rw[bM];exact PR M
   .rcases bL.2.1 r q with h|h
    .exact ae r h
    .have:=H.size;have:=al.size;omega
   .rcases cT r q with h|h|h
    .exact a2 r h
    .exact .inl (by obtain⟨c,a7⟩:=bK r h;exact bb r _ a7 F)
    .exact .inr (by have:=H.size;have:=ah.size;have:=al.size;omega)
  .rintro Y cI ⟨A,R,aF,t,H,Z,M,ad,ae,a2⟩;refine ca Ω ?_;have e:e0 n n.sizes.length n.funs.length=df n:=by rw[<-bN];exact yt n
   rw[e]at Z M;exact⟨H,ag,gT,A,R,t,F,⟨C,G,aF,_,Z⟩,M,ad,ae,a2⟩
def PY(L:Bytes l)(V:l.length<=100000):an x7 JK [bW l] w λv J=>v=lT l/\Ext w J:=by
 refine aA func189 ?_;refine iC (λae ag aa=>Ext w aa/\∃(m:Λ)(s:Int),ae=bW m/\ag=Δ s/\Bytes m/\m.length<=100000/\qt l m s) ?_ ?_
 .rintro _ _ aa ⟨M,m,s,rfl,rfl,H,ay,I⟩;rw[ph cT.u,bf,am];refine⟨λN=>?_,λN=>?_⟩
  .have O:m=[]:=b6 Ω;exact⟨by rw[uu I (by rw[O];rfl)],M⟩
  have O:m≠[]:=λh=>N (by rw[h];rfl);refine rh.range m.length (λi _ _ P Q f=>Ext aa f/\∃(n:Int)(a:Bool),P= .int .u64 n/\Q= .bool a/\n3 n a ((m.take i).foldl e8 0)/\(m.take i).all gC=true) Ω ⟨Ext.refl _,0,false,F,F,Ll,F⟩ ?_ ?_
  .rintro i ah t3 _ _ f ai hi ⟨B,n,a,rfl,rfl,q,C⟩ aj;obtain⟨b,r⟩:=aI (l:=m) hi;have az:=H b (x5 r);rw[ph cT.u];refine bB Ω ?_;refine B2 (λ_ _ P Q p=>Ext aa p/\∃(n:Int)(a:Bool),P= .int .u64 n/\Q= .bool a/\n3 n a ((m.take (i+1)).foldl e8 0)/\(m.take (i+1)).all gC=true) ?_ ?_
   .rintro aC aD a3 a4 p ak;rw[aM];exact aj _ _ _ _ _ ak
   intro aB z;refine aV (λv p=>f=p/\v= .bool (!gC b)) ?_ ?_
   rotate_left
   .intro R e;rw[rG F cT.u H r,aP,am];refine⟨λh=>e _ _ ⟨F,by unfold gC;rw[decide_eq_false Ω];rfl⟩,λh=>?_⟩;rw[rG F cT.u H r,bL];refine e _ _ ⟨F,?_⟩;unfold gC;congr 1;by_cases W:57<b
    .rw[decide_eq_true W,decide_eq_false Ω];rfl
    .rw[decide_eq_false W,decide_eq_true Ω];rfl
   rintro _ _ ⟨rfl,rfl⟩;cases S:gC b with
   |false=>
    rw[V8,bX];exact⟨by rw[uu I (CP r S)],M.trans B⟩
   |true=>
    rw[X2,a8];have al:=of_decide_eq_true S;have K:=Lk q al;rw[CN r,CM r,C,S]at z;have ao:=q.1;have ap:=q.2.1;refine aV (λv p=>f=p/\v= .bool (a||decide (461168601842738790<n))) ?_ ?_
    rotate_left
    .intro R e;rw[bL,am];refine⟨λh=>e _ _ ⟨F,by rw[decide_eq_true h,Bool.or_true]⟩,λh=>e _ _ ⟨F,by rw[decide_eq_false h,Bool.or_false]⟩⟩
    rintro _ _ ⟨rfl,rfl⟩;by_cases E:a=true\/461168601842738790<n
    .have af:(a||decide (461168601842738790<n))=true:=by rcases E with h|h<;>simp[h]
     rw[if_pos E,af]at K;rw[af,bM,X2,a8];exact z _ _ _ _ _ ⟨B,n,true,F,F,K,F⟩
    .have af:(a||decide (461168601842738790<n))=false:=by
      cases a with
      |true=>exact absurd (.inl F) E
      |false=>simp;omega
     rw[if_neg E,af]at K;have aE:¬461168601842738790<n:=λh=>E (.inr h);rw[af,bM,V8,bX,jf,rG F cT.u H r,dI,wrap_u8 Ω Ω,fm cI.u fK.u,wrap_u64 Ω Ω,wrap_u64 Ω Ω,aM,wrap_u64 Ω Ω];exact z _ _ _ _ _ ⟨B,_,false,F,F,K,F⟩
  .rintro ah t3 _ _ f ai ⟨B,n,a,rfl,rfl,q,C⟩;rw[o9]at C q;rw[ph cT.u];refine ca Ω ?_;have X:=Lm q;have ao:=q.1;have ap:=q.2.1;have aq:∀{x:Int},x=m.foldl e8 0->0<=x->x<=4611686018427387904->(ad x7 (convert fK av (.int .u64 x)) f λau=>
     ad x7 (aO .mul av false false (Δ s) au) f λaw=>(λv J=>v=lT l/\Ext w J) (.tuple #[aw,(Δ 0)]) f):=by
    intro x U N h1;rw[fm fK.u av.u,wrap_i64 Ω Ω,jf];have hw:W5.wrap (s*x)=s*x:=by
     rcases I.1 with rfl|rfl<;>exact wrap_i64 Ω Ω
    rw[hw];refine⟨?_,M.trans B⟩;rw[CS I (CO O C),U]
   refine aV (λv p=>f=p/\v= .int .u64 (m.foldl e8 0)) ?_ ?_
   .rintro _ _ ⟨rfl,rfl⟩;have Y:=ue C ⟨Int.le_refl _,Φ⟩;exact aq F Y.1 Y.2
   intro R e;refine aV (λv p=>f=p/\v= .bool (a||decide (4611686018427387904<n))) ?_ ?_
   .rintro _ _ ⟨rfl,rfl⟩;rw[cd];refine⟨λh=>e _ _ ⟨F,?_⟩,λh=>e _ _ ⟨F,?_⟩⟩
    .have a7:a=true\/4611686018427387904<n:=by simpa using h
     rw[X,if_pos a7]
    .have a7:¬(a=true\/4611686018427387904<n):=by
      intro G;rcases G with G|G
      .simp[G]at h
      .simp[G]at h
     rw[X,if_neg a7]
   .intro aF Z;cases a with
    |true=>rw[bX];exact Z _ _ ⟨F,F⟩
    |false=>rw[a8,bL];exact Z _ _ ⟨F,by rw[Bool.false_or]⟩
 .intro aB z;refine aV (λv ab=>w=ab/\∃c:Bool,v= .bool c/\(c=true↔l[0]?=σ 45)) ?_ ?_
  .rintro _ _ ⟨rfl,c,rfl,ac⟩;rw[cd];refine⟨λax=>?_,λaf=>?_⟩
   .obtain⟨m,rfl⟩:∃m,l=45::m:=by
     have:=ac.1 ax;cases l with
     |nil=>simp at this
     |cons x m=>exact⟨m,by simp at this;rw[this]⟩
    rw[B5 (y:=1) (i:=1) F cT.u Ξ];exact z _ _ _ ⟨Ext.refl _,m,-1,F,F,λb A=>L b (.tail _ A),by simp at V;omega,CQ⟩
   .refine z _ _ _ ⟨Ext.refl _,l,1,F,F,L,V,CR λb A he=>?_⟩;subst he;have:=ac.2 A;rw[af]at this;cases this
  .intro R e;rw[ph cT.u,bL,am];refine⟨λh=>?_,λh=>e _ _ ⟨F,false,F,?_⟩⟩
   .obtain⟨b,A⟩:=aI (l:=l) (i:=0) Ω;rw[rG (y:=0) F cT.u L A,bf];refine e _ _ ⟨F,_,F,?_⟩;rw[decide_eq_true_eq,A];exact⟨λh=>by rw[h],λh=>Z3 h⟩
   .have:l=[]:=b6 Ω;subst this;simp
def PZ{s:Go.Sem x1}(h:ad x7 s w λu=>u=v)(hk:K v):ad x7 s w K:=by
 obtain⟨u,h1,rfl⟩:=h;exact⟨u,h1,hk⟩
abbrev iV:Type:=Λ×Int
def gY(x:iV):List x1:=[bW x.1,Δ x.2]
def yv(x:iV):∀u∈gY x,u.oneCell'=true:=by
 intro u hu;simp[gY]at hu;rcases hu with rfl|rfl<;>rfl
def kj(w:x3)(v:x1)(L:List iV):Prop:=cf w 2 v L.length (L.flatMap gY)
def yw{g:Nat}{L:List iV}(h:bm gY 2 cz w g v L):kj w v L:=h.sl
def ES{L:List iV}(h:kj w v L):ad x7 (U1 #[fl] a #[v]) w K=K (Δ (L.length:Int)):=by
 obtain⟨_,_,_,_,_,rfl,_⟩:=h;exact ii fl.u
def P0{k n:Nat}{cs:List x1}(h:cf w k v n cs)(f:ai S w J)(p:∀r,leadsTo v r->¬S r):cf J k v n cs:=by
 obtain⟨h1,b,o,base,cap,rfl,q,s,e,x⟩:=h;refine⟨h1,b,o,base,cap,F,q,s,e,?_⟩;rcases Q8 n with a|a
 .have:cs=[]:=b6 (by rw[h1,a,Nat.zero_mul]);subst this;intro j v ae;simp at ae
 .have y:=e a;exact kw f (p b ⟨⟨b,o,ν⟩,n,cap,by rw[y],F⟩) x
def kj.ac{L:List iV}(h:kj w v L)(a:ai S w J)(e:∀r,leadsTo v r->¬S r):kj J v L:=P0 h a e
def ET{x:iV}{L:List iV}(h:kj w v (x::L))(a:∀b o,w.rangeAt b o (gY x)->K (.pointer (σ ⟨b,o,ν⟩))):ad x7 (c9 fl v (Δ 0)) w K:=by
 obtain⟨_,b,o,base,cap,rfl,_,_,e,f⟩:=h;have:=fe (P:=x7) (w:=w) (K:=K) (k:=.i64) (c:=cap) fl.u cz.i (show 0<(x::L).length by simp) e;rw[show((0:Nat):Int)=0 from F]at this;rw[this];refine a _ _ λj u hu=>?_;have p:=(x4.1 hu).1;rw[Nat.zero_mul,Nat.add_zero];exact f j u (by rw[V0,X0 p];exact hu)
def P1{x:iV}{L:List iV}(h:kj w v (x::L))(y:∀p,(∀J,kj J v (x::L)->kj J p L)->(∀r,leadsTo p r->leadsTo v r)->K p):ad x7 (U5 fl v (σ (Δ 1)) ν ν) w K:=by
 have C:=h;obtain⟨_,b,o,base,cap,rfl,E,_⟩:=h;rw[ij fl.u cz.i (o2 1 1 F) ky ff Ξ Ω (o4 _)];refine y _ (λJ z=>?_) λr A=>?_
 .have:=cf.part (l:=1) (h:=(x::L).length) (m:=cap) z Ξ (o4 _) Ω (o4 _);have e:(((x::L).flatMap gY).drop (1*2)).take (((x::L).length-1)*2)=L.flatMap gY:=by
   rw[V0];have B:(L.flatMap gY).length=L.length*2:=jn λ_ _=>rfl;show(L.flatMap gY).take _=_;rw[Z2 (by rw[B,b9,Nat.add_sub_cancel];exact o4 _)]
  rw[e]at this;exact this
 .obtain⟨a,n,c,f,s⟩:=A;split at f
  .cases f;exact⟨_,_,_,F,s⟩
  .cases base with
   |none=>cases f
   |some q=>cases f;exact⟨_,_,_,F,s⟩
def P2{g n:Nat}{L:List iV}(z:y=(n:Int))(h:bm gY 2 cz w g v L)(A:n<=L.length)(B:∀s,kj w s (L.take n)->(∀r,leadsTo s r->leadsTo v r)->K s):ad x7 (U5 fl v ν (σ (Δ y)) ν) w K:=by
 have C:=yw h;obtain⟨_,b,o,base,cap,rfl,G,_⟩:=h.sl;rw[ij fl.u cz.i kx (o3 n y z) ff (X8 _) Ω (o4 _)];refine B _ ?_ λr E=>?_
 .have:=cf.part (l:=0) (h:=n) (m:=cap) C (X8 _) A Ω (o4 _);have e:((L.flatMap gY).drop (0*2)).take ((n-0)*2)=(L.take n).flatMap gY:=by
   rw[Nat.zero_mul,List.drop_zero,Nat.sub_zero,qz (f:=gY) n λ_ _=>rfl]
  rw[e]at this;have F:(L.take n).length=n-0:=by rw[j6];omega
  unfold kj;rw[F];exact this
 .obtain⟨a,n,c,p,x⟩:=E;split at p
  .cases p;exact⟨_,_,_,rfl,x⟩
  .cases base with
   |none=>cases p
   |some q=>cases p;exact⟨_,_,_,rfl,x⟩
def P3(w:x3)(e:Λ)(v:x1)(J:x3):Prop:=Ext w J/\∃a L,∃bad:Int,v= .tuple #[a,Δ bad]/\kj J a L/\L.map (·.1)=(lex e).1/\(0<=bad↔(lex e).2=false)/\(∀r,leadsTo a r->w.heap.size<=r)/\∀r,leadsTo a r->∃c,ah J r cz c
def P4{p:x1}{y:Λ}(R:aK .u8 w p y)(aC:Bytes y)(bc:y.length<=65536):an x7 IV [p] w (P3 w y):=by
 refine aA func114 ?_;rw[aX cM.u R];refine rh.range y.length (λi _ _ B J aa=>Ext w aa/\∃g L,∃(q:List (Λ))(C:Λ)(op:Bool),J= .bool op/\bm gY 2 cz aa g B L/\L.map (·.1)=(if op then q++[C]else q)/\(op=true->C.length<=i)/\L.length<=i/\jE (y.drop i) q C op=lex y/\∀r,leadsTo B r->w.heap.size<=r) R.le
  ⟨Ext.refl _,0,[],[],[],false,F,bm.nil _ _ _ _ _,F,(λh=>by cases h),o4 _,LH y,λr E=>(eW E).elim⟩ ?_ ?_
 rotate_left
 .rintro aD t3 B J aa aE ⟨H,g,L,q,C,op,rfl,G,A,_,_,s,I⟩;refine ca Ω ?_;rw[List.drop_length]at s;have s:(if op then q++[C]else q,true)=lex y:=s;exact⟨H,B,L,-1,F,yw G,by rw[A,<-s],by rw[<-s];simp,I,λr E=>by obtain⟨rfl,c,Y⟩:=dM G E;exact⟨c,Y⟩⟩
 rintro i aD t3 B J aa aE hi ⟨H,g,L,q,C,op,rfl,G,A,al,bd,s,I⟩ aF;obtain⟨b,Z⟩:=aI (l:=y) hi;have bg:=aC b (x5 Z);have ao:y.drop i=b::y.drop (i+1):=by rw[X5 hi,(x4.1 Z).2]
 rw[ao]at s;unfold jE at s;refine bB Ω ?_;refine B2 (λ_ _ B J ab=>Ext w ab/\∃g L,∃(q:List (Λ))(C:Λ)(op:Bool),J= .bool op/\bm gY 2 cz ab g B L/\L.map (·.1)=(if op then q++[C]else q)/\(op=true->C.length<=i+1)/\L.length<=i+1/\jE (y.drop (i+1)) q C op=lex y/\∀r,leadsTo B r->w.heap.size<=r) ?_ ?_
 .rintro bh bi a3 a4 ab aG;rw[aM];exact aF _ _ _ _ _ aG
 intro aB ap;rw[be cM.u cI.i Ψ (R.ext H) Z];refine aV (λv N=>aa=N/\v= .bool (cB b)) ?_ ?_
 rotate_left
 .intro ac z;unfold cB at z;rw[bf,am];refine⟨λh=>z _ _ ⟨F,by rw[decide_eq_true (.inl h)]⟩,λh1=>?_⟩;rw[bf,am];refine⟨λh=>z _ _ ⟨F,by rw[decide_eq_true (.inr (.inl h))]⟩,λS=>?_⟩;rw[bf,am];refine⟨λh=>z _ _ ⟨F,by rw[decide_eq_true (.inr (.inr (.inl h)))]⟩,λaH=>?_⟩;rw[bf];refine z _ _ ⟨F,?_⟩;congr 1;rw[U6,decide_eq_true_eq,decide_eq_true_eq];exact⟨λh=>.inr (.inr (.inr h)),λh=>by rcases h with h|h|h|h;exact absurd h h1;exact absurd h S;exact absurd h aH;exact h⟩
 rintro _ _ ⟨rfl,rfl⟩;cases V:cB b with
 |true=>
  rw[bX];rw[if_pos V]at s;exact ap _ _ _ _ _ ⟨H,g,L,_,[],false,F,G,A,(λh=>by cases h),Ω,s,I⟩
 |false=>
  rw[a8];rw[if_neg (by rw[V];simp)]at s;refine aV (λv N=>aa=N/\v= .bool (!bQ b)) ?_ ?_
  rotate_left
  .intro ac z;unfold bQ at z;rw[aP,am];refine⟨λh=>z _ _ ⟨F,by rw[decide_eq_false Ω];rfl⟩,λh=>?_⟩;rw[bL];refine z _ _ ⟨F,?_⟩;by_cases S:126<b
   .rw[decide_eq_true S,decide_eq_false Ω];rfl
   .rw[decide_eq_false S,decide_eq_true Ω];rfl
  rintro _ _ ⟨rfl,rfl⟩;cases hw:bQ b with
  |false=>
   rw[V8,bX];rw[if_neg (by rw[hw];simp)]at s;refine aV (λv N=>aa=N/\∃W,kj aa v W/\W.map (·.1)=q/\(∀r,leadsTo v r->w.heap.size<=r)/\∀r,leadsTo v r->leadsTo B r) ?_ ?_
   .rintro v _ ⟨rfl,W,ae,aJ,X,aL⟩;exact⟨H,v,W,(i:Int),F,ae,by rw[aJ,<-s],by rw[<-s];simp,X,λr E=>by obtain⟨rfl,c,Y⟩:=dM G (aL r E);exact⟨c,Y⟩⟩
   .intro ac z;cases op with
    |false=>
     rw[a8];rw[if_neg Ξ]at A;exact z _ _ ⟨F,L,yw G,A,I,λ_ h=>h⟩
    |true=>
     rw[bX];rw[if_pos F]at A;have af:L.length=q.length+1:=by have:=congrArg R2 A;simpa using this
     rw[et fl.u G,dI,wrap_i64 Ω Ω];refine P2 (n:=q.length) Ω G Ω λO ae X=>z _ _ ⟨F,_,ae,?_,λr E=>I r (X r E),X⟩;rw[List.map_take,A,List.take_left]
  |true=>
   rw[X2,a8];rw[if_pos hw]at s;refine aV (λB ag=>Ext w ag/\∃g M,∃x:iV,bm gY 2 cz ag g B (M++[x])/\M.map (·.1)=q/\x.1=(if op then C else[])/\(M++[x]).length<=i+1/\∀r,leadsTo B r->w.heap.size<=r) ?_ ?_
   .rintro bj ag ⟨aq,aN,M,x,aO,aQ,U,aR,au⟩;intro ah ai _ _;have Q:=aO.ext ai;have av:(M++[x])[M.length]?=σ x:=Ξ
    have bk:(M++[x]).length=M.length+1:=Ξ
    rw[et fl.u Q,dI,wrap_i64 Ω Ω,dp (i:=M.length) Ω fl.u cz.i Q Ω,aW cz.p F,ax (o:=M.length*2+0) Ψ (Q.range av 0 _ F),aM,wrap_i64 Ω Ω];obtain⟨bl,aw⟩:∃O,aK .u8 ah O [b]/\ad x7 (U5 cM p (σ (Δ (i:Int))) (σ (Δ ((i:Int)+1))) ν) ah (λv=>v=O):=by
     have aS:=R.ext (aq.trans ai);have:=ug (P:=x7) (low:=σ (Δ (i:Int))) (high:=σ (Δ ((i:Int)+1))) (K:=λv=>aK .u8 ah v [b]) cM.u cI.i aS (o2 i _ F) (o3 (i+1) ((i:Int)+1) Ω) Ω Ω λO ay=>by
      have e:((ints .u8 y).drop (i*1)).take ((i+1-i)*1)=ints .u8 [b]:=by
       simp only[U7,show i+1-i=1 by omega];rw[ints,<-List.map_drop,<-List.map_take,ao];rfl
      rw[e]at ay;exact aK.of ay
     obtain⟨v,aT,aU⟩:=this;exact⟨v,aU,v,aT,F⟩
    refine PZ aw.2 ?_;have bn:x.1.length<=65536:=by
     rw[U];cases op with
     |true=>rw[if_pos F];have:=al F;omega
     |false=>simp
    rw[xd cM.u cI.u cT.u aw.1,xb Θ,dp (i:=M.length) Ω fl.u cz.i Q Ω,aW cz.p F];refine qB (a':=(x.1++[b],x.2)) cT.i F rfl Q av F Ω λbo aY bp az=>?_;have e:(M++[x]).set M.length (x.1++[b],x.2)=M++[(x.1++[b],x.2)]:=by
     rw[S2 _ _ (o4 _),U9];rfl
    rw[e]at az;refine ap _ _ _ _ _ ⟨(aq.trans ai).then aY (λr E he=>by have:=au r he;omega),aN,_,q,x.1++[b],true,F,az,by rw[Z9,aQ];rfl,λ_=>?_,by simp at aR ⊢;omega,?_,au⟩
    .rw[r8,U];cases op with
     |true=>rw[if_pos F];have:=al F;simp;omega
     |false=>simp
    .rw[<-s,U];cases op with
     |true=>rfl
     |false=>rfl
   .intro ac z;cases op with
    |true=>
     rw[bM,X2,a8];rw[if_pos F]at A;have af:L.length=q.length+1:=by have:=congrArg R2 A;simpa using this
     obtain⟨M,x,rfl⟩:∃M x,L=M++[x]:=by
      have:L≠[]:=λh=>by rw[h]at af;simp at af
      exact⟨L.dropLast,L.getLast this,(List.dropLast_concat_getLast this).symm⟩
     rw[Z9]at A;obtain⟨aZ,aj⟩:=List.append_inj' A Ξ;refine z _ _ ⟨H,g,M,x,G,aZ,?_,Ω,I⟩;rw[if_pos F];have aj:[x.1]=[C]:=aj;exact(List.cons.inj aj).1
    |false=>
     rw[bM,V8,bX];rw[if_neg Ξ]at A;rw[cJ (cs:=#[bW [],Δ (i:Int)]) Ψ];refine im (f:=gY) (a:=(([],(i:Int)):iV)) fl.u cz.i Ω F rfl λv9 bq br bs ak a1=>?_;have a2:=G.ext ak;refine jo fl.u cz.i F a2 (by simpa using a1.sl) (yv _) Ω Ω λO a6 bt a7 ba bb=>?_;have bu:=H.size;have z9:=ak.size;refine z _ _ ⟨(H.trans ak).then bb (λr E he=>by have:=I r he;omega),a6,L,_,a7,A,F,Θ,λr E=>?_⟩;rcases ba r E with h|h
     .exact I r h
     .omega
structure yx where
 v:x1
 t:Λ
 c:Int
def pC(y:yx):List x1:=[y.v,Δ y.c]
def l1(w:x3)(g:Nat)(v:x1)(l:List (Λ×Int)):Prop:=∃L:List yx,bm pC 2 ci w g v L/\(∀y∈L,∃gy,ay .i64 av w gy y.v y.t)/\L.map (λy=>(y.t,y.c))=l
structure kk where
 aQ:x1
 szv:x1
 o:Int
 ck:x1
def fw(h:kk):List x1:=[h.aQ,h.szv,Δ h.o,h.ck]
def gZ(w:x3)(h:kk)(x:cj):Prop:=(∃g,ay .i64 av w g h.aQ x.scope)/\(∃g,ay .i64 av w g h.szv x.sizes)/\h.o=x.other/\∃g,l1 w g h.ck x.lines
def iu(w:x3)(r:Nat):Prop:=∃e c,ah w r e c/\e≠av/\e≠ci
def eH{g:Nat}(h:ay .i64 av w g v l)(f:ai S w J)(p:∀r,S r->iu w r\/w.heap.size<=r):ay .i64 av J g v l:=bw h f λr a V=>by
 rcases p r V with⟨e,c,q,s,_⟩|x
 .exact cc h q (λhe=>s he.symm) a F
 .obtain⟨y,z⟩:=bR h a;omega
def yy{α:Type}{f:α->List x1}{k:Nat}{g:Nat}{L:List α}(h:bm f k e w g v L)(q:ai S w J)(s:∀r,S r->(∃a c,ah w r a c/\a≠e)\/w.heap.size<=r):bm f k e J g v L:=h.ac q λr p V=>by
 rcases s r V with⟨a,c,x,y⟩|z
 .exact cS h x (λhe=>y he.symm) p
 .obtain⟨A,B⟩:=h.leads p;omega
def l1.dN{g:Nat}{l:List (Λ×Int)}(h:l1 w g v l)(a:ai S w J)(f:∀r,S r->iu w r\/w.heap.size<=r):l1 J g v l:=by
 obtain⟨L,h1,p,q⟩:=h;refine⟨L,yy h1 a λr s=>(f r s).imp (λ⟨e,c,x,_,z⟩=>⟨e,c,x,z⟩) id,λy A=>?_,q⟩;obtain⟨gy,hm⟩:=p y A;exact⟨gy,eH hm a f⟩
def gZ.dN{h:kk}{x:cj}(aC:gZ w h x)(a:ai S w J)(e:∀r,S r->iu w r\/w.heap.size<=r):gZ J h x:=by
 obtain⟨⟨g1,h1⟩,⟨f,p⟩,q,s,y⟩:=aC;exact⟨⟨g1,eH h1 a e⟩,⟨f,eH p a e⟩,q,s,y.dN a e⟩
def gZ.ext{h:kk}{x:cj}(aC:gZ w h x)(U:Ext w J):gZ J h x:=aC.dN (U.ac λ_=>False) λ_ h=>h.elim
def gZ.one{h:kk}{x:cj}(aC:gZ w h x):∀u∈fw h,u.oneCell'=true:=by
 obtain⟨⟨g1,h1⟩,⟨f,a⟩,p,q,L,e,_⟩:=aC;intro u hu;simp[fw]at hu;rcases hu with rfl|rfl|rfl|rfl
 .exact h1.ls.cells.2
 .exact a.ls.cells.2
 .rfl
 .exact (eO e.sl).2
def om(w:x3)(a:x1)(f:List iV)(gs:Nat)(sv:x1)(L:List kk)(e:List cj):Prop:=(kj w a f/\∀r,leadsTo a r->∃c,ah w r cz c)/\bm fw 4 bd w gs sv L/\e.length=L.length/\∀(i:Nat)h x,L[i]?=σ h->e[i]?=σ x->gZ w h x
def om.dN{q:x1}{z:List iV}{L:List kk}{A:List cj}(h:om w q z gs sv L A)(p:ai S w J)(s:∀r,S r->(∃e c,ah w r e c/\e≠av/\e≠ci/\e≠cz/\¬leadsTo sv r)\/w.heap.size<=r):om J q z gs sv L A:=by
 obtain⟨⟨h1,B⟩,C,F,G⟩:=h;have hw:∀r,leadsTo q r->¬S r:=λr a V=>by
  obtain⟨c,f⟩:=B r a;rcases s r V with⟨e,H,E,_,_,y,_⟩|I
  .exact y (eG E f)
  .have:=f.lt;omega
 refine⟨⟨h1.ac p hw,λr a=>?_⟩,C.ac p λr a V=>?_,F,λi aC x hi U=>(G i aC x hi U).dN p λr a=>(s r a).imp (λ⟨e,c,f,K,M,_⟩=>⟨e,c,f,K,M⟩) id⟩
 .obtain⟨c,f⟩:=B r a;exact⟨c,f.ac p (hw r a)⟩
 .rcases s r V with⟨e,H,E,_,_,_,y⟩|I
  .exact y a
  .obtain⟨N,O⟩:=C.leads a;omega
def iW(a:x1)(e f bad h big p told:Int)(sv:x1):List x1:=[a,Δ e,Δ f,Δ bad,Δ h,Δ big,Δ p,Δ told,sv]
def P5(N:Nat)(so:Option aG)(a:List iV)(e bad big told:Int)(L:List kk)(f:List cj):Prop:=match so with
 |some s=>bad=0/\e≠0/\(big≠0↔s.big=true)/\(s.big=false->told=s.told)/\True/\a.map (·.1)=s.toks/\(∀t∈s.toks,Bytes t/\t.length<=65536)/\f.map (λx=>(x.sizes,x.lines))=s.shared/\L.length+a.length<=100000
 |none=>bad≠0/\L.length<=N
def bO(w:x3)(g B:Nat)(H:ak)(N:Nat)(so:Option aG):Prop:=100000<=N/\∃w0 a e gs sv L f,∃(p h bad q big s told:Int),w0.heap.size=B/\ai (λr=>r=g) w0 w/\(∃c,ah w0 g bF c)/\ah w g bF (iW a p h bad q big s told sv)/\om w0 a e gs sv L f/\(∀r,leadsTo sv r->H r)/\P5 N so e h bad big told L f
theorem om.g{g:Nat}{e:x1}{f:List iV}{L:List kk}{p:List cj}(h:om w e f gs sv L p)(s:ai (λr=>r=g) w J)(x:∃c,ah w g bF c):om J e f gs sv L p:=
 h.dN s λr a=>.inl (by
  have a:r=g:=a;subst a;obtain⟨c,q⟩:=x;exact⟨_,c,q,Φ,Φ,Φ,λy=>cS h.2.1 q Φ y⟩)
def bO.new{g:Nat}{H:ak}{so:Option aG}(h:bO w g B H N so)(a:ai S w J)(e:∀r,S r->B<=r):bO J g B H N so:=by
 obtain⟨x,w0,y,z,gs,sv,L,A,C,E,bad,F,big,G,told,h1,f,p,I,K,M,O⟩:=h;have q:g<w0.heap.size:=by obtain⟨c,P⟩:=p;exact P.lt
 exact⟨x,w0,y,z,gs,sv,L,A,C,E,bad,F,big,G,told,h1,⟨X3 f.size a.size,λr o s V q=>a.a6 r o (f.a6 r o s V q) V λQ=>by
  have:=e r Q;have:=(j9.1 s).1;omega⟩,p,I.ac a λV=>by have:=e g V;omega,K,M,O⟩
def bO.ext{g:Nat}{H:ak}{so:Option aG}(h:bO w g B H N so)(U:Ext w J):bO J g B H N so:=h.new (U.ac λ_=>False) λ_ h=>h.elim
def bO.base{g:Nat}{H:ak}{so:Option aG}(h:bO w g B H N so):bO w g w.heap.size H N so:=by
 obtain⟨e,w0,f,p,gs,sv,L,q,r,s,bad,x,big,y,told,h1,z,A,a,C,E,F⟩:=h;exact⟨e,w,f,p,gs,sv,L,q,r,s,bad,x,big,y,told,rfl,ai.refl _ _,⟨_,a⟩,a,C.g z A,E,F⟩
def bO.dN{g:Nat}{H:ak}{so:Option aG}(h:bO w g B H N so)(p:ai S w J)(q:∀r,S r->(∃e c,ah w r e c/\e≠av/\e≠ci/\e≠cz/\e≠bF/\¬H r)\/w.heap.size<=r):bO J g J.heap.size H N so:=by
 obtain⟨x,w0,y,z,gs,sv,L,A,C,E,bad,F,big,G,told,h1,I,K,f,M,s,O⟩:=h.base;have P:=M.g I K;have a:=f.ac p λV=>by
  rcases q g V with⟨e,c,a,_,_,_,Q,_⟩|aa
  .exact Q (eG a f)
  .have:=f.lt;omega
 refine⟨x,J,y,z,gs,sv,L,A,C,E,bad,F,big,G,told,rfl,ai.refl _ _,⟨_,a⟩,a,P.dN p λr R=>(q r R).imp (λ⟨e,c,a,U,W,X,_,Y⟩=>⟨e,c,a,U,W,X,λZ=>Y (s r Z)⟩) id,s,O⟩
def bO.lt{g:Nat}{H:ak}{so:Option aG}(h:bO w g B H N so):g<B/\B<=w.heap.size:=by
 obtain⟨f,w0,p,q,gs,sv,L,r,s,x,bad,y,big,z,told,h1,a,⟨c,e⟩,_⟩:=h;have:=e.lt;have:=a.size;omega
def jq{g:Nat}{H:ak}{so:Option aG}(h:bO w g B H N so):∃a,∃(e f bad p big q told:Int),∃sv,ah w g bF (iW a e f bad p big q told sv)/\(so.isSome=true↔bad=0):=by
 obtain⟨y,w0,a,z,gs,sv,L,A,e,f,bad,p,big,q,told,h1,C,E,x,F,G,r⟩:=h;refine⟨a,e,f,bad,p,big,q,told,sv,x,?_⟩;cases so with
 |none=>exact⟨(λh=>by cases h),λh=>absurd h r.1⟩
 |some s=>exact⟨λ_=>r.1,λ_=>rfl⟩
def mG{g:Nat}{H:ak}{so:Option aG}(h:bO w g B H N so):ad x7 (bP (Γ g)) w (λa=>ad x7 (u6 bF a 3) w λt45=>ad x7 (u5 aj t45) w λt46=>ad x7 (aO .eql aj false true t46 (Δ 0)) w K)=K (.bool so.isSome):=by
 obtain⟨f,q,r,bad,s,big,x,told,sv,e,hi⟩:=jq h;rw[aT bF.p 3 e F,bf];congr 2;rw[U6,decide_eq_true_eq];exact hi.symm
def sF{g:Nat}{H:ak}{so:Option aG}(h:bO w g B H N so):ad x7 (bP (Γ g)) w (λf=>ad x7 (u6 bF f 3) w λt45=>ad x7 (u5 aj t45) w λt46=>ad x7 (aO .neq aj false true t46 (Δ 0)) w K)=K (.bool (!so.isSome)):=by
 obtain⟨r,s,x,bad,y,big,z,told,sv,q,hi⟩:=jq h;rw[aT bF.p 3 q F,bA];congr 2;cases e:so.isSome with
 |true=>have a:=hi.1 e;simp[a]
 |false=>
  have a:bad≠0:=λa=>by rw[hi.2 a]at e;cases e
  simp[a]
def qP(w:x3)(g B:Nat)(H:ak)(N:Nat)(so:Option aG)(J:x3):Prop:=ai (λr=>r=g) w J/\bO J g B H N so
def pD{g:Nat}{H:ak}{so:Option aG}{e at_:Int}(h:bO w g B H N so)(he:e≠0):an x7 oV [Γ g,Δ e,Δ at_] w λ_ J=>qP w g B H N ν J:=by
 refine aA func119 ?_;rw[mG h];cases so with
 |none=>rw[R7,a8];exact⟨ai.refl _ _,h⟩
 |some s=>
  rw[S1,bX];obtain⟨q,w0,r,x,gs,sv,L,y,z,A,bad,S,big,C,told,h1,E,G,I,K,M,O⟩:=h;rw[bZ,aW bF.p F];refine bp (g:=g) (o:=3) aj.i F rfl I (by simp[iW]) λaa P U Q=>?_;rw[bZ,aW bF.p F];refine bp (g:=g) (o:=4) aj.i F rfl Q (by simp[iW]) λab R V a=>?_;have a:=a;have f:=P.trans R;obtain⟨_,_,_,_,_,_,_,_,W⟩:=O;exact⟨f,q,w0,r,x,gs,sv,L,y,z,A,e,at_,big,C,told,h1,E.trans f,G,a,K,M,he,Ω⟩
def oo{g:Nat}{H:ak}{so:Option aG}{b:Bool}{at_:Int}(h:bO w g B H N so):an x7 tI [Γ g,.bool b,Δ at_] w λ_ J=>qP w g B H N (so.map (bc b)) J:=by
 refine aA func116 ?_;obtain⟨C,w0,E,G,gs,sv,L,I,K,M,bad,O,big,X,told,h1,P,Q,e,R,S,f⟩:=id h;refine aV (λv aa=>w=aa/\v= .bool (b&&decide (big=0)&&so.isSome)) ?_ ?_
 .rintro _ _ ⟨rfl,rfl⟩;rw[cd];refine⟨λU=>?_,λaf=>⟨ai.refl _ _,C,w0,E,G,gs,sv,L,I,K,M,bad,O,big,X,told,h1,P,Q,e,R,S,?_⟩⟩
  .rw[V9,V9]at U;obtain⟨⟨Y,ag⟩,Z⟩:=U;rw[bZ,aW bF.p F];refine bp (g:=g) (o:=5) aj.i F rfl e (by simp[iW]) λaa ac ah ad=>?_;rw[bZ,aW bF.p F];refine bp (g:=g) (o:=6) aj.i F rfl ad (by simp[iW]) λab ae al q=>?_;have q:=q;have V:=ac.trans ae;refine⟨V,C,w0,E,G,gs,sv,L,I,K,M,bad,O,5,at_,told,h1,P.trans V,Q,q,R,S,?_⟩;cases so with
   |none=>cases Z
   |some s=>
    obtain⟨r,x,W,y,z⟩:=f;exact⟨r,x,⟨λ_=>by show(s.big||b)=true;rw[Y,Bool.or_true],λ_=>Ω⟩,λaC=>y (R5.1 aC).1,z⟩
  .cases so with
   |none=>exact f
   |some s=>
    obtain⟨r,x,W,y,z⟩:=f;refine⟨r,x,?_,λaC=>y (R5.1 aC).1,z⟩;show big≠0↔(s.big||b)=true;cases b with
    |false=>rw[Bool.or_false];exact W
    |true=>
     have a:big≠0:=by simpa using af
     simp[a]
 .intro aB A;cases b with
  |false=>rw[a8];exact A _ _ ⟨F,Ξ⟩
  |true=>
   rw[bX,aT bF.p 5 e F,bf,am];refine⟨λa=>?_,λa=>A _ _ ⟨F,by rw[decide_eq_false a];simp⟩⟩;rw[mG h];exact A _ _ ⟨F,by rw[decide_eq_true a];simp⟩
def kM(so:Option aG):Option (Λ×aG):=so.bind dK
def EU{g:Nat}{H:ak}{so:Option aG}(h:bO w g B H N so):an x7 IW [Γ g] w λv J=>qP w g B H N ((kM so).map (·.2)) J/\∃(t:Λ)(n:Int),v= .agg #[bW t,Δ n]/\Bytes t/\t.length<=65536/\∀q,kM so=σ q->t=q.1:=by
 have aB:=h.lt;refine aA func115 ?_;refine bu cz.i λe aa bl z A=>?_;have h1:=h.ext z;have zero:∀{f:x3},qP aa g B H N ν f->ah f e cz [.string ⟨#[]⟩,Δ 0]->kM so=ν->(ad x7 (Instr.build cz #[]) f λt9=>
   aF x7 (l9 cz (Γ e) t9) f λ(_:Unit)ab=>
   ad x7 (do loadVar cz (<-asAddr (Γ e))) ab λaC=>(λv J=>qP w g B H N ((kM so).map (·.2)) J/\∃(t:Λ)(n:Int),v= .agg #[bW t,Δ n]/\Bytes t/\t.length<=65536/\∀q,kM so=σ q->t=q.1) aC ab):=by
  intro f y I Q;rw[cJ (cs:=#[.string ⟨#[]⟩,Δ 0]) Ψ];refine b7 (vs:=[.string ⟨#[]⟩,Δ 0]) cz.i F rfl (by intro v ae;simp at ae;rcases ae with rfl|rfl<;>rfl) I λaD W bm aE=>?_;rw[fM cz.p cz.i F aE.range,Q];have aH:=z.size;have:=aB;refine⟨⟨iM ((z.ac _).trans y.1) W λr a he=>?_,y.2.new W λr a=>?_⟩,[],0,F,(λb aI=>by cases aI),Ξ,λq R=>by cases R⟩
  .have he:r=e:=he;omega
  .have a:r=e:=a;omega
 rw[sF h1];cases so with
 |none=>
  rw[R7,V8,bX];exact zero ⟨ai.refl _ _,h1⟩ A F
 |some s=>
 rw[S1,X2,a8];obtain⟨aJ,w0,bo,S,gs,sv,L,X,aK,aL,bad,aM,big,aN,told,aO,Y,Z,C,K,aP,aQ⟩:=id h1;have aR:=K.g Y Z;obtain⟨⟨M,bq⟩,_⟩:=id aR;obtain⟨aS,af,aU,aV,aX,ag,aj,aY,aZ⟩:=id aQ;rw[aT bF.p 0 C F,ES M,bf,am];refine⟨λal=>?_,λal=>?_⟩
 .have a1:S=[]:=b6 Ω;have E:s.toks=[]:=by rw[<-ag,a1];rfl
  have Q:kM (σ s)=ν:=by show dK s=ν;unfold dK;rw[E]
  intro f O _ _;have I:=C.ext O;rw[aT bF.p 2 I F,aT bF.p 1 I F];refine(pD (h1.ext O) af).mono ?_;rintro _ aD _ y;have a2:=A.lt;exact zero ⟨(O.ac _).trans y.1,y.2⟩ ((A.ext O).ac y.1 λhe=>by have he:=he;omega) Q
 .obtain⟨x,G,rfl⟩:∃x l,S=x::l:=by
   cases S with
   |nil=>exact absurd F al
   |cons x l=>exact⟨x,l,F⟩
  have E:s.toks=x.1::G.map (·.1):=by rw[<-ag];rfl
  have a6:kM (σ s)=σ (x.1,{s with toks:=G.map (·.1)}):=by show dK s=_;unfold dK;rw[E]
  have ao:=aj x.1 (by rw[E];exact .head _);rw[aT bF.p 0 C F];refine ET M λb o a7=>?_;rw[bN cz.p cz.i F a7];refine bu cz.i λbr bs bt ba bb=>?_;refine b7 (vs:=gY x) cz.i F rfl (yv x) bb λbw bc bx ap=>?_;have P:=ba.put bc Ω;have aq:=C.ext P;rw[aT bF.p 0 aq F];refine P1 (M.ac (P.ac λ_=>False) λ_ _ h=>h) λau av bd=>?_;have aw:=av aa M;rw[bZ,aW bF.p F];refine bp (g:=g) (o:=0) fl.i (eO aw).1 (eO aw).2 aq (by simp[iW]) λax U bz V=>?_;have V:=V;have a2:=C.lt;have:=ap.lt;have:=A.lt;have aH:=z.size;have be:=ap.ac U λhe=>by have he:=he;omega
  rw[bN cz.p cz.i F be.range];have bg:ah ax e cz [.string ⟨#[]⟩,Δ 0]:=(ah.ext A P).ac U λhe=>by have he:=he;omega
  refine b7 (vs:=gY x) cz.i F rfl (yv x) bg λbC ay bD bh=>?_;rw[fM cz.p cz.i F bh.range];have az:=(P.ac _).trans U;rw[a6];refine⟨⟨iM ((z.ac _).trans az) ay λr a he=>?_,?_⟩,x.1,x.2,F,ao.1,ao.2,λq R=>by cases R;rfl⟩
  .have he:r=e:=he;omega
  .have bi:om w0 au G gs sv L X:=⟨⟨av w0 K.1.1,λr a=>K.1.2 r (bd r a)⟩,K.2⟩;have bj:bO ax g B H N (σ {s with toks:=G.map (·.1)}):=⟨aJ,w0,au,G,gs,sv,L,X,aK,aL,bad,aM,big,aN,told,aO,Y.trans az,Z,V,bi,aP,aS,af,aU,aV,aX,F,λt bk=>aj t (by rw[E];exact .tail _ bk),aY,by simp at aZ;omega⟩;refine bj.new ay λr a=>?_;have a:r=e:=a;omega
def P6{lo hi:Int}{so:Option aG}:bg lo hi so=match kM so with
  |none=>ν
  |some (w,s)=>match gD w with
   |none=>ν
   |some n=>if lo<=n/\n<=hi then σ (n,s)else ν:=by
 cases so with
 |none=>rfl
 |some s=>rfl
def l2{g:Nat}{H:ak}{so:Option aG}{lo hi:Int}(h:bO w g B H N so):an x7 na [Γ g,Δ lo,Δ hi] w λv J=>qP w g B H N ((bg lo hi so).map (·.2)) J/\∃n at_:Int,v= .tuple #[Δ n,Δ at_]/\(∀q,bg lo hi so=σ q->n=q.1)/\(bg lo hi so=ν->n=0):=by
 have:=h.lt;refine aA func117 ?_;refine(EU h).mono ?_;rintro _ aa _ ⟨⟨O,h1⟩,t,at_,rfl,W,ay,P⟩;have:=h1.lt;refine bu cz.i λaD ab aE X Y=>?_;refine b7 (vs:=[bW t,Δ at_]) cz.i F rfl (by intro v ae;simp at ae;rcases ae with rfl|rfl<;>rfl) Y λZ ad aF Q=>?_;have R:Ext aa Z:=X.put ad Ω;have af:=h1.ext R;rw[aL cz.p 0 Q F];refine(PY W Ω).mono ?_;rintro _ E _ ⟨rfl,G⟩;have I:=af.ext G;have S:=Q.ext G;have ag:=R.trans G;have:=O.size;obtain⟨n,e,ah,K,aj⟩:∃n e:Int,lT t= .tuple #[Δ n,Δ e]/\(∀m,gD t=σ m->n=m/\e=0)/\(gD t=ν->e≠0):=by
  unfold lT;cases gD t with
  |none=>exact⟨0,4,F,(λm hm=>by cases hm),λ_=>Ω⟩
  |some m=>exact⟨m,0,F,(λm hm=>by cases hm;exact⟨F,F⟩),λh=>by cases h⟩
 rw[ah,bq,br];have a:=P6 (lo:=lo) (hi:=hi) (so:=so);have U:ai (λr=>r=g) w E:=O.trans (ag.ac _);refine da (λy=>ai (λr=>r=g) E y/\bO y g B H N ((bg lo hi so).map (·.2))) ?_ ?_
 .rintro y ⟨z,x⟩;rw[sF x];cases A:bg lo hi so with
  |none=>
   rw[A]at x;rw[Option.map_none,R7,V8,bX];exact⟨⟨U.trans z,x⟩,0,0,F,(λq A=>by cases A),λ_=>rfl⟩
  |some q=>
   rw[A]at x a;rw[Y1,S1,X2,a8];intro aI L _ _;have al:=(S.ac z λhe=>by have he:=he;omega).ext L;rw[aL cz.p 1 al F];refine⟨⟨(U.trans z).trans (L.ac _),x.ext L⟩,n,at_,F,λaJ ao=>?_,λh=>by cases h⟩;cases ao;cases s:kM so with
   |none=>rw[s]at a;cases a
   |some p=>
    obtain⟨bt,s1⟩:=p;have M:=P (bt,s1) s;subst M;rw[s]at a;simp only at a;cases f:gD t with
    |none=>rw[f]at a;cases a
    |some m=>
     rw[f]at a;simp only at a;split at a
     .cases a;exact(K m f).1
     .cases a
 .intro aB V;refine aV (λv y=>E=y/\∃c:Bool,v= .bool c/\(c=true->bg lo hi so=ν)/\(c=false->(bg lo hi so).map (·.2)=(kM so).map (·.2))) ?_ ?_
  .rintro _ _ ⟨rfl,c,rfl,ap,aq⟩;rw[cd];refine⟨λh=>?_,λh=>V _ ⟨ai.refl _ _,by rw[aq h];exact I⟩⟩;rw[aL cz.p 1 S F];refine(pD I Ω).mono ?_;rintro _ y _ ⟨z,x⟩;exact V _ ⟨z,by rw[ap h];exact x⟩
  .intro aK C;rw[mG I];cases s:kM so with
   |none=>
    rw[s]at a;simp only at a;rw[Option.map_none,R7,a8];exact C _ _ ⟨F,false,F,(λh=>by cases h),λ_=>by rw[a,s];rfl⟩
   |some p=>
    obtain⟨bt,s1⟩:=p;have M:=P (bt,s1) s;subst M;rw[s]at a;simp only at a;rw[Y1,S1,bX,bA,am];refine⟨λhe=>?_,λhe=>?_⟩
    .refine C _ _ ⟨F,true,F,λ_=>?_,λh=>by cases h⟩;cases f:gD t with
     |none=>rw[a,f]
     |some m=>exact absurd (K m f).2 he
    .have au:=Y3.1 he;cases f:gD t with
     |none=>exact absurd au (aj f)
     |some m=>
      rw[f]at a;simp only at a;have av:=(K m f).1;subst av;rw[aP,am];refine⟨λaw=>C _ _ ⟨F,true,F,λ_=>by rw[a,if_neg Ω],λh=>by cases h⟩,λaw=>?_⟩;rw[bL];refine C _ _ ⟨F,_,F,λaC=>?_,λaC=>?_⟩
      .rw[a,if_neg (by have:=of_decide_eq_true aC;omega)]
      .rw[a,if_pos (by have:=of_decide_eq_false aC;omega),s];rfl
def yz{bl bv:x1}{a b:Λ}(e:aK .i64 w bl a)(s:aK .i64 w bv b):an x7 tJ [bl,bv] w λv J=>v= .bool (decide (a=b))/\Ext w J:=by
 refine aA func190 ?_;rw[aX az.u e,aX az.u s,bA,am];refine⟨λh=>⟨by rw[decide_eq_false];intro he;rw[he]at h;exact h F,Ext.refl _⟩,λh=>?_⟩;have z:a.length=b.length:=by have:=Y3.1 h;omega
 rw[aX az.u e];refine bV.range a.length (λi _ aa=>Ext w aa/\a.take i=b.take i) e.le ⟨Ext.refl _,F⟩ ?_ ?_
 .rintro i _ aa k hi ⟨q,f⟩ hk;obtain⟨x,U⟩:=aI (l:=a) hi;obtain⟨y,r⟩:=aI (l:=b) (i:=i) Ω;refine bB Ω ?_;intro ab A _ _;have p:=q.trans A;rw[be az.u av.i Ψ (e.ext p) U,be az.u av.i Ψ (s.ext p) r,bA,am];refine⟨λB=>⟨by rw[decide_eq_false];intro he;rw[he,r]at U;exact B (Z3 U).symm,p⟩,λhe=>?_⟩;rw[aM];refine hk _ _ ⟨p,?_⟩;rw[u9,u9,f,U,r,Y3.1 he]
 .rintro _ aa k ⟨q,f⟩;rw[aP,am];refine⟨λh=>Ω,λ_=>⟨?_,q⟩⟩;rw[o9,z,o9]at f;rw[decide_eq_true f]
def iv(w:x3)(B a:Nat)(x:cj):Prop:=∃aQ szv ck g1 e f,ah w a bd [aQ,szv,Δ x.other,ck]/\ay .i64 av w g1 aQ x.scope/\ay .i64 av w e szv x.sizes/\l1 w f ck x.lines/\(∀r,leads aQ r\/leads szv r->B<=r)/\(∀r,leads aQ r->¬leads szv r)/\B<=a
def EV(w:x3)(r:Nat):Prop:=(∃e c,ah w r e c/\e≠av/\e≠ci/\e≠bd)\/w.heap.size<=r
def iv.dN{f:Nat}{x:cj}(h:iv w B f x)(a:ai S w J)(s:∀r,S r->EV w r):iv J B f x:=by
 obtain⟨aQ,szv,ck,g1,y,z,h1,A,C,E,F,G,H⟩:=h;have p:∀r,S r->iu w r\/w.heap.size<=r:=λr I=>(s r I).imp (λ⟨e,c,q,K,L,_⟩=>⟨e,c,q,K,L⟩) id;refine⟨aQ,szv,ck,g1,y,z,h1.ac a λV=>?_,eH A a p,eH C a p,E.dN a p,F,G,H⟩;rcases s f V with⟨e,c,q,_,_,M⟩|N
 .exact M (eG q h1)
 .have:=h1.lt;omega
def iv.ext{a:Nat}{x:cj}(h:iv w B a x)(U:Ext w J):iv J B a x:=h.dN (U.ac λ_=>False) λ_ h=>h.elim
def l3{g:Nat}{H:ak}{so:Option aG}(h:bO w g B H N so):∀r,r=g->EV w r:=λr a=>by
 subst a;obtain⟨f,p,q,bad,s,big,x,told,sv,e,_⟩:=jq h;exact .inl ⟨_,_,e,Φ,Φ,Φ⟩
def iw(g B:Nat):ak:=λr=>r=g\/B<=r
def P7{k:Nat}{acc:Λ}{s:aG}:cP (λacc s=>match bi 0 (n-1) s with
 |none=>ν
 |some (v,s)=>if v∈acc then ν else σ (v,s)) (k+1) acc s=match bi 0 (n-1) s with
  |none=>ν
  |some (v,s')=>if v∈acc then ν else cP (λacc s=>match bi 0 (n-1) s with
 |none=>ν
 |some (v,s)=>if v∈acc then ν else σ (v,s)) k (acc++[v]) s':=by
 rw[cP];cases bi 0 (n-1) s with
 |none=>rfl
 |some q=>
  obtain⟨v,s'⟩:=q;simp only;by_cases ae:v∈acc
  .rw[if_pos ae,if_pos ae]
  .rw[if_neg ae,if_neg ae]
def EW(n:Int)(k:Nat)(acc:Λ)(s:aG):Option (Λ×aG):=cP (λacc s=>match bi 0 (n-1) s with
 |none=>ν
 |some (v,s)=>if v∈acc then ν else σ (v,s)) k acc s
def EX{g f ar:Nat}{H:ak}{s:aG}{so:Option aG}{X:x1}{aN aR:x3->Prop}(aC:bO w g B H N so)(b2:so=σ s\/(so=ν/\ar=0))(b3:iv w B f ⟨[],[],0,[]⟩)(b4:∀c,ah w f bd c->c[3]?=σ (.slice ν 0 0))(bC:ay .i64 av w gz X all)(b5:∀r,leads X r->r<B)(dl:all.length<=100001)(dm:ar<=4611686018427387904)(aS:so=σ s->s.toks.length<=100000)(ao:so=σ s->∀J x,ai (iw g B) w J->eU all.length ar s=ν->bO J g B H N ν->iv J B f x->aN J)(b6:so=ν->aR w)(aT:so=σ s->∀J scope s',ai (iw g B) w J->eU all.length ar s=σ (scope,s')->bO J g B H N (σ s')->iv J B f ⟨scope,scope.map λv=>all.getD v.toNat 0,0,[]⟩->(∀c,ah J f bd c->c[3]?=σ (.slice ν 0 0))->aR J):
  cq (Δ 0) w λi z k=>
   cw (α:=x1->x3->Prop) (λ(b7:x1)(M:x3)=>
    Split b7 (ad x7 (U1 #[az] aj #[X]) M λt53=>
   ad x7 (aO .sub av false true t53 (Δ 1)) M λb8=>
   an x7 na [Γ g,(Δ 0),b8] M λt55 A=>
   ad x7 (Y4 t55 0) A λaU=>
   ad x7 (Y4 t55 1) A λb9=>
   ad x7 (bP (Γ g)) A λca=>
   ad x7 (u6 bF ca 3) A λcb=>
   ad x7 (u5 aj cb) A λcd=>
   ad x7 (aO .neq aj false true cd (Δ 0)) A λce=>
   Split ce (aN A)
    (ad x7 (u6 bd (Γ f) 0) A λcf=>
   ad x7 (u5 az cf) A λbD=>
   ad x7 (U1 #[az] aj #[bD]) A λt66=>
   cq (Δ 0) A λaY E cg=>
    ad x7 (aO .lss aj false false aY t66) E λch=>
    Split ch (ad x7 (c9 az bD aY) E λci=>
    ad x7 (u5 av ci) E λt70=>
    ad x7 (aO .eql av false false t70 aU) E λcj=>
    Split cj (an x7 oV [Γ g,(Δ 4),b9] E λt76 aZ=>aN aZ)
     (ad x7 (aO .add aj false true aY (Δ 1)) E λcl=>
    cg cl E))
     (ad x7 (u6 bd (Γ f) 0) E λcm=>
   ad x7 (u5 az cm) E λcn=>
   aF x7 (Y5 az 1 #[(0,aU)]) E λcp Y=>
   aF x7 (Z5 #[az,az] az #[cn,cp]) Y λcr a1=>
   ad x7 (u6 bd (Γ f) 0) a1 λct=>
   aF x7 (l9 az ct cr) a1 λ(_:Unit)ap=>
   ey ap λR=>
   ad x7 (u6 bd (Γ f) 1) R λa2=>
   ad x7 (u5 az a2) R λbE=>
   ad x7 (c9 az X aU) R λcu=>
   ad x7 (u5 av cu) R λcz=>
   aF x7 (Y5 az 1 #[(0,cz)]) R λcA W=>
    (Ext R W\/cD x7 (u5 az a2) bE W/\cD x7 (u6 bd (Γ f) 1) a2 W/\True)/\
   aF x7 (Z5 #[az,az] az #[bE,cA]) W λcB a6=>
    ad x7 (u6 bd (Γ f) 1) a6 λcC=>
    aF x7 (l9 az cC cB) a6 λ(_:Unit)Z=>
     ad x7 (aO .add av false true i (Δ 1)) Z λcE=>
   k cE Z)))
     (aR M)) λbG=>
   ad x7 (aO .lss av false false i (Δ (ar:Int))) z λcF=>
   Split cF (ad x7 (bP (Γ g)) z λcG=>
   ad x7 (u6 bF cG 3) z λcH=>
   ad x7 (u5 aj cH) z λt45=>
   ad x7 (aO .eql aj false true t45 (Δ 0)) z λt46=>
   bG t46 z)
    (bG (.bool false) z):=by
 have dn:=aC.lt;rcases b2 with rfl|⟨rfl,rfl⟩
 rotate_left
 .refine cq.range 0 (λ_ aa=>w=aa) Ω F (λi aa k hi=>Ω) ?_;rintro _ k rfl;refine aV (λv M=>w=M/\v= .bool false) ?_ ?_
  .rintro _ _ ⟨rfl,rfl⟩;rw[a8];exact b6 F
  .intro aB ab;rw[aP,am];exact⟨λh=>Ω,λ_=>ab _ _ ⟨F,F⟩⟩
 have h:=aC;have aS:=aS F;have ao:=ao F;have aT:=aT F;refine cq.range ar (λi z=>∃scope O,ai (iw g B) w z/\bO z g B H N (σ O)/\iv z B f ⟨scope,scope.map λv=>all.getD v.toNat 0,0,[]⟩/\scope.length=i/\scope.length+O.toks.length<=100000/\eU all.length ar s=EW all.length (ar-i) scope O/\∀c,ah z f bd c->c[3]?=σ (.slice ν 0 0)) Ω ⟨[],s,ai.refl _ _,h,b3,F,by simpa using aS,F,b4⟩ ?_ ?_
 rotate_left
 .rintro z k ⟨scope,O,aq,Q,au,bH,cI,C,a7⟩;refine aV (λv M=>z=M/\v= .bool false) ?_ ?_
  .rintro _ _ ⟨rfl,rfl⟩;rw[a8];rw[U9]at C;exact aT z scope O aq C Q au a7
  .intro aB ab;rw[aP,am];exact⟨λh=>Ω,λ_=>ab _ _ ⟨F,F⟩⟩
 rintro i z k hi ⟨scope,O,aq,Q,au,bH,cI,C,a7⟩ hk;refine aV (λv M=>z=M/\v= .bool true) ?_ ?_
 rotate_left
 .intro aB ab;refine bB Ω ?_;rw[mG Q];exact ab _ _ ⟨F,F⟩
 rintro _ _ ⟨rfl,rfl⟩;rw[bX];have bI:∀{J:x3},ai (iw g B) w J->ay .i64 av J gz X all:=λcJ=>bw bC cJ λr e V=>by
  rcases V with rfl|V
  .obtain⟨cK,G,af,bad,cL,big,cM,told,sv,I,_⟩:=jq h;exact cc bC I Φ e F
  .have:=b5 r e;omega
 rw[aX az.u (bI aq).ls,dI,wrap_i64 Ω Ω];refine(l2 Q).mono ?_;rintro _ A _ ⟨⟨ba,K⟩,n,at_,rfl,bb,cN⟩;rw[bq,br,sF K];have bc:=au.dN ba (l3 Q);have bh:ai (iw g B) w A:=aq.trans (ba.mono λr _ h=>.inl h);have cO:=P7 (n:=(all.length:Int)) (k:=ar-(i+1)) (acc:=scope) (s:=O);have cP:ar-i=(ar-(i+1))+1:=Ω
 rw[cP]at C;unfold EW at C;rw[cO]at C;have cQ:bg 0 ((all.length:Int)-1) (σ O)=bi 0 ((all.length:Int)-1) O:=rfl;rw[cQ]at K bb cN ⊢;cases aw:bi 0 ((all.length:Int)-1) O with
 |none=>
  rw[aw]at K C;rw[Option.map_none,R7,V8,bX];exact ao A _ bh C K bc
 |some q=>
  obtain⟨v,bJ⟩:=q;rw[aw]at K C bb;have cR:=bb _ F;subst cR;have dp:=(jj aw).1;have dq:=(dj aw).1;simp only at C;rw[Y1,S1,X2,a8];have K:bO A g B H N (σ bJ):=K;obtain⟨aQ,szv,ck,g1,dr,bj,f1,f2,f3,f4,f5,f6,f7⟩:=id bc;rw[aL bd.p 0 f1 F,aX az.u f2.ls];have ds:scope.length<=100000:=Ω
  refine cq.range scope.length (λj E=>A=E/\n∉scope.take j) Ω ⟨F,Ξ⟩ ?_ ?_
  .rintro j _ cT cU ⟨rfl,ax⟩ cV;obtain⟨u,hu⟩:=aI (l:=scope) cU;rw[aP,am];refine⟨λ_=>?_,λh=>by simp only at h;omega⟩;rw[be az.u av.i Ψ f2.ls hu,bf,am];refine⟨λhe=>?_,λcW=>?_⟩
   .refine (pD K Ω).mono ?_;rintro _ aZ _ ⟨bK,cX⟩;rw[if_pos (by rw[<-he];exact x5 hu)]at C;exact ao aZ _ (bh.trans (bK.mono λr _ h=>.inl h)) C cX (bc.dN bK (l3 K))
   .rw[aM];refine cV _ ⟨F,?_⟩;rw[u9,hu];intro hm;rcases p9.1 hm with hm|hm
    .exact ax hm
    .simp at hm;exact cW hm.symm
  .rintro _ cT ⟨rfl,ax⟩;rw[o9]at ax;rw[aP,am];refine⟨λh=>by simp only at h;omega,λ_=>?_⟩;rw[if_neg ax]at C;rw[aL bd.p 0 f1 F];refine eE az.u av.i F λdt du Y dv P cY=>?_;have dw:=K.lt;refine iU az.u av.i F (f2.ext P) cY.ls Θ Θ λbk cZ a1 aA c0 bL=>?_;have aD:=f1.ext P;have f113:=aD.ac bL λhe=>cc (f2.ext P) aD Φ he F;rw[aW bd.p F];refine bp (g:=f) (o:=0) az.i aA.ls.cells.1 aA.ls.cells.2 f113 Ξ λap bM dx aE=>?_;have aE:=aE;intro R bl _ _;have ag:ai (λr=>leads aQ r\/r=f) Y ap:=(bL.mono λr _ h=>.inl h).trans (bM.mono λr _ h=>.inr h);have bN:∀r,(leads aQ r\/r=f)->iw g B r:=λr e=>.inr (e.elim (λe=>f5 r (.inl e)) λe=>e▸f7);have bQ:=(bh.trans (P.ac _)).trans (ag.mono λr _ e=>bN r e);have c1:ai (iw g B) w R:=bQ.trans (bl.ac _);have c2:=bw (f3.ext P) ag λr e V=>by
    rcases V with V|rfl
    .exact f6 r V e
    .exact cc (f3.ext P) aD Φ e F
   have c3:=bw aA bM λr e he=>by
    have he:r=f:=he;subst he;exact cc aA f113 Φ e F
   have c4:∀r,(leads aQ r\/r=f)->(∃c,ah Y r av c)\/∃c,ah Y r bd c:=λr e=>by
    rcases e with e|rfl
    .obtain⟨G,_⟩:=bR f2 e;obtain⟨_,⟨ae,_⟩|⟨_,cs,ae,I,_⟩⟩:=f2.ext P
     .rw[ae]at e;obtain⟨a,c5,c,G,af⟩:=e;cases G
     .exact .inl ⟨cs,G▸I⟩
    .exact .inr ⟨_,aD⟩
   have c6:l1 ap bj ck []:=by
    obtain⟨L,S,c7,bm⟩:=f4.dN (P.ac λ_=>False) λ_ h=>h.elim;have bn:=List.map_eq_nil_iff.1 bm;subst bn;refine⟨[],S.ac ag λr e V=>?_,λy bo=>(by cases bo),F⟩;rcases c4 r V with⟨c,I⟩|⟨c,I⟩
    .exact cS S I Φ e
    .exact cS S I Φ e
   have da:=(K.ext P).new ag λr e=>by
    rcases bN r e with rfl|h
    .rcases e with e|e
     .exact f5 _ (.inl e)
     .exact e▸f7
    .exact h
   rw[aL bd.p 1 (aE.ext bl) F];have db:all[n.toNat]?=σ (all.getD n.toNat 0):=by rw[u4,x6 Ω];rfl
   rw[gf (y:=n) (i:=n.toNat) Ω az.u av.i Ψ (bI c1).ls db];refine eE az.u av.i F λdy dz W dA bS dc=>?_;refine⟨.inl bS,?_⟩;have U:=bl.trans bS;have f316:=c2.ext U;have bT:(scope.map λv=>all.getD v.toNat 0).length=scope.length:=r9 _;refine iU az.u av.i F f316 dc.ls (by simp at bT ⊢;omega) (by simp at bT ⊢;omega) λbU dd a6 aH bV bW=>?_;have aJ:=aE.ext U;have bY:=aJ.ac bW λhe=>cc f316 aJ Φ he F;rw[aW bd.p F];refine bp (g:=f) (o:=1) az.i aH.ls.cells.1 aH.ls.cells.2 bY Ξ λZ bZ dC al=>?_;have al:=al;rw[aM];have aK:ai (λr=>leads szv r\/r=f) W Z:=(bW.mono λr _ h=>.inl h).trans (bZ.mono λr _ h=>.inr h);have b0:∀r,(leads szv r\/r=f)->B<=r:=λr e=>e.elim (λe=>f5 r (.inr e)) λe=>e▸f7;have bs:=c3.ext U;have dD:=P.size;have dE:=ag.size;have bt:∀r,leads bk r->B<=r/\¬leads szv r:=λr e=>by
    rcases c0 r e with h|h
    .exact⟨f5 r (.inl h),f6 r h⟩
    .exact⟨Ω,λbu=>by obtain⟨G,af⟩:=bR f3 bu;omega⟩
   have de:=bw bs aK λr e V=>by
    rcases V with V|rfl
    .exact (bt r e).2 V
    .exact cc bs aJ Φ e F
   have df:=bw aH bZ λr e he=>by
    have he:r=f:=he;subst he;exact cc aH bY Φ e F
   have dg:l1 Z bj ck []:=by
    obtain⟨L,S,c7,bm⟩:=c6.dN (U.ac λ_=>False) λ_ h=>h.elim;have bn:=List.map_eq_nil_iff.1 bm;subst bn;refine⟨[],S.ac aK λr e V=>?_,λy bo=>(by cases bo),F⟩;rcases V with V|rfl
    .obtain⟨G,_⟩:=bR f316 V;obtain⟨_,⟨ae,_⟩|⟨_,cs,ae,I,_⟩⟩:=f316
     .rw[ae]at V;obtain⟨a,c5,c,G,af⟩:=V;cases G
     .exact cS S (G▸I) Φ e
    .exact cS S aJ Φ e
   refine hk _ ⟨scope++[n],bJ,((bQ.trans (U.ac _)).trans (aK.mono λr _ e=>.inr (b0 r e))),(da.ext U).new aK b0,⟨bk,bU,ck,cZ,dd,bj,al,de,by rw[Z9];exact df,dg,λr e=>?_,λr e bu=>?_,f7⟩,by rw[r8,bH];rfl,by rw[r8];simp;omega,C,λc bx=>?_⟩
   .rcases e with e|e
    .exact (bt r e).1
    .rcases bV r e with h|h
     .exact f5 r (.inr h)
     .have:=U.size;omega
   .rcases bV r bu with h|h
    .exact (bt r e).2 h
    .obtain⟨G,af⟩:=bR bs e;omega
   .have dh:c=[bk,bU,Δ 0,ck]:=by
     unfold ah at bx al;rw[al]at bx;have:=(Obj.cells.inj (Z3 bx)).1;exact(Array.toList_inj.2 this).symm
    have di:ck= .slice ν 0 0:=by
     obtain⟨dF,dG,dH,_,_,_,bz,_⟩:=au;have b1:=a7 _ bz;have bA:=bz.ac ba λhe=>by
      have he:=he;obtain⟨cK,G,af,bad,cL,big,cM,told,sv,I,_⟩:=jq Q;subst he;exact absurd (eG I bz) Φ
     unfold ah at bA f1;rw[f1]at bA;have dk:=Array.toList_inj.2 (Obj.cells.inj (Z3 bA)).1;have Q:=congrArg (λl=>l[3]?) dk;simp at Q;simp at b1;rw[Q,b1]
    rw[dh,di];rfl
def P8{y:x1->x3->Prop}(h:aK .i64 w sv l)(h1:∀z∈l,1<=z)(J:∀c:Int,(4096<c↔dn l=true)->y (Δ c) w):
  bV (Δ 1) (Δ 0) w λA r a K=>
   ad x7 (aO .lss aj false false r (Δ (l.length:Int))) a λL=>
   Split L (cw (α:=x1->x3->Prop) (λ(M:x1)(B:x3)=>
    ad x7 (aO .add aj false true r (Δ 1)) B λN=>
    K M N B) λC=>
   ad x7 (c9 az sv r) a λO=>
   ad x7 (u5 av O) a λE=>
   cw (α:=x1->x3->Prop) (λ(P:x1)(f:x3)=>
    ad x7 (aO .mul av false false A P) f λF=>
    ad x7 (aO .gtr av false true F (Δ 4096)) f λQ=>
    Split Q (C (Δ 4097) f)
     (C F f)) λG=>
   ad x7 (aO .gtr av false true E (Δ 4096)) a λR=>
   Split R (G (Δ 4097) a)
    (G E a))
    (y A a):=by
 refine bV.range l.length (λi c aa=>w=aa/\∃p:Int,p=aR ((l.take i).map λk=>min k 4097)/\1<=p/\c=Δ (if 4096<p then 4097 else p)) h.le ⟨rfl,1,by simp[aR],Ω,by rw[if_neg Ω]⟩ ?_ ?_
 .rintro i _ _ S hi ⟨rfl,p,q,U,rfl⟩ V;obtain⟨z,s⟩:=aI (l:=l) hi;have:=h1 z (x5 s);have e:aR ((l.take (i+1)).map λk=>min k 4097)=p*min z 4097:=by
   rw[q,u9,s,j4,Z9,T3,List.map_nil,CY]
  have Y:p*1<=p*min z 4097:=Int.mul_le_mul_of_nonneg_left Ω Ω;refine bB Ω ?_;refine aV (λv ab=>w=ab/\v=Δ (if 4096<p*min z 4097 then 4097 else p*min z 4097)) ?_ ?_
  .rintro _ _ ⟨rfl,rfl⟩;rw[aM];exact V _ _ ⟨rfl,_,e.symm,Ω,rfl⟩
  intro aB x;rw[be az.u av.i Ψ h s];refine aV (λv ab=>w=ab/\v=Δ (min z 4097)) ?_ ?_
  .rintro _ _ ⟨rfl,rfl⟩;rw[jf];by_cases H:4096<p
   .rw[if_pos H];have W:(4097:Int)*1<=4097*min z 4097:=Int.mul_le_mul_of_nonneg_left Ω Ω;rw[wrap_i64 Ω Ω,bL,am];refine⟨λ_=>x _ _ ⟨rfl,by rw[if_pos Ω]⟩,λZ=>Ω⟩
   .rw[if_neg H];have W:p*min z 4097<=4096*4097:=by
     have:=Int.mul_le_mul_of_nonneg_right (show p<=4096 by omega) (show 0<=min z 4097 by omega);have:=Int.mul_le_mul_of_nonneg_left (show min z 4097<=4097 by omega) (show(0:Int)<=4096 by omega);omega
    rw[wrap_i64 Ω Ω,bL,am];exact⟨λaC=>x _ _ ⟨rfl,by rw[if_pos aC]⟩,λaC=>x _ _ ⟨rfl,by rw[if_neg aC]⟩⟩
  .intro af I;rw[bL,am];exact⟨λaC=>I _ _ ⟨rfl,by congr 1;omega⟩,λaC=>I _ _ ⟨rfl,by congr 1;omega⟩⟩
 .rintro _ _ S ⟨rfl,p,q,U,rfl⟩;rw[o9]at q;rw[aP,am];refine⟨λh=>Ω,λ_=>J _ ?_⟩;unfold dn;rw[<-q,decide_eq_true_eq];split
  .exact⟨λ_=>Ω,λ_=>Ω⟩
  .exact Iff.rfl
def P9{g ap:Nat}{H:ak}{so:Option aG}{Y:x3->Prop}(h:bO w g B H N so)(C:ay .i64 av w gz szv sizes)(aC:∀z∈sizes,1<=z/\z<=aw)(bo:sizes.length<=100001)(R:ah w ap ci [.slice ν 0 0,Δ 0])(aD:B<=ap)(Z:∀t J aN gt,t.length=sizes.length->ai (λr=>r=g\/r=ap\/w.heap.size<=r) w J->ah J ap ci [aN,Δ 0]->ay .i64 av J gt aN t->(∀r,leads aN r->w.heap.size<=r)->bO J g B H N ((gi sizes [] so).map (·.2))->(∀q,gi sizes [] so=σ q->t=q.1)->Y J):
  cq (Δ 0) w λS s aE=>
      ad x7 (aO .lss aj false false S (Δ (sizes.length:Int))) s λaH=>
      Split aH (ad x7 (c9 az szv S) s λaJ=>
      ad x7 (u5 av aJ) s λaK=>
      ad x7 (aO .sub av false true aK (Δ 1)) s λaP=>
      an x7 na [Γ g,(Δ 0),aP] s λae E=>
      ad x7 (Y4 ae 0) E λaQ=>
      ad x7 (Y4 ae 1) E λbs=>
      ad x7 (u6 ci (Γ ap) 0) E λaR=>
      ad x7 (u5 az aR) E λaS=>
      aF x7 (Y5 az 1 #[(0,aQ)]) E λaT aU=>
      aF x7 (Z5 #[az,az] az #[aS,aT]) aU λaV af=>
      ad x7 (u6 ci (Γ ap) 0) af λaX=>
      aF x7 (l9 az aX aV) af λ(_:Unit)ag=>
      ad x7 (aO .add aj false true S (Δ 1)) ag λaY=>
      aE aY ag)
       (Y s):=by
 have bt:=R.lt;have bu:=h.lt;refine cq.range sizes.length (λj aa=>∃t aN gt s1,t.length=j/\ai (λr=>r=g\/r=ap\/w.heap.size<=r) w aa/\ah aa ap ci [aN,Δ 0]/\ay .i64 av aa gt aN t/\(∀r,leads aN r->w.heap.size<=r)/\bO aa g B H N s1/\gi sizes [] so=gi (sizes.drop j) t s1) C.ls.le
  ⟨[],_,0,so,F,ai.refl _ _,R,ay.nil _ _ _ _,(λr e=>by obtain⟨a,n,c,L,U⟩:=e;cases L),h,F⟩ ?_ ?_
 rotate_left
 .rintro aa aZ ⟨t,aN,gt,s1,M,x,O,G,y,I,he⟩;refine ca Ω ?_;rw[List.drop_length]at he;cases s1 with
  |none=>
   have he:=he;exact Z t aa aN gt M x O G y (by rw[he];exact I) (λq f=>by rw[he]at f;cases f)
  |some s1=>
   have he:=he;exact Z t aa aN gt M x O G y (by rw[he];exact I) (λq f=>by rw[he]at f;cases f;rfl)
 rintro j aa aZ al ⟨t,aN,gt,s1,M,x,O,G,y,I,he⟩ a1;obtain⟨z,W⟩:=aI (l:=sizes) al;have a2:=aC z (x5 W);have bx:z<=4611686018427387904:=a2.2;have a6:=bw C x λr e V=>by
  rcases V with rfl|rfl|V
  .obtain⟨a7,L,U,bad,a8,big,ba,told,sv,K,_⟩:=jq h;exact cc C K Φ e F
  .exact cc C R Φ e F
  .obtain⟨L,U⟩:=bR C e;omega
 refine bB Ω ?_;rw[be az.u av.i Ψ a6.ls W,dI,wrap_i64 Ω Ω];refine(l2 I).mono ?_;rintro _ ab _ ⟨⟨P,bb⟩,n,at_,rfl,bc,bz⟩;rw[bq,br];have bd:ap≠g:=Ω
 have am:=O.ac P λhe=>bd he;have bf:∃c,ah aa g bF c:=by obtain⟨a7,L,U,bad,a8,big,ba,told,sv,K,_⟩:=jq I;exact⟨_,K⟩
 have ao:=bw G P λr e he=>by
  have he:r=g:=he;obtain⟨c,K⟩:=bf;exact cc G K Φ e he
 rw[aL ci.p 0 am F];refine eE az.u av.i F λa3 bA bh bC A bi=>?_;refine iU az.u av.i F (ao.ext A) bi.ls Θ Θ λbj bk bD Q bl aq=>?_;have au:=am.ext A;have ax:=au.ac aq λhe=>cc (ao.ext A) au Φ he F;rw[aW ci.p F];refine bp (g:=ap) (o:=0) az.i Q.ls.cells.1 Q.ls.cells.2 ax Ξ λbm aA bE X=>?_;have X:=X;rw[aM];have aB:ai (λr=>leads aN r\/r=ap) bh bm:=(aq.mono λr _ h=>.inl h).trans (aA.mono λr _ h=>.inr h);have bG:=x.size;have bH:=P.size;have z3:=A.size;refine a1 _ ⟨t++[n],bj,bk,(bg 0 (z-1) s1).map (·.2),by simp[M],?_,X,bw Q aA λr e he=>?_,λr e=>?_,?_,?_⟩
 .refine (x.trans (P.mono λr _ h=>.inl h)).trans ((A.ac _).trans (aB.mono λr _ h=>?_));exact h.elim (λh=>.inr (.inr (y r h))) λh=>.inr (.inl h)
 .have he:r=ap:=he;subst he;exact cc Q ax Φ e F
 .rcases bl r e with h|h
  .exact y r h
  .omega
 .refine (bb.ext A).new aB λr e=>?_;rcases e with e|rfl
  .have:=y r e;omega
  .exact aD
 .rw[he];have bn:sizes.drop j=z::sizes.drop (j+1):=by rw[X5 al,(x4.1 W).2]
  rw[bn,Dz];cases f:bg 0 (z-1) s1 with
  |none=>rfl
  |some q=>
   obtain⟨v,bI⟩:=q;have:=bc _ f;subst this;rfl
def yA{g:Nat}(h:ay .i64 av w g v t):∀u∈pC ⟨v,t,c⟩,u.oneCell'=true:=by
 intro u hu;simp[pC]at hu;rcases hu with rfl|rfl
 .exact h.ls.cells.2
 .rfl
def Qa(sizes:Λ)(cnt i:Nat)(s0:aG)(A:List (Λ×Int))(so:Option aG):Prop:=(∃s,so=σ s/\cP (ez sizes) cnt [] s0=cP (ez sizes) (cnt-i) A s/\A.length+s.toks.length<=100000)\/(so=ν/\cP (ez sizes) cnt [] s0=ν)
def Qb{g I g1 a7 W:Nat}{H:ak}{s0:aG}{aQ ck:x1}{scope:Λ}{o:Int}{aD:List (Λ×Int)}{bY:x3->Prop}(h:bO w g B H N (σ s0))(f1:ah w I bd [aQ,szv,Δ o,ck])(f2:ay .i64 av w g1 aQ scope)(f3:ay .i64 av w a7 szv sizes)(f4:l1 w W ck aD)(f5:∀r,leads aQ r\/leads szv r->B<=r)(f6:∀r,leads aQ r->¬leads szv r)(f7:B<=I)(cU:∀z∈sizes,1<=z/\z<=aw)(cV:sizes.length<=100001)(eU:n<=4611686018427387904)(bs:0<n->aD=[]/\∀r,¬leadsTo ck r)(cW:s0.toks.length<=100000)(bZ:∀J A bx,ai (iw g B) w J->iv J B I ⟨scope,sizes,o,A⟩->bO J g B H N bx->(n<=0->A=aD/\bx=σ s0)->(0<n->bx=(cP (ez sizes) n.toNat [] s0).map (·.2)/\∀q,cP (ez sizes) n.toNat [] s0=σ q->A=q.1)->bY J):
  cq (Δ 0) w λb0 Y cX=>
     cw (α:=x1->x3->Prop) (λ(cY:x1)(b1:x3)=>
      Split cY (aF x7 (Q6 ci true (.tuple #[])) b1 λx X=>
     ad x7 (u6 bd (Γ I) 1) X λcZ=>
     ad x7 (u5 az cZ) X λb2=>
     ad x7 (U1 #[az] aj #[b2]) X λc0=>
     cq (Δ 0) X λbz Z c1=>
      ad x7 (aO .lss aj false false bz c0) Z λc2=>
      Split c2 (ad x7 (c9 az b2 bz) Z λc3=>
      ad x7 (u5 av c3) Z λc4=>
      ad x7 (aO .sub av false true c4 (Δ 1)) Z λc5=>
      an x7 na [Γ g,(Δ 0),c5] Z λb3 aE=>
      ad x7 (Y4 b3 0) aE λc6=>
      ad x7 (Y4 b3 1) aE λeV=>
      ad x7 (u6 ci x 0) aE λc7=>
      ad x7 (u5 az c7) aE λc8=>
      aF x7 (Y5 az 1 #[(0,c6)]) aE λdb dc=>
      aF x7 (Z5 #[az,az] az #[c8,db]) dc λdd b4=>
      ad x7 (u6 ci x 0) b4 λde=>
      aF x7 (l9 az de dd) b4 λ(_:Unit)b5=>
      ad x7 (aO .add aj false true bz (Δ 1)) b5 λdf=>
      c1 df b5)
       (an x7 na [Γ g,(Δ 0),(Δ 4611686018427387904)] Z λb6 G=>
     ad x7 (Y4 b6 0) G λdg=>
     ad x7 (Y4 b6 1) G λdh=>
     ad x7 (u6 bd (Γ I) 3) G λdi=>
     ad x7 (u5 ec di) G λb8=>
     ad x7 (U1 #[ec] aj #[b8]) G λdk=>
     cq (Δ 0) G λbA K dl=>
      ad x7 (aO .lss aj false false bA dk) K λdm=>
      Split dm (cw (α:=x3->Prop) (λ(au:x3)=>
       ad x7 (aO .add aj false true bA (Δ 1)) au λdn=>
       dl dn au) λb9=>
      ad x7 (c9 ec b8 bA) K λdq=>
      ad x7 (u5 ci dq) K λdr=>
      aF x7 (Q6 ci true (.tuple #[])) K λy cb=>
      aF x7 (l9 ci y dr) cb λ(_:Unit)O=>
      cw (α:=x1->x3->Prop) (λ(ds:x1)(aH:x3)=>
       Split ds (an x7 oV [Γ g,(Δ 4),dh] aH λeW cd=>
        b9 cd)
        (b9 aH)) λce=>
      ad x7 (bP (Γ g)) O λdt=>
      ad x7 (u6 bF dt 3) O λdu=>
      ad x7 (u5 aj du) O λdv=>
      ad x7 (aO .eql aj false true dv (Δ 0)) O λdw=>
      Split dw (ad x7 (u6 ci x 0) O λdx=>
       ad x7 (u5 az dx) O λdy=>
      ad x7 (u6 ci y 0) O λdz=>
      ad x7 (u5 az dz) O λdA=>
      an x7 tJ [dy,dA] O λdC cf=>
      ce dC cf)
       (ce (.bool false) O))
       (ad x7 (u6 ci x 1) K λdD=>
     aF x7 (l9 av dD dg) K λ(_:Unit)ae=>
     ad x7 (u6 bd (Γ I) 3) ae λdE=>
     ad x7 (u5 ec dE) ae λdF=>
     ad x7 (u5 ci x) ae λdG=>
     aF x7 (Y5 ec 1 #[(0,dG)]) ae λdH ba=>
     aF x7 (Z5 #[ec,ec] ec #[dF,dH]) ba λdI bC=>
     ad x7 (u6 bd (Γ I) 3) bC λdJ=>
     aF x7 (l9 ec dJ dI) bC λ(_:Unit)af=>
     ad x7 (aO .add av false true b0 (Δ 1)) af λdK=>
     cX dK af)))
       (bY b1)) λcg=>
     ad x7 (aO .lss av false false b0 (Δ n)) Y λdL=>
     Split dL (ad x7 (bP (Γ g)) Y λdO=>
     ad x7 (u6 bF dO 3) Y λdP=>
     ad x7 (u5 aj dP) Y λdQ=>
     ad x7 (aO .eql aj false true dQ (Δ 0)) Y λdR=>
     cg dR Y)
      (cg (.bool false) Y):=by
 have dS:=h.lt;refine cq.range n.toNat (λi aa=>∃A so ck W,ai (iw g B) w aa/\ah aa I bd [aQ,szv,Δ o,ck]/\ay .i64 av aa g1 aQ scope/\ay .i64 av aa a7 szv sizes/\l1 aa W ck A/\(0<n->∀r,leadsTo ck r->B<=r)/\bO aa g B H N so/\(n<=0->A=aD/\so=σ s0)/\(0<n->Qa sizes n.toNat i s0 A so)) Ω
  ⟨aD,σ s0,ck,W,ai.refl _ _,f1,f2,f3,f4,λR r C=>absurd C ((bs R).2 r),h,λ_=>⟨F,F⟩,λR=>.inl ⟨s0,F,by rw[(bs R).1];rfl,by rw[(bs R).1];simpa using cW⟩⟩ ?_ ?_
 rotate_left
 .rintro aa k ⟨A,so,ck,W,aJ,aA,bb,aK,aR,bD,ag,ch,E⟩;refine aV (λv ab=>aa=ab/\v= .bool false) ?_ ?_
  .rintro _ _ ⟨rfl,rfl⟩;rw[a8];refine bZ aa A so aJ ⟨aQ,szv,ck,g1,a7,W,aA,bb,aK,aR,f5,f6,f7⟩ ag ch λR=>?_;rcases E R with⟨s,rfl,he,_⟩|⟨rfl,he⟩
   .rw[U9]at he;rw[he];exact⟨F,λq M=>by cases M;rfl⟩
   .rw[he];exact⟨F,λq M=>by cases M⟩
  .intro aB bE;rw[aP,am];exact⟨λh=>Ω,λ_=>bE _ _ ⟨F,F⟩⟩
 rintro i aa k hi ⟨A,so,ck,W,aJ,aA,bb,aK,aR,bD,ag,ch,E⟩ hk;have R:0<n:=Ω
 refine aV (λv ab=>aa=ab/\v= .bool so.isSome) ?_ ?_
 rotate_left
 .intro aB bE;refine bB Ω ?_;rw[mG ag];exact bE _ _ ⟨F,F⟩
 rintro _ _ ⟨rfl,rfl⟩;rcases E R with⟨fx,rfl,he,eX⟩|⟨rfl,he⟩
 rotate_left
 .rw[R7,a8];refine bZ aa A ν aJ ⟨aQ,szv,ck,g1,a7,W,aA,bb,aK,aR,f5,f6,f7⟩ ag (λh=>Ω) λ_=>?_;rw[he];exact⟨F,λq M=>by cases M⟩
 rw[S1,bX];have:=ag.lt;refine bu ci.i λap X eZ aS bG=>?_;have bG:ah X ap ci [.slice ν 0 0,Δ 0]:=bG;have dT:=aA.ext aS;have cj:=aK.ext aS;have:=aS.size;have:=aA.lt;rw[aW bd.p F,ax Ψ (dT.cell F),aX az.u cj.ls];refine P9 (ag.ext aS) cj cU cV bG Ω λt Z aN gt e2 dU dV dW dX dY dZ=>?_;refine(l2 dY).mono ?_;rintro _ G _ ⟨⟨bH,bc⟩,c,at_,rfl,ea,e3⟩;rw[bq,br];have bI:ap≠g:=Ω
 have cl:I≠g:=by have:=h.lt;omega
 have eb:ai (λr=>r=g\/r=ap\/X.heap.size<=r) X G:=dU.trans (bH.mono λr _ h=>.inl h);have cm:∀{S:Nat->Prop},(∀r,S r->r=g\/aa.heap.size<=r)->∀r,S r->iu aa r\/aa.heap.size<=r:=λed r C=>(ed r C).imp (λhe=>by
  subst he;obtain⟨cn,aT,aU,bad,cp,big,cr,told,sv,E,_⟩:=jq ag;exact⟨_,_,E,Φ,Φ⟩) id
 have be:ai (λr=>r=g\/aa.heap.size<=r) aa G:=(aS.ac _).trans (eb.mono λr _ h=>h.elim .inl λh=>h.elim (λh=>.inr Ω) λh=>.inr Ω);have ct:=aA.ac be λh=>h.elim cl λh=>Ω
 obtain⟨L,bf,cu,bJ⟩:=aR.dN be (cm λr C=>C);have cz:=dV.ac bH λhe=>bI he;have cA:=bw dW bH λr C he=>by
  have he:r=g:=he;have:=dX r C;omega
 have e4:L.length=A.length:=by rw[<-bJ,r9]
 rw[aL bd.p 3 ct F,et ec.u bf];generalize cB:(bg 0 4611686018427387904 (U4 (λx=>x.snd) (gi sizes [] (σ fx)))).map (·.2)=al at bc;have:=be.size;refine cq.range L.length (λj K=>ai (λr=>r=g) G K/\bO K g B H N (if t∈(L.take j).map (·.t)then ν else al)) bf.le ⟨ai.refl _ _,by simpa using bc⟩ ?_ ?_
 .rintro j K ee cC ⟨P,aY⟩ ef;obtain⟨y,Q⟩:=aI (l:=L) cC;have bK:∃c,ah G g bF c:=by obtain⟨cn,aT,aU,bad,cp,big,cr,told,sv,E,_⟩:=jq bc;exact⟨_,E⟩
  have ao:∀r,r=g->iu G r\/G.heap.size<=r:=λr C=>by
   subst C;obtain⟨c,E⟩:=bK;exact .inl ⟨_,c,E,Φ,Φ⟩
  have bh:=yy bf P λr C=>(ao r C).imp (λ⟨e,c,E,_,aZ⟩=>⟨e,c,E,aZ⟩) id;obtain⟨e6,eg⟩:=cu y (x5 Q);have cD:=eH eg P ao;have bL:=eH cA P ao;have bj:=cz.ac P λhe=>bI he;refine bB Ω ?_;have bM:t∈(L.take (j+1)).map (·.t)↔t∈(L.take j).map (·.t)\/t=y.t:=by
   rw[u9,Q,j4,Z9,p9];simp
  refine da (λau=>ai (λr=>r=g) G au/\bO au g B H N (if t∈(L.take (j+1)).map (·.t)then ν else al)) ?_ ?_
  .rintro au eh;rw[aM];exact ef _ eh
  intro e7 cE;rw[dp F ec.u ci.i bh cC,bN ci.p ci.i F (bh.range Q)];refine bu ci.i λgy cb e8 ei ej=>?_;refine b7 (vs:=pC y) ci.i F rfl (yA cD) ej λO ek e9 em=>?_;have a1:=ei.put ek Ω;have cF:=aY.ext a1;have cG:ai (λr=>r=g) G O:=P.trans (a1.ac _);refine aV (λv aH=>∃b:Bool,v= .bool b/\Ext O aH/\(b=true->t=y.t)/\(b=false->t≠y.t\/(if t∈(L.take j).map (·.t)then ν else al)=ν)) ?_ ?_
  .rintro _ aH ⟨b,rfl,bQ,en,eo⟩;have aq:=cF.ext bQ;cases b with
   |true=>
    rw[bX];refine(pD aq Ω).mono ?_;rintro _ cd _ ⟨ep,er⟩;refine cE _ ⟨(cG.trans (bQ.ac _)).trans ep,?_⟩;rw[if_pos (bM.2 (.inr (en F)))];exact er
   |false=>
    rw[a8];refine cE _ ⟨cG.trans (bQ.ac _),?_⟩;by_cases hm:t∈(L.take j).map (·.t)
    .rw[if_pos (bM.2 (.inl hm))];rw[if_pos hm]at aq;exact aq
    .rw[if_neg hm]at aq;rcases eo rfl with aZ|cH
     .rw[if_neg (λh=>(bM.1 h).elim hm aZ)];exact aq
     .rw[if_neg hm]at cH;rw[cH]at aq ⊢;split<;>exact aq
  .intro fa cI;rw[mG cF];cases a2:(if t∈(L.take j).map (·.t)then ν else al)with
   |none=>
    rw[R7,a8];exact cI _ _ ⟨false,F,Ext.refl _,(λh=>by cases h),λ_=>.inr a2⟩
   |some fb=>
    rw[S1,bX];have es:=bj.ext a1;rw[aL ci.p 0 es F,aL ci.p 0 em F];refine(yz (bL.ls.ext a1) (cD.ls.ext a1)).mono ?_;rintro _ cf _ ⟨rfl,eu⟩;exact cI _ _ ⟨_,F,eu,λh=>of_decide_eq_true h,λh=>.inl (of_decide_eq_false h)⟩
 .rintro K ee ⟨P,aY⟩;rw[o9]at aY;have ev:L.map (·.t)=A.map (·.1):=by rw[<-bJ,S6];rfl
  rw[ev]at aY;have bK:∃c,ah G g bF c:=by obtain⟨cn,aT,aU,bad,cp,big,cr,told,sv,E,_⟩:=jq bc;exact⟨_,E⟩
  have ao:∀r,r=g->iu G r\/G.heap.size<=r:=λr C=>by
   subst C;obtain⟨c,E⟩:=bK;exact .inl ⟨_,c,E,Φ,Φ⟩
  have cJ:∀r,(r=g\/aa.heap.size<=r)->iu aa r\/aa.heap.size<=r:=cm λr C=>C;have bk:ai (λr=>r=g\/aa.heap.size<=r) aa K:=be.trans (P.mono λr _ h=>.inl h);have ew:=ct.ac P λhe=>cl he;have ey:=eH bb bk cJ;have eA:=eH aK bk cJ;have bh:=yy bf P λr C=>(ao r C).imp (λ⟨e,c,E,_,aZ⟩=>⟨e,c,E,aZ⟩) id;have eB:∀y∈L,∃gy,ay .i64 av K gy y.v y.t:=λy Q=>by
   obtain⟨gy,hm⟩:=cu y Q;exact⟨gy,eH hm P ao⟩
  have bL:=eH cA P ao;have bj:=cz.ac P λhe=>bI he;refine ca Ω ?_;rw[aW ci.p F];refine bp (g:=ap) (o:=1) av.i F rfl bj Ξ λae aC fc bR=>?_;have bR:=bR;have eC:I≠ap:=Ω
  have cK:=ew.ac aC λhe=>eC he;have fd:aa.heap.size<=ap:=Ω
  have eD:∀r,leadsTo ck r->r≠ap:=λr C=>by obtain⟨aT,aU⟩:=aR.choose_spec.1.leads C;omega
  have eE:=bh.ac aC λr C he=>eD r C he;rw[aL bd.p 3 cK F,bN ci.p ci.i F bR.range];let a:yx:=⟨aN,t,c⟩;have bl:∀{v:x1}{a6:Nat}{l:Λ},ay .i64 av K a6 v l->ay .i64 av ae a6 v l:=λhm=>bw hm aC λr C he=>by
   have he:r=ap:=he;exact cc hm bj Φ C he
  have cL:=bl bL;refine im (f:=pC) (a:=a) ec.u ci.i Ω F rfl λv45 fe ba ff U eF=>?_;have bS:=eE.ext U;refine jo (f:=pC) (a:=a) ec.u ci.i F bS (by simpa using eF.sl) (yA (cL.ext U)) Ω Ω λcM cN bC bm eI cO=>?_;have bT:=cK.ext U;have cQ:=bT.ac cO λhe=>cS bS bT Φ he;rw[aW bd.p F];refine bp (g:=I) (o:=3) ec.i (eO bm.sl).1 (eO bm.sl).2 cQ Ξ λaf cR fg bU=>?_;have bU:=bU;rw[aM];have bV:ai (λr=>leadsTo ck r\/r=I) ba af:=(cO.mono λr _ h=>.inl h).trans (cR.mono λr _ h=>.inr h);have bn:∀{v:x1}{a6:Nat}{l:Λ},ay .i64 av ba a6 v l->ay .i64 av af a6 v l:=λhm=>bw hm bV λr C V=>by
   rcases V with V|rfl
   .obtain⟨rfl,fh,E⟩:=dM bS V;exact cc hm E Φ C F
   .exact cc hm bT Φ C F
  have cT:∀r,(leadsTo ck r\/r=I)->B<=r:=λr C=>C.elim (λC=>bD R r C) λC=>C▸f7;have eJ:bO ae g B H N (if t∈A.map (·.1)then ν else al):=aY.new aC λr C=>by
   have C:r=ap:=C;omega
  have eK:=(eJ.ext U).new bV cT;have eL:ai (iw g B) aa af:=((bk.mono λr _ h=>h.elim .inl λh=>.inr Ω).trans (aC.mono λr _ h=>.inr (by have h:r=ap:=h;omega))).trans ((U.ac _).trans (bV.mono λr _ h=>.inr (cT r h)));have eM:l1 af cN cM (A++[(t,c)]):=⟨L++[a],bm.ac cR λr C he=>by
   have he:r=I:=he;subst he;exact cS bm cQ Φ C,λy Q=>by
   rcases p9.1 Q with Q|Q
   .obtain⟨gy,hm⟩:=eB y Q;exact⟨gy,bn ((bl hm).ext U)⟩
   .rw[j5.1 Q];exact⟨gt,bn (cL.ext U)⟩,by rw[Z9,bJ];rfl⟩
  refine hk _ ⟨A++[(t,c)],_,cM,cN,aJ.trans eL,bU,bn ((bl ey).ext U),bn ((bl eA).ext U),eM,λ_ r C=>?_,eK,λh=>Ω,λ_=>?_⟩
  .rcases eI r C with h|h
   .exact bD R r h
   .have:=aJ.size;have:=bk.size;have:=aC.size;have:=U.size;have:=dS.2;omega
  .have eN:n.toNat-i=(n.toNat-(i+1))+1:=Ω
   rw[eN]at he;obtain⟨eP,eQ⟩:=DD dZ ea;cases M:bg 0 aw ((gi sizes [] (σ fx)).map (·.2))with
   |none=>
    have a2:al=ν:=by rw[<-cB];show(bg 0 aw _).map _=ν;rw[M];rfl
    rw[qw (eP M)]at he;refine .inr ⟨?_,he⟩;rw[a2];split<;>rfl
   |some q=>
    have a2:al=σ q.2:=by rw[<-cB];show(bg 0 aw _).map _=_;rw[M];rfl
    have bo:=eQ q M;by_cases hm:t∈A.map (·.1)
    .rw[if_pos hm]at bo;rw[qw bo]at he;exact .inr ⟨by rw[if_pos hm],he⟩
    .rw[if_neg hm]at bo;rw[uC bo]at he;refine .inl ⟨q.2,by rw[if_neg hm,a2],he,?_⟩;cases bW:gi sizes [] (σ fx)with
     |none=>rw[bW]at M;cases M
     |some p=>
      rw[bW]at M;obtain⟨bt,s1⟩:=p;have aT:=bW;obtain⟨u,_,_,eR⟩:=xt aT;have aU:bi 0 aw s1=σ q:=M;obtain⟨fi,fj⟩:=q;have eS:=dj aU;have:=eR.1;have:=eS.1;rw[r8];simp only[T7];omega
def ll(s:aG):Prop:=s.big=false->0<=s.told/\s.told<=16384
def ln(e:Bool)(ar:Nat)(scope sizes:Λ)(f:Option aG):Option (cj×aG):=match bg 0 aw (f.map (bc (decide (6<ar)||dn sizes)))with
 |none=>ν
 |some (other,h)=>match dz sizes h with
  |none=>ν
  |some (lines,a)=>σ (⟨scope,sizes,other,lines⟩,if e=true then{a with shared:=a.shared++[(sizes,lines)]}else a)
def EY{s s':aG}{l:List (Λ×Int)}(h:dz sizes s=σ (l,s')):s'.toks.length+1<=s.toks.length/\s'.shared=s.shared:=by
 unfold dz at h;cases e:bi (-aw) aw s with
 |none=>rw[e]at h;cases h
 |some q=>
  obtain⟨n,s1⟩:=q;have p:=dj e;have z:=p.1;have r:=p.eqs.2.2;rw[e]at h;simp only at h;split at h
  .split at h
   .cases h
   .split at h
    .cases h;exact⟨Ω,r⟩
    .cases h
  .have a7:=h;have:=j7 (λ_ t=>t.toks.length<=s1.toks.length/\t.shared=s1.shared) (λacc t a bt w y=>by
    obtain⟨_,_,_,x⟩:=pn y;have h1:=x.1;have f:=x.eqs.2.2;exact⟨by have:=w.1;omega,f.trans w.2⟩) n.toNat [] (bc (decide (16384<min (s1.told+n) aw)) {s1 with told:=min (s1.told+n) aw}) l s' ⟨o4 _,F⟩ a7
   obtain⟨⟨h1,f⟩,_⟩:=this;exact⟨Ω,f.trans r⟩
def vn{g:Nat}{H:ak}{s:aG}(h:bO w g B H N (σ s)):s.toks.length<=100000/\s.shared.length+s.toks.length<=100000:=by
 obtain⟨p,w0,q,r,gs,sv,L,x,y,z,bad,A,big,C,told,h1,E,F,G,e,I,J,K,M,O,P,a,Q,f,R⟩:=h;have:=e.2.2.1;refine⟨by rw[<-a,r9];omega,by rw[<-a,<-f,r9,r9];omega⟩
def EZ(w:x3)(g h B:Nat)(H:ak)(e:Option (cj×aG))(v:x1)(J:x3):Prop:=∃f x a,ai (λr=>r=g\/H r\/r=h\/B<=r) w J/\v= .agg (fw f).toArray/\gZ J f x/\bO J g J.heap.size a 100001 (e.map (·.2))/\(∀q,e=σ q->x=q.1)/\(∀r,H r->a r)/\(∀r,a r->H r\/B<=r)/\∀r,a r->r<J.heap.size
def E0{g G ar:Nat}{H:ak}{R:Option aG}{bh:Bool}{dE:Int}{scope:Λ}{Q:x1->x3->Prop}(h:bO w g B H 100000 R)(dF:iv w B G ⟨scope,sizes,0,[]⟩)(fo:∀c,ah w G bd c->c[3]?=σ (.slice ν 0 0))(dG:∀z∈sizes,1<=z/\z<=aw)(fp:sizes.length<=100001)(dH:ah w N bd [.slice ν 0 0,.slice ν 0 0,Δ 0,.slice ν 0 0])(jA:N<B)(cH:¬H N)(cI:∀r,H r->r<B)(fq:∀aq,R=σ aq->ll aq)(fs:∀v J,EZ w g N B H (ln bh ar scope sizes R) v J->Q v J):
  ad x7 (u6 bd (Γ G) 1) w λft=>
  ad x7 (u5 az ft) w λdJ=>
  ad x7 (U1 #[az] aj #[dJ]) w λfu=>
  bV (Δ 1) (Δ 0) w λdK cZ aH fv=>
   ad x7 (aO .lss aj false false cZ fu) aH λfx=>
   Split fx (cw (α:=x1->x3->Prop) (λ(fy:x1)(dL:x3)=>
    ad x7 (aO .add aj false true cZ (Δ 1)) dL λfz=>
    fv fy fz dL) λdO=>
   ad x7 (c9 az dJ cZ) aH λfA=>
   ad x7 (u5 av fA) aH λdP=>
   cw (α:=x1->x3->Prop) (λ(fB:x1)(cJ:x3)=>
    ad x7 (aO .mul av false false dK fB) cJ λdQ=>
    ad x7 (aO .gtr av false true dQ (Δ 4096)) cJ λfD=>
    Split fD (dO (Δ 4097) cJ)
     (dO dQ cJ)) λdR=>
   ad x7 (aO .gtr av false true dP (Δ 4096)) aH λfE=>
   Split fE (dR (Δ 4097) aH)
    (dR dP aH))
    (cw (α:=x3->Prop) (λ(b0:x3)=>
   an x7 na [(Γ g),(Δ 0),(Δ 4611686018427387904)] b0 λdS bD=>
   ad x7 (Y4 dS 0) bD λfF=>
   ad x7 (Y4 dS 1) bD λjB=>
   ad x7 (u6 bd (Γ G) 2) bD λfG=>
   aF x7 (l9 av fG fF) bD λ(_:Unit)bj=>
   an x7 na [(Γ g),(Δ (-4611686018427387904)),(Δ 4611686018427387904)] bj λdT O=>
   ad x7 (Y4 dT 0) O λbE=>
   ad x7 (Y4 dT 1) O λdU=>
   ad x7 (bP (Γ g)) O λfH=>
   ad x7 (u6 bF fH 3) O λfI=>
   ad x7 (u5 aj fI) O λfJ=>
   ad x7 (aO .neq aj false true fJ (Δ 0)) O λfK=>
   Split fK (ad x7 (u5 bd (Γ G)) O λb1=>
    aF x7 (l9 bd (Γ N) b1) O λ(_:Unit)bk=>
    ad x7 (do loadVar bd (<-asAddr (Γ N))) bk λb2=>
 Q b2 bk)
    (cw (α:=x3->Prop) (λ(aY:x3)=>
    cq (Δ 0) aY λdV bt fL=>
     cw (α:=x1->x3->Prop) (λ(fN:x1)(b3:x3)=>
      Split fN (aF x7 (Q6 ci true (.tuple #[])) b3 λx cK=>
     ad x7 (u6 bd (Γ G) 1) cK λfO=>
     ad x7 (u5 az fO) cK λdW=>
     ad x7 (U1 #[az] aj #[dW]) cK λfP=>
     cq (Δ 0) cK λc0 bG fQ=>
      ad x7 (aO .lss aj false false c0 fP) bG λfR=>
      Split fR (ad x7 (c9 az dW c0) bG λfS=>
      ad x7 (u5 av fS) bG λfU=>
      ad x7 (aO .sub av false true fU (Δ 1)) bG λfV=>
      an x7 na [(Γ g),(Δ 0),fV] bG λdX b4=>
      ad x7 (Y4 dX 0) b4 λfW=>
      ad x7 (Y4 dX 1) b4 λjC=>
      ad x7 (u6 ci x 0) b4 λfX=>
      ad x7 (u5 az fX) b4 λfY=>
      aF x7 (Y5 az 1 #[(0,fW)]) b4 λfZ gb=>
      aF x7 (Z5 #[az,az] az #[fY,fZ]) gb λgc dY=>
      ad x7 (u6 ci x 0) dY λgd=>
      aF x7 (l9 az gd gc) dY λ(_:Unit)dZ=>
      ad x7 (aO .add aj false true c0 (Δ 1)) dZ λgf=>
      fQ gf dZ)
       (an x7 na [(Γ g),(Δ 0),(Δ 4611686018427387904)] bG λea bH=>
     ad x7 (Y4 ea 0) bH λgg=>
     ad x7 (Y4 ea 1) bH λgh=>
     ad x7 (u6 bd (Γ G) 3) bH λgi=>
     ad x7 (u5 ec gi) bH λeb=>
     ad x7 (U1 #[ec] aj #[eb]) bH λgj=>
     cq (Δ 0) bH λc1 bI gk=>
      ad x7 (aO .lss aj false false c1 gj) bI λgl=>
      Split gl (cw (α:=x3->Prop) (λ(ed:x3)=>
       ad x7 (aO .add aj false true c1 (Δ 1)) ed λgm=>
       gk gm ed) λee=>
      ad x7 (c9 ec eb c1) bI λgn=>
      ad x7 (u5 ci gn) bI λgp=>
      aF x7 (Q6 ci true (.tuple #[])) bI λy gq=>
      aF x7 (l9 ci y gp) gq λ(_:Unit)aJ=>
      cw (α:=x1->x3->Prop) (λ(gu:x1)(ef:x3)=>
       Split gu (an x7 oV [(Γ g),(Δ 4),gh] ef λjD gv=>
        ee gv)
        (ee ef)) λeg=>
      ad x7 (bP (Γ g)) aJ λgw=>
      ad x7 (u6 bF gw 3) aJ λgx=>
      ad x7 (u5 aj gx) aJ λgA=>
      ad x7 (aO .eql aj false true gA (Δ 0)) aJ λgB=>
      Split gB (ad x7 (u6 ci x 0) aJ λgC=>
       ad x7 (u5 az gC) aJ λgD=>
      ad x7 (u6 ci y 0) aJ λgE=>
      ad x7 (u5 az gE) aJ λgF=>
      an x7 tJ [gD,gF] aJ λgH gI=>
      eg gH gI)
       (eg (.bool false) aJ))
       (ad x7 (u6 ci x 1) bI λgJ=>
     aF x7 (l9 av gJ gg) bI λ(_:Unit)cL=>
     ad x7 (u6 bd (Γ G) 3) cL λgK=>
     ad x7 (u5 ec gK) cL λgL=>
     ad x7 (u5 ci x) cL λgM=>
     aF x7 (Y5 ec 1 #[(0,gM)]) cL λgN gO=>
     aF x7 (Z5 #[ec,ec] ec #[gL,gN]) gO λgP eh=>
     ad x7 (u6 bd (Γ G) 3) eh λgQ=>
     aF x7 (l9 ec gQ gP) eh λ(_:Unit)ei=>
     ad x7 (aO .add av false true dV (Δ 1)) ei λgR=>
     fL gR ei)))
       (cw (α:=x3->Prop) (λ(ag:x3)=>
     ad x7 (u5 bd (Γ G)) ag λgS=>
     aF x7 (l9 bd (Γ N) gS) ag λ(_:Unit)ej=>
     ad x7 (do loadVar bd (<-asAddr (Γ N))) ej λgU=>
 Q gU ej) λek=>
    Split (.bool bh) (ey b3 λau=>
     ad x7 (bP (Γ g)) au λc2=>
     ad x7 (u6 bF c2 8) au λc3=>
     ad x7 (u5 dy c3) au λem=>
     ad x7 (u5 bd (Γ G)) au λgV=>
     aF x7 (Y5 dy 1 #[(0,gV)]) au λgW aZ=>
     (Ext au aZ\/cD x7 (u5 dy c3) em aZ/\cD x7 (u6 bF c2 8) c3 aZ/\cD x7 (bP (Γ g)) c2 aZ/\True)/\
     aF x7 (Z5 #[dy,dy] dy #[em,gW]) aZ λgX cM=>
      ad x7 (bP (Γ g)) cM λgY=>
      ad x7 (u6 bF gY 8) cM λg0=>
      aF x7 (l9 dy g0 gX) cM λ(_:Unit)bu=>
      ek bu)
     (ek b3))) λen=>
     ad x7 (aO .lss av false false dV bE) bt λg2=>
     Split g2 (ad x7 (bP (Γ g)) bt λg3=>
     ad x7 (u6 bF g3 3) bt λg4=>
     ad x7 (u5 aj g4) bt λg5=>
     ad x7 (aO .eql aj false true g5 (Δ 0)) bt λg6=>
     en g6 bt)
      (en (.bool false) bt)) λeo=>
   ad x7 (aO .lss av false true bE (Δ 0)) O λg7=>
   Split g7 (cw (α:=x1->x3->Prop) (λ(g8:x1)(Y:x3)=>
     Split g8 (an x7 oV [(Γ g),(Δ 4),dU] Y λjE c4=>
     ad x7 (u5 bd (Γ G)) c4 λg9=>
     aF x7 (l9 bd (Γ N) g9) c4 λ(_:Unit)ep=>
     ad x7 (do loadVar bd (<-asAddr (Γ N))) ep λha=>
 Q ha ep)
     (ad x7 (bP (Γ g)) Y λhb=>
    ad x7 (u6 bF hb 8) Y λhc=>
    ad x7 (u5 dy hc) Y λhd=>
    ad x7 (Op.unary .neg bE) Y λhg=>
    ad x7 (aO .sub av false true hg (Δ 1)) Y λhh=>
    ad x7 (c9 dy hd hh) Y λhj=>
    ad x7 (u6 bd hj 3) Y λhl=>
    ad x7 (u5 ec hl) Y λhn=>
    ad x7 (u6 bd (Γ G) 3) Y λho=>
    aF x7 (l9 ec ho hn) Y λ(_:Unit)er=>
    eo er)) λes=>
    ey O λP=>
    ad x7 (Op.unary .neg bE) P λhp=>
    ad x7 (bP (Γ g)) P λhq=>
    ad x7 (u6 bF hq 8) P λhr=>
    ad x7 (u5 dy hr) P λhs=>
    ad x7 (U1 #[dy] aj #[hs]) P λht=>
    ad x7 (aO .gtr av false false hp ht) P λhy=>
    Split hy (es (.bool true) P)
    (ad x7 (bP (Γ g)) P λhz=>
    ad x7 (u6 bF hz 8) P λhA=>
    ad x7 (u5 dy hA) P λhB=>
    ad x7 (Op.unary .neg bE) P λhC=>
    ad x7 (aO .sub av false true hC (Δ 1)) P λhD=>
    ad x7 (c9 dy hB hD) P λhE=>
    ad x7 (u6 bd hE 1) P λhF=>
    ad x7 (u5 az hF) P λhG=>
    ad x7 (u6 bd (Γ G) 1) P λhH=>
    ad x7 (u5 az hH) P λhI=>
    an x7 tJ [hG,hI] P λhJ c5=>
    ad x7 (Op.unary .not hJ) c5 λhK=>
    es hK c5))
    (ad x7 (bP (Γ g)) O λhL=>
    ad x7 (u6 bF hL 7) O λhM=>
    ad x7 (u5 av hM) O λhN=>
    ad x7 (aO .add av false false hN bE) O λhO=>
    ad x7 (bP (Γ g)) O λhP=>
    ad x7 (u6 bF hP 7) O λhQ=>
    aF x7 (l9 av hQ hO) O λ(_:Unit)aK=>
    cw (α:=x3->Prop) (λ(aN:x3)=>
     ad x7 (bP (Γ g)) aN λhR=>
     ad x7 (u6 bF hR 7) aN λhS=>
     ad x7 (u5 av hS) aN λhT=>
     ad x7 (aO .gtr av false true hT (Δ 16384)) aN λhU=>
     an x7 tI [(Γ g),hU,dU] aN λjF c6=>
     eo c6) λeu=>
    ad x7 (bP (Γ g)) aK λhV=>
    ad x7 (u6 bF hV 7) aK λhW=>
    ad x7 (u5 av hW) aK λhX=>
    ad x7 (aO .gtr av false true hX (Δ 4611686018427387904)) aK λhY=>
    Split hY (ad x7 (bP (Γ g)) aK λhZ=>
    ad x7 (u6 bF hZ 7) aK λh0=>
    aF x7 (l9 av h0 (Δ 4611686018427387904)) aK λ(_:Unit)ev=>
    eu ev)
    (eu aK)))) λew=>
  ad x7 (aO .gtr av false true (Δ (ar:Int)) (Δ 6)) aH λh2=>
  Split h2 (an x7 tI [(Γ g),(.bool true),(Δ dE)] aH λjG h3=>
  ew h3)
   (ad x7 (aO .gtr av false true dK (Δ 4096)) aH λh4=>
  an x7 tI [(Γ g),h4,(Δ dE)] aH λjH h5=>
  ew h5)):=by
 have h6:=h.lt;have eA:N≠g:=λhe=>by
  obtain⟨aA,ab,ae,bad,aC,big,aD,told,sv,E,_⟩:=jq h;subst he;exact absurd (eG E dH) Φ
 obtain⟨aQ,szv,ck,g1,cN,cO,f1,f2,f3,f4,f5,f6,f7⟩:=id dF;have b5:G≠g:=Ω
 have ret:∀{I:x3}{x:cj}{S:ak},iv I B G x->ah I N bd [.slice ν 0 0,.slice ν 0 0,Δ 0,.slice ν 0 0]->ai (λr=>r=g\/H r\/B<=r) w I->bO I g I.heap.size S 100001 ((ln bh ar scope sizes R).map (·.2))->(∀q,ln bh ar scope sizes R=σ q->x=q.1)->¬S N->(∀r,H r->S r)->(∀r,S r->H r\/B<=r)->(∀r,S r->r<I.heap.size)->
   (ad x7 (u5 bd (Γ G)) I λb1=>
    aF x7 (l9 bd (Γ N) b1) I λ(_:Unit)bk=>
    ad x7 (do loadVar bd (<-asAddr (Γ N))) bk λb2=>Q b2 bk):=by
  intro I x S c7 db h7 h8 U h9 dc ia ib;obtain⟨aQ,szv,ck,g1,cN,cO,dd,de,df,dg,dh,eB,eC⟩:=c7;let af:kk:=⟨aQ,szv,x.other,ck⟩;have b6:gZ I af x:=⟨⟨g1,de⟩,⟨cN,df⟩,F,cO,dg⟩;rw[bN bd.p bd.i F (show I.rangeAt G 0 (fw af)from dd.range)];refine b7 (vs:=fw af) bd.i F rfl b6.one db λjI di ic ie=>?_;rw[fM bd.p bd.i F ie.range];have ig:∀r,r=N->iu I r\/I.heap.size<=r:=λr C=>by subst C;exact .inl ⟨_,_,db,Φ,Φ⟩
  refine fs _ _ ⟨af,x,S,(h7.mono λr _ h=>?_).trans (di.mono λr _ h=>.inr (.inr (.inl h))),F,b6.dN di ig,h8.dN di λr C=>.inl ?_,U,dc,ia,λr C=>by rw[ic];exact ib r C⟩
  .exact h.elim .inl λh=>h.elim (λh=>.inr (.inl h)) λh=>.inr (.inr (.inr h))
  .have C:r=N:=C;subst C;exact⟨_,_,db,Φ,Φ,Φ,Φ,h9⟩
 have dk:∀{I:x3},ai (iw g B) w I->ah I N bd [.slice ν 0 0,.slice ν 0 0,Δ 0,.slice ν 0 0]:=λa1=>dH.ac a1 λV=>V.elim eA λh=>Ω
 have dl:∀{I:x3},ai (iw g B) w I->ai (λr=>r=g\/H r\/B<=r) w I:=λa1=>a1.mono λr _ h=>h.elim .inl λh=>.inr (.inr h);have eD:∀{I:x3}{eE:Nat}{S:ak}{so:Option aG},bO I g eE S 100000 so->bO I g eE S 100001 so:=λC=>by
  obtain⟨b8,w0,aA,bl,gs,sv,L,aE,ab,ae,bad,aC,big,aD,told,h1,ih,ii,ij,ik,dm,dq⟩:=C;refine⟨Ω,w0,aA,bl,gs,sv,L,aE,ab,ae,bad,aC,big,aD,told,h1,ih,ii,ij,ik,dm,?_⟩;rename_i so;cases so with
  |none=>exact⟨dq.1,by have:=dq.2;omega⟩
  |some s=>exact dq
 have eF:∀{I:x3}{x:cj},iv I B G x->ai (iw g B) w I->bO I g B H 100000 ν->ln bh ar scope sizes R=ν->(ad x7 (u5 bd (Γ G)) I λb1=>
    aF x7 (l9 bd (Γ N) b1) I λ(_:Unit)bk=>
    ad x7 (do loadVar bd (<-asAddr (Γ N))) bk λb2=>Q b2 bk):=λc7 a1 C eI=>
  ret c7 (dk a1) (dl a1) (by rw[eI];exact eD C.base) (λq W=>by rw[eI]at W;cases W) cH (λ_ h=>h) (λ_ h=>.inl h) λr C=>by have:=cI r C;have:=a1.size;omega
 rw[aL bd.p 1 f1 F,aX az.u f3.ls];refine P8 f3.ls (λz il=>(dG z il).1) λc a1=>?_;refine da (λb0=>ai (λr=>r=g) w b0/\bO b0 g B H 100000 (R.map (bc (decide (6<ar)||dn sizes)))) ?_ ?_
 rotate_left
 .intro aB a2;rw[bL,am];refine⟨λdm=>?_,λdm=>?_⟩
  .refine (oo h).mono ?_;rintro _ aa _ a6;refine a2 _ ⟨a6.1,?_⟩;rw[decide_eq_true (show 6<ar by omega),Bool.true_or];exact a6.2
  .rw[bL];refine(oo h).mono ?_;rintro _ aa _ a6;refine a2 _ ⟨a6.1,?_⟩;have e:dn sizes=decide (4096<c):=by rw[U6,decide_eq_true_eq];exact a1.symm
   rw[decide_eq_false (show¬6<ar by omega),Bool.false_or,e];exact a6.2
 rintro b0 ⟨io,ip⟩;refine(l2 ip).mono ?_;rintro _ bD _ ⟨⟨iq,ir⟩,o,jJ,rfl,it,jK⟩;rw[bq,br];have bJ:ai (λr=>r=g) w bD:=io.trans iq;have jL:=dF.dN bJ (l3 h);have f123:=f1.ac bJ λhe=>b5 he;rw[aW bd.p F];refine bp (g:=G) (o:=2) av.i F rfl f123 Ξ λbj b9 jM bK=>?_;have bK:ah bj G bd [aQ,szv,Δ o,ck]:=bK;have dr:∀r,r=g->iu w r\/w.heap.size<=r:=λr C=>(l3 h r C).imp (λ⟨e,c,E,a7,ba,_⟩=>⟨e,c,E,a7,ba⟩) id;have bQ:∀{I:x3}{c:List x1},ah I G bd c->∀r,r=G->iu I r\/I.heap.size<=r:=λE r C=>by subst C;exact .inl ⟨_,_,E,Φ,Φ⟩
 have f224:=eH (eH f2 bJ dr) b9 (bQ f123);have f324:=eH (eH f3 bJ dr) b9 (bQ f123);have eJ:=(f4.dN bJ dr).dN b9 (bQ f123);have bR:=ir.new b9 λr C=>by have C:r=G:=C;omega
 have eK:ai (iw g B) w bj:=(bJ.mono λr _ h=>.inl h).trans (b9.mono λr _ h=>.inr (by have h:r=G:=h;omega));refine(l2 bR).mono ?_;rintro _ O _ ⟨⟨bm,bb⟩,n,jN,rfl,ix,eL⟩;rw[bq,br,sF bb];have eM:ai (iw g B) w O:=eK.trans (bm.mono λr _ h=>.inl h);have iy:iv bj B G ⟨scope,sizes,o,[]⟩:=⟨aQ,szv,ck,g1,cN,cO,bK,f224,f324,eJ,f5,f6,f7⟩;have eN:=iy.dN bm (l3 bR);cases be:bg (-4611686018427387904) 4611686018427387904 (U4 (λx=>x.snd) (bg 0 4611686018427387904 (R.map (bc (decide (6<ar)||dn sizes)))))with
 |none=>
  rw[be]at bb;rw[Option.map_none,R7,V8,bX];refine eF eN eM bb ?_;unfold ln;cases X:bg 0 aw (R.map (bc (decide (6<ar)||dn sizes)))with
  |none=>rfl
  |some p=>
   obtain⟨o',M⟩:=p;have iz:bg 0 4611686018427387904 (R.map (bc (decide (6<ar)||dn sizes)))=σ (o',M):=X;rw[iz]at be;have e:bi (-aw) aw M=ν:=be;simp only;unfold dz;rw[e]
 |some q=>
 obtain⟨jO,K⟩:=q;have iA:=ix _ be;subst iA;rw[be]at bb;have bb:bO O g B H 100000 (σ K):=bb;rw[Y1,S1,X2,a8];obtain⟨M,X,ds⟩:∃M,bg 0 aw (R.map (bc (decide (6<ar)||dn sizes)))=σ (o,M)/\bi (-aw) aw M=σ (n,K):=by
  cases X:bg 0 4611686018427387904 (R.map (bc (decide (6<ar)||dn sizes)))with
  |none=>rw[X]at be;cases be
  |some p=>
   obtain⟨o',M⟩:=p;have:=it _ X;subst this;rw[X]at be;exact⟨M,X,be⟩
 have ca:ln bh ar scope sizes R=match dz sizes M with
   |none=>ν
   |some (lines,K)=>σ (⟨scope,sizes,o,lines⟩,if bh=true then{K with shared:=K.shared++[(sizes,lines)]}else K):=by
  unfold ln;rw[X]
 have iB:=(jj ds).1;have iC: -4611686018427387904<=n/\n<=4611686018427387904:=iB;have eP:dz sizes M=(if n<0 then match K.shared[(-n-1).toNat]? with
   |none=>ν
   |some (z,l)=>if z=sizes then σ (l,K)else ν
  else cP (ez sizes) n.toNat [] (bc (decide (16384<min (K.told+n) aw)) {K with told:=min (K.told+n) aw})):=by
  unfold dz;rw[ds];rfl
 have iD:ll K:=by
  cases bS:R with
  |none=>rw[bS]at X;cases X
  |some aq=>
   rw[bS]at X;have dt:bi 0 aw (bc (decide (6<ar)||dn sizes) aq)=σ (o,M):=X;have cQ:=(dj dt).eqs;have cb:=(dj ds).eqs;intro E;rw[cb.2.1,cQ.2.1]at E;rw[cb.1,cQ.1];exact fq aq bS (R5.1 E).1
 refine da (λaY=>ai (iw g B) w aY/\∃bw cc cR bn,ah aY G bd [aQ,szv,Δ o,bw]/\ay .i64 av aY g1 aQ scope/\ay .i64 av aY cN szv sizes/\l1 aY cc bw cR/\bO aY g B H 100000 (σ bn)/\(0<n->cR=[]/\∀r,¬leadsTo bw r)/\dz sizes M=(if n<=0 then σ (cR,bn)else cP (ez sizes) n.toNat [] bn)) ?_ ?_
 .rintro aY ⟨iE,bw,cc,cR,bn,dd,de,df,dg,dh,eB,eC⟩;refine Qb dh dd de df dg f5 f6 f7 dG fp iC.2 eB (vn dh).1 λb3 A du iF eQ eR iG cd=>?_;have bT:=iE.trans iF;have bx:du=(dz sizes M).map (·.2)/\∀q,dz sizes M=σ q->A=q.1:=by
   rw[eC];by_cases dv:n<=0
   .obtain⟨ab,ae⟩:=iG dv;rw[if_pos dv];exact⟨ae,λq W=>by cases W;exact ab⟩
   .rw[if_neg dv];exact cd Ω
  obtain⟨bx,a6⟩:=bx;cases bh with
  |false=>
   refine da (λag=>b3=ag) ?_ ?_
   .rintro _ rfl;refine ret eQ (dk bT) (dl bT) ?_ ?_ cH (λ_ h=>h) (λ_ h=>.inl h) λr C=>by have:=cI r C;have:=bT.size;omega
    .have:(ln false ar scope sizes R).map (·.2)=du:=by
      rw[ca,bx];cases dz sizes M with
      |none=>rfl
      |some p=>rfl
     rw[this];exact eD eR.base
    .intro q W;rw[ca]at W;cases al:dz sizes M with
     |none=>rw[al]at W;cases W
     |some p=>
      rw[al]at W;have:=a6 p al;cases W;rw[this]
   .intro aB a2;rw[a8];exact a2 _ F
  |true=>
   refine da (λag=>∃S,ai (λr=>r=g\/H r\/B<=r) w ag/\iv ag B G ⟨scope,sizes,o,A⟩/\ah ag N bd [.slice ν 0 0,.slice ν 0 0,Δ 0,.slice ν 0 0]/\bO ag g ag.heap.size S 100001 ((ln true ar scope sizes R).map (·.2))/\¬S N/\(∀r,H r->S r)/\(∀r,S r->H r\/B<=r)/\∀r,S r->r<ag.heap.size) ?_ ?_
   .rintro ag ⟨S,iH,iI,a3,a4,a5,iJ,iK,iL⟩;refine ret iI a3 iH a4 ?_ a5 iJ iK iL;intro q W;rw[ca]at W;cases al:dz sizes M with
    |none=>rw[al]at W;cases W
    |some p=>
     rw[al]at W;have:=a6 p al;cases W;rw[this]
   .intro aB a2;rw[bX];intro au ce _ _;have iM:=eR.ext ce;have iN:=eQ.ext ce;have iO:=(dk bT).ext ce;obtain⟨b8,w0,aA,bl,gs,sv,L,aE,ab,ae,bad,aC,big,aD,told,cT,bz,bA,ao,bB,bo,bC⟩:=id iM;have iP:=bB.g bz bA;obtain⟨⟨iQ,eS⟩,aR,cf,cg⟩:=id iP;have iR:∀r,leadsTo sv r->r<B:=λr C=>cI r (bo r C);rw[aT bF.p 8 ao F];obtain⟨eU,eV,bw,eX,eY,cc,eZ,e0,e1,e2,iS,iT,iU⟩:=id iN;let af:kk:=⟨eU,eV,o,bw⟩;let x:cj:=⟨scope,sizes,o,A⟩;have b6:gZ au af x:=⟨⟨eX,e0⟩,⟨eY,e1⟩,F,cc,e2⟩;rw[bN bd.p bd.i F (show au.rangeAt G 0 (fw af)from eZ.range)];refine im (f:=fw) (a:=af) dy.u bd.i Ω F rfl λjP jQ aZ jR Z iV=>?_;refine⟨.inl Z,?_⟩;have jS:L.length<=100000:=by
     cases du with
     |none=>exact bC.2
     |some s=>have:=bC.2.2.2.2.2.2.2.2;omega
    have dw:=aR.ext Z;refine jo (f:=fw) (a:=af) dy.u bd.i F dw (by simpa using iV.sl) (b6.ext Z).one Ω Ω λe3 iX cM ch iY e4=>?_;have dx:=ao.ext Z;have e5:=dx.ac e4 λhe=>cS dw dx Φ he;rw[bZ,aW bF.p F];refine bp (g:=g) (o:=8) dy.i (eO ch.sl).1 (eO ch.sl).2 e5 (by simp[iW]) λbu dA jT cU=>?_;have cU:ah bu g bF (iW aA ab ae bad aC big aD told e3):=cU;have aS:ai (λr=>leadsTo sv r\/r=g) aZ bu:=(e4.mono λr _ h=>.inl h).trans (dA.mono λr _ h=>.inr h);have cV:∀r,(leadsTo sv r\/r=g)->iu aZ r\/aZ.heap.size<=r:=λr C=>by
     rcases C with C|rfl
     .obtain⟨rfl,c,E⟩:=dM dw C;exact .inl ⟨_,c,E,Φ,Φ⟩
     .exact .inl ⟨_,_,dx,Φ,Φ⟩
    have e6:∀{af x},gZ au af x->gZ bu af x:=λhe=>(he.ext Z).dN aS cV;have z50:=ce.size;have jU:=Z.size;have z53:=aS.size;have jV:=bT.size;have jW:=h6.2;refine a2 _ ⟨λr=>H r\/(au.heap.size<=r/\r<bu.heap.size),?_,?_,?_,?_,?_,λr C=>.inl C,λr C=>C.imp id λC=>Ω,λr C=>?_⟩
    .refine (((dl bT).trans (ce.ac _)).trans (Z.ac _)).trans (aS.mono λr _ C=>?_);exact C.elim (λC=>.inr (.inl (bo r C))) .inl
    .have iZ:=eZ.ext Z;refine⟨eU,eV,bw,eX,eY,cc,iZ.ac aS λC=>?_,eH (e0.ext Z) aS cV,eH (e1.ext Z) aS cV,(e2.dN (Z.ac λ_=>False) λ_ h=>h.elim).dN aS cV,iS,iT,iU⟩;rcases C with C|C
     .have:=iR _ C;omega
     .exact b5 C
    .exact (iO.ext Z).ac aS λC=>C.elim (λC=>cH (bo _ C)) eA
    .refine⟨Ω,bu,aA,bl,iX,e3,L++[af],aE++[x],ab,ae,bad,aC,big,aD,told,F,ai.refl _ _,⟨_,cU⟩,cU,⟨⟨?_,λr C=>?_⟩,ch.ac dA λr C he=>?_,by rw[r8,r8,cf];rfl,λi i0 i1 hi cl=>?_⟩,λr C=>?_,?_⟩
     .refine (iQ.ac (Z.ac λ_=>False) λ_ _ h=>h).ac aS λr C V=>?_;obtain⟨c,E⟩:=eS r C;rcases V with V|rfl
      .obtain⟨rfl,i2,dC⟩:=dM aR V;exact absurd (eG E dC) Φ
      .exact absurd (eG E ao) Φ
     .obtain⟨c,E⟩:=eS r C;refine⟨c,(E.ext Z).ac aS λV=>?_⟩;rcases V with V|rfl
      .obtain⟨rfl,i2,dC⟩:=dM aR V;exact absurd (eG E dC) Φ
      .exact absurd (eG E ao) Φ
     .have he:r=g:=he;subst he;exact cS ch e5 Φ C
     .by_cases i3:i<L.length
      .rw[X0 i3]at hi;rw[X0 Ω]at cl;exact e6 (cg i i0 i1 hi cl)
      .rw[X1 Ω]at hi;rw[X1 Ω]at cl;have i4:i-L.length=0:=by have:=(x4.1 hi).1;simp at this;omega
       have dc:i-aE.length=0:=Ω
       rw[i4]at hi;rw[dc]at cl;cases hi;cases cl;exact e6 b6
     .rcases iY r C with h|h
      .exact .inl (bo r h)
      .have:=(ch.leads C);have:=dA.size;exact .inr ⟨Ω,Ω⟩
     .rw[ca];cases al:dz sizes M with
      |none=>
       rw[al]at bx;rw[bx]at bC;exact⟨bC.1,by rw[r8];simp;have:=bC.2;omega⟩
      |some p=>
       obtain⟨lines,bn⟩:=p;rw[al]at bx;rw[bx]at bC;have i5:=a6 _ al;obtain⟨cm,cn,cp,cr,ct,bU,cu,aU,cW⟩:=id bC;have e7:=EY al;refine⟨cm,cn,cp,cr,ct,bU,cu,?_,?_⟩
       .show (aE++[x]).map _=bn.shared++[(sizes,lines)];rw[Z9,aU];simp only[x,T3,List.map_nil];rw[i5]
       .have jX:M.shared.length+M.toks.length<=100000:=by
         cases bS:R with
         |none=>rw[bS]at X;cases X
         |some aq=>
          rw[bS]at X h;have dt:bi 0 aw (bc (decide (6<ar)||dn sizes) aq)=σ (o,M):=X;have t9:=dj dt;have cQ:=t9.1;have cb:=t9.eqs.2.2;have t3:=(vn h).2;have e8:(bc (decide (6<ar)||dn sizes) aq).toks=aq.toks:=rfl;have e9:(bc (decide (6<ar)||dn sizes) aq).shared=aq.shared:=rfl;rw[e8]at cQ;rw[e9]at cb;rw[cb];omega
        have fa:L.length=bn.shared.length:=by rw[<-aU,r9,cf]
        have i6:bl.length=bn.toks.length:=by rw[<-bU,r9]
        rw[e7.2]at fa;rw[r8,fa,i6];simp only[T7];have:=e7.1;omega
    .rintro (C|C)
     .exact cH C
     .omega
    .rcases C with C|C
     .have:=cI r C;omega
     .exact C.2
 .intro aB a2;rw[aP,am];refine⟨λi7=>?_,λi8=>?_⟩
  .
   refine aV (λv Y=>Ext O Y/\∃b:Bool,v= .bool b/\(b=true->dz sizes M=ν)/\(b=false->∃lines,dz sizes M=σ (lines,K)/\K.shared[(-n-1).toNat]?=σ (sizes,lines))) ?_ ?_
   .rintro _ Y ⟨bW,b,rfl,i9,ja⟩;have cX:=bb.ext bW;have jb:=eN.ext bW;have fb:=eM.trans (bW.ac _);cases b with
    |true=>
     rw[bX];refine(pD cX Ω).mono ?_;rintro _ c4 _ ⟨fc,jc⟩;exact eF (jb.dN fc (l3 cX)) (fb.trans (fc.mono λr _ h=>.inl h)) jc (by rw[ca,i9 F])
    |false=>
     rw[a8];obtain⟨lines,jd,bY⟩:=ja F;obtain⟨b8,w0,aA,bl,gs,sv,L,aE,ab,ae,bad,aC,big,aD,told,cT,bz,bA,ao,bB,bo,cm,cn,cp,cr,ct,bU,cu,aU,cW⟩:=id cX;obtain⟨_,aR,cf,cg⟩:=bB.g bz bA;have cz:(-n-1).toNat<L.length:=by
      have h1:=(x4.1 bY).1;rw[<-aU,r9]at h1;omega
     obtain⟨hk,cA⟩:∃h,L[(-n-1).toNat]?=σ h:=⟨_,x6 cz⟩;obtain⟨bf,cB⟩:=aI (l:=aE) (i:=(-n-1).toNat) Ω;obtain⟨_,_,_,je,ap⟩:=cg _ hk bf cA cB;have jf:bf.lines=lines:=by
      rw[<-aU,x8,cB]at bY;have:=Z3 bY;exact(Q9.inj this).2
     rw[aT bF.p 8 ao F,ng,wrap_i64 Ω Ω,dI,wrap_i64 Ω Ω,dp (i:=(-n-1).toNat) Ω dy.u bd.i aR cz,aW bd.p F,ax Ψ (aR.range cA 3 _ F)];obtain⟨jY,fd,jZ,j1⟩:=id ap;have cY:ah Y G bd [aQ,szv,Δ o,ck]:=(bK.ac bm λhe=>b5 he).ext bW;have jg:=(eH f224 bm λr C=>(l3 bR r C).imp (λ⟨e,c,E,a7,ba,_⟩=>⟨e,c,E,a7,ba⟩) id).ext bW;have jh:=(eH f324 bm λr C=>(l3 bR r C).imp (λ⟨e,c,E,a7,ba,_⟩=>⟨e,c,E,a7,ba⟩) id).ext bW;rw[aW bd.p F];refine bp (g:=G) (o:=3) ec.i (eO fd.sl).1 (eO fd.sl).2 cY Ξ λer cC j2 ji=>?_;refine a2 _ ⟨fb.trans (cC.mono λr _ h=>.inr (by have h:r=G:=h;omega)),hk.ck,je,lines,K,ji,eH jg cC (bQ cY),eH jh cC (bQ cY),?_,cX.new cC λr C=>by have C:r=G:=C;omega,λh=>Ω,by rw[jd,if_pos Ω]⟩;rw[<-jf];exact ap.dN cC (bQ cY)
   .intro j3 fe;intro P cE _ _;have jk:=bb.ext cE;obtain⟨b8,w0,aA,bl,gs,sv,L,aE,ab,ae,bad,aC,big,aD,told,cT,bz,bA,ao,bB,bo,cm,cn,cp,cr,ct,bU,cu,aU,cW⟩:=id jk;obtain⟨_,aR,cf,cg⟩:=bB.g bz bA;have j4:K.shared.length=L.length:=by rw[<-aU,r9,cf]
    have ap:=eP;rw[if_pos i7]at ap;rw[ng,wrap_i64 Ω Ω,aT bF.p 8 ao F,et dy.u aR,bL,am];refine⟨λcd=>fe _ _ ⟨cE,true,F,λ_=>?_,λh=>by cases h⟩,λcd=>?_⟩
    .rw[ap,Z7 Ω]
    have cz:(-n-1).toNat<L.length:=Ω
    obtain⟨hk,cA⟩:∃h,L[(-n-1).toNat]?=σ h:=⟨_,x6 cz⟩;obtain⟨bf,cB⟩:=aI (l:=aE) (i:=(-n-1).toNat) Ω;obtain⟨_,⟨gz,jl⟩,_,_⟩:=cg _ hk bf cA cB;have bY:K.shared[(-n-1).toNat]?=σ (bf.sizes,bf.lines):=by rw[<-aU,x8,cB];rfl
    rw[bY]at ap;simp only at ap;rw[aT bF.p 8 ao F,ng,wrap_i64 Ω Ω,dI,wrap_i64 Ω Ω,dp (i:=(-n-1).toNat) Ω dy.u bd.i aR cz,aW bd.p F,ax Ψ (aR.range cA 1 _ F)];have jm:ah P G bd [aQ,szv,Δ o,ck]:=(bK.ac bm λhe=>b5 he).ext cE;have jn:=(eH f324 bm λr C=>(l3 bR r C).imp (λ⟨e,c,E,a7,ba,_⟩=>⟨e,c,E,a7,ba⟩) id).ext cE;rw[aL bd.p 1 jm F];refine(yz jl.ls jn.ls).mono ?_;rintro _ c5 _ ⟨rfl,jp⟩;rw[bM];refine fe _ _ ⟨cE.trans jp,_,F,λE=>?_,λE=>?_⟩
    .have jr:bf.sizes≠sizes:=by simpa using E
     rw[ap,if_neg jr]
    .have ff:bf.sizes=sizes:=by simpa using E
     exact⟨bf.lines,by rw[ap,if_pos ff],by rw[bY,ff]⟩
  .
   have ap:=eP;rw[if_neg i8]at ap;obtain⟨b8,w0,aA,bl,gs,sv,L,aE,ab,ae,bad,aC,big,aD,told,cT,bz,bA,ao,bB,bo,cm,cn,cp,cr,ct,bU,cu,aU,cW⟩:=id bb;rw[aT bF.p 7 ao F,aM];generalize js:W5.wrap (told+n)=bs;have fg:K.big=false->bs=K.told+n/\0<=bs:=λE=>by
    obtain⟨e8,e9⟩:=iD E;have jt:=cr E;rw[<-js,jt,wrap_i64 Ω Ω];exact⟨F,Ω⟩
   rw[bZ,aW bF.p F];refine bp (g:=g) (o:=7) av.i F rfl ao (by simp[iW]) λaK fh j5 cF=>?_;have cF:ah aK g bF (iW aA ab ae bad aC big aD bs sv):=cF;refine da (λaN=>ai (λr=>r=g) O aN/\ah aN g bF (iW aA ab ae bad aC big aD (min bs aw) sv)) ?_ ?_
   rotate_left
   .intro j6 fi;rw[aT bF.p 7 cF F,bL,am];refine⟨λcd=>?_,λcd=>fi _ ⟨fh,?_⟩⟩
    .rw[bZ,aW bF.p F];refine bp (g:=g) (o:=7) av.i F rfl cF (by simp[iW]) λev ju j7 jv=>?_;refine fi _ ⟨fh.trans ju,?_⟩;have e:min bs aw=4611686018427387904:=by unfold aw;omega
     rw[e];exact jv
    .have e:min bs aw=bs:=by unfold aw;omega
     rw[e];exact cF
   rintro aN ⟨fj,fk⟩;have jw:bO aN g B H 100000 (σ {K with told:=min (K.told+n) aw}):=⟨b8,w0,aA,bl,gs,sv,L,aE,ab,ae,bad,aC,big,aD,_,cT,bz.trans fj,bA,fk,bB,bo,cm,cn,cp,λE=>by
    have E:K.big=false:=E;rw[(fg E).1],ct,bU,cu,aU,cW⟩
   rw[aT bF.p 7 fk F,bL];refine(oo jw).mono ?_;rintro _ c6 _ ⟨jx,fm⟩;have jy:(σ {K with told:=min (K.told+n) aw}).map (bc (decide (16384<min bs aw)))=σ (bc (decide (16384<min (K.told+n) aw)) {K with told:=min (K.told+n) aw}):=by
    show σ (bc _ _)=_;congr 1;unfold bc;cases E:K.big with
    |true=>simp
    |false=>rw[(fg E).1]
   rw[jy]at fm;have cG:ai (λr=>r=g) bj c6:=(bm.trans fj).trans jx;have dD:∀r,r=g->iu bj r\/bj.heap.size<=r:=λr C=>(l3 bR r C).imp (λ⟨e,c,E,a7,ba,_⟩=>⟨e,c,E,a7,ba⟩) id;have jz:ck= .slice ν 0 0:=by
    have:=fo _ f1;simpa using this
   refine a2 _ ⟨eK.trans (cG.mono λr _ h=>.inl h),ck,cO,[],_,bK.ac cG λhe=>b5 he,eH f224 cG dD,eH f324 cG dD,eJ.dN cG dD,fm,λ_=>⟨F,λr C=>by rw[jz]at C;exact eW C⟩,?_⟩;rw[ap];by_cases eL:n<=0
   .have:n=0:=Ω
    subst this;rw[if_pos (Int.le_refl _)];rfl
   .rw[if_neg eL]
def E1{s:aG}:dd all s=match bi (-aw) aw s with
  |none=>ν
  |some (a,s1)=>match eU all.length a.natAbs s1 with
   |none=>ν
   |some (scope,e)=>ln (decide (a<0)) a.natAbs scope (scope.map λv=>all.getD v.toNat 0) (σ e):=by
 unfold dd;cases bi (-aw) aw s with
 |none=>rfl
 |some q=>
  obtain⟨a,s1⟩:=q;simp only;cases eU all.length a.natAbs s1 with
  |none=>rfl
  |some p=>
   obtain⟨scope,e⟩:=p;simp only;unfold ln;show _=match bi 0 aw (bc (decide (6<a.natAbs)||dn (scope.map λv=>all.getD v.toNat 0)) e)with
    |none=>ν
    |some (other,f)=>_
   cases bi 0 aw (bc (decide (6<a.natAbs)||dn (scope.map λv=>all.getD v.toNat 0)) e)with
   |none=>rfl
   |some r=>
    obtain⟨o,f⟩:=r;simp only;cases dz (scope.map λv=>all.getD v.toNat 0) f with
    |none=>rfl
    |some w=>
     obtain⟨ls,x⟩:=w;by_cases h:a<0
     .simp[h]
     .simp[h]
def yB(w:x3)(g:Nat)(H:ak)(e:Option (cj×aG))(v:x1)(J:x3):Prop:=∃f x a,ai (λr=>r=g\/H r) w J/\v= .agg (fw f).toArray/\gZ J f x/\bO J g J.heap.size a 100001 (e.map (·.2))/\(∀q,e=σ q->x=q.1)/\(∀r,H r->a r)/\(∀r,a r->H r\/w.heap.size<=r)/\∀r,a r->r<J.heap.size
def E2{k:Nat}{s s':aG}(h:eU n k s=σ (l,s')):s'.toks.length+l.length<=s.toks.length/\s'.told=s.told/\s'.big=s.big/\s'.shared=s.shared/\∀v∈l,0<=v/\v<n:=by
 have:=j7 (f:=lV n) (λ(acc:Λ)t=>t.toks.length+acc.length<=s.toks.length/\t.told=s.told/\t.big=s.big/\t.shared=s.shared/\∀v∈acc,0<=v/\v<n) (λacc t a bt p e=>by
  unfold lV at e;cases w:bi 0 (n-1) t with
  |none=>rw[w]at e;cases e
  |some q=>
   obtain⟨v,C⟩:=q;rw[w]at e;simp only at e;split at e
   .cases e
   .cases e;have x:=dj w;have E:=(jj w).1;obtain⟨z,A,B⟩:=x.eqs;have t0:=x.1;refine⟨by have:=p.1;rw[r8];simp only[T7];omega,z.trans p.2.1,A.trans p.2.2.1,B.trans p.2.2.2.1,λy r=>?_⟩;rcases p9.1 r with r|r
    .exact p.2.2.2.2 y r
    .rw[j5.1 r];omega) k [] s l s' ⟨Ξ,F,F,F,λv ae=>by cases ae⟩ h
 exact this.1
def Qc{g B0:Nat}{H:ak}{s:aG}{P:x1}(h:bO w g B0 H 100000 (σ s))(af:ay .i64 av w gz P all)(ag:∀z∈all,1<=z/\z<=aw)(aU:all.length<=100001)(Q:∀r,H r->r<w.heap.size)(bl:ll s):
  an x7 A5 [Γ g,P] w (yB w g H (dd all s)):=by
 have bX:=h.lt;refine aA func118 ?_;refine bu bd.i λI aa bY R S=>?_;have S:ah aa I bd [.slice ν 0 0,.slice ν 0 0,Δ 0,.slice ν 0 0]:=S;refine bu bd.i λM ab bZ U W=>?_;have W:ah ab M bd [.slice ν 0 0,.slice ν 0 0,Δ 0,.slice ν 0 0]:=W;have h1:=(h.ext R).base;have aj:=h1.ext U;have b0:=R.size;have aW:=S.lt;have b1:=W.lt;refine(l2 aj).mono ?_;rintro _ G _ ⟨⟨X,A⟩,a,b2,rfl,al,ao⟩;rw[bq,br,aP];have bn:M≠g:=Ω
 have ap:I≠g:=Ω
 have aq:=W.ac X λhe=>bn he;have au:=(S.ext U).ac X λhe=>ap he;have aX:ay .i64 av G gz P all:=bw ((af.ext R).ext U) X λr e he=>by
  have he:r=g:=he;obtain⟨aY,C,K,bad,aZ,big,a1,told,sv,Y,_⟩:=jq h;subst he;exact cc af Y Φ e F
 have a2:∀r,leads P r->r<aa.heap.size:=λr e=>by obtain⟨C,K⟩:=bR af e;omega
 have ax:iv G aa.heap.size M ⟨[],[],0,[]⟩:=⟨_,_,_,0,0,0,aq,ay.nil _ _ _ _,ay.nil _ _ _ _,⟨[],bm.nil _ _ _ _ _,λy bo=>(by cases bo),F⟩,(λr e=>by rcases e with⟨a,n,c,C,K⟩|⟨a,n,c,C,K⟩<;>cases C),(λr e=>by obtain⟨a,n,c,C,K⟩:=e;cases C),Ω⟩;have az:∀c,ah G M bd c->c[3]?=σ (.slice ν 0 0):=λc aD=>by
  unfold ah at aD aq;rw[aq]at aD;have:=Array.toList_inj.2 (Obj.cells.inj (Z3 aD)).1;simp at this;rw[<-this];rfl
 have a6:ai (λr=>r=g) aa G:=(U.ac _).trans X;have b3:aa.heap.size<=G.heap.size:=a6.size;have aE:∀{f:x3}{aH:Option (cj×aG)}{v:x1}{J:x3},ai (iw g aa.heap.size) G f->aH=dd all s->EZ f g I aa.heap.size H aH v J->yB w g H (dd all s) v J:=by
  rintro f aH v J E rfl ⟨O,x,bp,aI,aJ,aK,aL,a7,a8,ba,bs⟩;refine⟨O,x,bp,?_,aJ,aK,aL,a7,a8,λr e=>(ba r e).imp id λh=>Ω,bs⟩;refine iM (iM ((R.ac _).trans (a6.mono λr _ h=>.inl h)) E λr e he=>?_) aI λr e he=>?_
  .exact he.elim .inl λhe=>Ω
  .rcases he with he|he|he|he
   .exact .inl he
   .exact .inr he
   .omega
   .omega
 have bt:∀{f:x3}{x:cj},ai (iw g aa.heap.size) G f->dd all s=ν->bO f g aa.heap.size H 100000 ν->iv f aa.heap.size M x->
   (ad x7 (u5 bd (Γ M)) f λbx=>
    aF x7 (l9 bd (Γ I) bx) f λ(_:Unit)bb=>
    ad x7 (do loadVar bd (<-asAddr (Γ I))) bb λbz=>yB w g H (dd all s) bz bb):=by
  intro f x E bc aM bA;obtain⟨aQ,szv,ck,g1,bB,bC,aI,aJ,aK,aL,a7,a8,ba⟩:=bA;let O:kk:=⟨aQ,szv,x.other,ck⟩;have be:gZ f O x:=⟨⟨g1,aJ⟩,⟨bB,aK⟩,F,bC,aL⟩;have aN:=au.ac E λV=>V.elim ap λh=>Ω
  rw[bN bd.p bd.i F (show f.rangeAt M 0 (fw O)from aI.range)];refine b7 (vs:=fw O) bd.i F rfl be.one aN λb4 aO b5 bD=>?_;rw[fM bd.p bd.i F bD.range];have bE:∀r,r=I->iu f r\/f.heap.size<=r:=λr e=>by subst e;exact .inl ⟨_,_,aN,Φ,Φ⟩
  have b6:=E.size;refine aE E F ⟨O,x,H,aO.mono λr _ h=>.inr (.inr (.inl h)),F,be.dN aO bE,?_,(λq B=>by rw[bc]at B;cases B),λ_ h=>h,λ_ h=>.inl h,λr e=>by have:=Q r e;omega⟩;rw[bc];have bF:bO f g aa.heap.size H 100001 ν:=by
   obtain⟨b8,w0,aY,bG,gs,sv,L,bH,C,K,bad,aZ,big,a1,told,h1,aj,A,bI,bJ,aR,bf⟩:=aM;exact⟨Ω,w0,aY,bG,gs,sv,L,bH,C,K,bad,aZ,big,a1,told,h1,aj,A,bI,bJ,aR,bf.1,by have:=bf.2;omega⟩
  refine bF.dN aO λr e=>.inl ?_;have e:r=I:=e;subst e;exact⟨_,_,aN,Φ,Φ,Φ,Φ,λaC=>by have:=Q _ aC;omega⟩
 have N:=E1 (all:=all) (s:=s);have bK:bg (-4611686018427387904) 4611686018427387904 (σ s)=bi (-aw) aw s:=rfl;rw[bK]at A al ao;have b9: -4611686018427387904<=a/\a<=4611686018427387904:=by
  cases B:bi (-aw) aw s with
  |none=>have:=ao B;omega
  |some q=>have:=al q B;rw[this];exact(jj B).1
 refine aV (λv bL=>G=bL/\v=Δ (a.natAbs:Int)) ?_ ?_
 rotate_left
 .intro aB bh;rw[am];refine⟨λca=>?_,λcb=>bh _ _ ⟨F,by congr 1;omega⟩⟩;rw[ng,wrap_i64 Ω Ω];exact bh _ _ ⟨F,by congr 1;omega⟩
 rintro _ _ ⟨rfl,rfl⟩;have bj:∀r,H r->r<aa.heap.size:=λr e=>by have:=Q r e;omega
 have bk:¬H I:=λaC=>by have:=Q _ aC;omega
 have bM:∀{scope:Λ},(∀v∈scope,0<=v/\v<(all.length:Int))->∀z∈scope.map (λv=>all.getD v.toNat 0),1<=z/\z<=aw:=λae z bP=>by
  obtain⟨v,bQ,rfl⟩:=c7.1 bP;have:=ae v bQ;refine ag _ ?_;rw[u4,x6 Ω];exact S3 _
 cases B:bi (-aw) aw s with
 |none=>
  rw[B]at A N;have bS:=ao B;subst bS;refine EX (s:=s) (ar:=(0:Int).natAbs) A (.inr ⟨F,F⟩) ax az aX a2 aU Φ (λh=>by cases h) ?_ ?_ ?_
  .intro h;cases h
  .intro _;exact E0 A ax az (λz ag=>by cases ag) Ξ au aW bk bj (λbT V=>by cases V) λv J aS=>aE (ai.refl _ _) (by rw[N];rfl) aS
  .intro h;cases h
 |some q=>
  obtain⟨a',s1⟩:=q;rw[B]at A N;have:=al _ B;subst this;simp only at N;have A:bO G g aa.heap.size H 100000 (σ s1):=A;have bU:=dj B;refine EX A (.inl F) ax az aX a2 aU Ω (λ_=>(vn A).1) ?_ ?_ ?_
  .intro _ f x E Z aM aT;exact bt E (by rw[N,Z]) aM aT
  .intro h;cases h
  .intro _ f scope s' E Z aR aT bV;obtain⟨cd,bW,t3,t4,t5⟩:=E2 Z;rw[Z]at N;obtain⟨C,K,ce⟩:=bU.eqs;refine E0 aR aT bV (bM t5) ?_ (au.ac E λV=>V.elim ap λh=>Ω) aW bk bj (λbT V=>?_) λv J aS=>aE E N.symm aS
   .rw[r9];have:=(vn A).1;omega
   .cases V;intro Y;rw[t3,K]at Y;rw[bW,C];exact bl Y
def Qd{s s':aG}{l:List (Λ×Int)}(h:dz sizes s=σ (l,s'))(r:ll s):ll s':=by
 unfold dz at h;cases f:bi (-aw) aw s with
 |none=>rw[f]at h;cases h
 |some q=>
  obtain⟨n,s1⟩:=q;obtain⟨w,x,t3⟩:=(dj f).eqs;have p:ll s1:=λe=>by rw[w];exact r (by rw[<-x];exact e)
  rw[f]at h;simp only at h;split at h
  .split at h
   .cases h
   .split at h
    .cases h;exact p
    .cases h
  .rename_i G;have a7:=h;have:=j7 (λ_ t=>ll t) (λacc t a bt y z=>by
    obtain⟨_,_,_,A⟩:=pn z;obtain⟨B,C,H⟩:=A.eqs;intro e;rw[B];exact y (by rw[<-C];exact e)) n.toNat [] (bc (decide (16384<min (s1.told+n) aw)) {s1 with told:=min (s1.told+n) aw}) l s' (λe=>by
     obtain⟨E,F⟩:=R5.1 e;have I:=p E;have J:=of_decide_eq_false F;show 0<=min (s1.told+n) aw/\min (s1.told+n) aw<=16384;unfold aw at*;omega) a7
   exact this.1
def Qe{s s':aG}{x:cj}(h:dd all s=σ (x,s')):s'.toks.length+1<=s.toks.length/\(ll s->ll s'):=by
 rw[E1]at h;cases w:bi (-aw) aw s with
 |none=>rw[w]at h;cases h
 |some q=>
  obtain⟨a,s1⟩:=q;rw[w]at h;simp only at h;have B:=dj w;cases V:eU all.length a.natAbs s1 with
  |none=>rw[V]at h;cases h
  |some p=>
   obtain⟨scope,f⟩:=p;rw[V]at h;simp only at h;obtain⟨T,G,t3,_⟩:=E2 V;unfold ln at h;have e:bg 0 aw ((σ f).map (bc (decide (6<a.natAbs)||dn (scope.map λv=>all.getD v.toNat 0))))=bi 0 aw (bc (decide (6<a.natAbs)||dn (scope.map λv=>all.getD v.toNat 0)) f):=rfl;rw[e]at h;cases y:bi 0 aw (bc (decide (6<a.natAbs)||dn (scope.map λv=>all.getD v.toNat 0)) f)with
   |none=>rw[y]at h;cases h
   |some H=>
    obtain⟨o,C⟩:=H;rw[y]at h;simp only at h;have E:=dj y;cases r:dz (scope.map λv=>all.getD v.toNat 0) C with
    |none=>rw[r]at h;cases h
    |some I=>
     obtain⟨ls,z⟩:=I;rw[r]at h;simp only[Y7,T6]at h;obtain⟨_,J⟩:=h;have:=EY r;have K:(bc (decide (6<a.natAbs)||dn (scope.map λv=>all.getD v.toNat 0)) f).toks=f.toks:=rfl;have L:=E.1;rw[K]at L;have:=B.1;obtain⟨M,N,_⟩:=B.eqs;obtain⟨f1,f2,_⟩:=E.eqs;have A:s'.toks=z.toks/\s'.told=z.told/\s'.big=z.big:=by
      rw[<-J];split<;>exact⟨rfl,rfl,rfl⟩
     refine⟨by rw[A.1];omega,λO=>?_⟩;have P:ll C:=λF=>by
      rw[f2]at F;rw[f1];have Q:=(R5.1 F).1;show 0<=f.told/\f.told<=16384;rw[G,M];exact O (by rw[<-N,<-t3];exact Q)
     have R:=Qd r P;intro S;rw[A.2.1];exact R (by rw[<-A.2.2];exact S)
def bO.shrink{g:Nat}{H:ak}{so:Option aG}(h:bO w g B H N so):∃a,bO w g B a N so/\(∀r,a r->H r)/\∀r,a r->∃c,ah w r bd c:=by
 obtain⟨x,w0,y,z,gs,sv,L,A,C,E,bad,F,big,G,told,h1,f,p,I,q,J,K⟩:=h;refine⟨λr=>leadsTo sv r,⟨x,w0,y,z,gs,sv,L,A,C,E,bad,F,big,G,told,h1,f,p,I,q,λr e=>e,K⟩,J,λr e=>?_⟩;obtain⟨rfl,c,s⟩:=dM q.2.1 e;refine⟨c,s.ac f λhe=>?_⟩;obtain⟨O,M⟩:=p;subst he;exact absurd (eG s M) Φ
def bO.low{g:Nat}{H:ak}{s:aG}(h:bO w g B H N (σ s)):bO w g B H 100000 (σ s):=by
 obtain⟨G,w0,a,e,gs,sv,L,f,p,q,bad,r,big,x,told,h1,y,z,A,C,E,F⟩:=h;exact⟨o4 _,w0,a,e,gs,sv,L,f,p,q,bad,r,big,x,told,h1,y,z,A,C,E,F⟩
def bO.up{g M:Nat}{H:ak}{so:Option aG}(h:bO w g B H N so)(G:N<=M):bO w g B H M so:=by
 obtain⟨I,w0,e,f,gs,sv,L,p,q,r,bad,x,big,y,told,h1,z,A,C,E,F,a⟩:=h;refine⟨Ω,w0,e,f,gs,sv,L,p,q,r,bad,x,big,y,told,h1,z,A,C,E,F,?_⟩;cases so with
 |none=>exact⟨a.1,by have:=a.2;omega⟩
 |some s=>exact a
def mH{α:Type}(f:List α->aG->Option (α×aG))(cnt i:Nat)(a:Option aG)(A:List α)(so:Option aG):Prop:=a.bind (cP f cnt [])=(match so with
 |none=>ν
 |some s=>cP f (cnt-i) A s)
def mH.step{α:Type}{f:List α->aG->Option (α×aG)}{cnt i:Nat}{p:Option aG}{A:List α}{s:aG}{a:α}{r:Option aG}(h:mH f cnt i p A (σ s))(hi:i<cnt)(h1:r=(f A s).map (·.2))(w:∀q,f A s=σ q->a=q.1):mH f cnt (i+1) p (A++[a]) r:=by
 unfold mH at*;rw[h,show cnt-i=(cnt-(i+1))+1 by omega];simp only;cases e:f A s with
 |none=>rw[qw e,h1,e];rfl
 |some q=>
  obtain⟨a',s'⟩:=q;have:=w _ e;subst this;rw[uC e,h1,e];rfl
def Qf{s0:aG}{acc:Λ}{most r:Int}{G:List cj}{y z A B M so6 e:Option aG}(h1:y=((dK s0).map (·.2)).map (bc (decide (64<t.length))))(P:∀q,dK s0=σ q->t=q.1)(w:z=((bg 1 aw y).map (·.2)).map (bc (decide (64<n))))(N:∀q,bg 1 aw y=σ q->n=q.1)(h:A=(bg 1 aw z).map (·.2))(hm:∀q,bg 1 aw z=σ q->most=q.1)(f:B=((bg 0 aw A).map (·.2)).map (bc (decide (256<r))))(O:∀q,bg 0 aw A=σ q->r=q.1)(a:M=((bg 1 aw B).map (·.2)).map (bc (decide (2147483648<k))))(hk:∀q,bg 1 aw B=σ q->k=q.1)(x:M.bind (cP (fQ most) n.toNat [])=so6.map λs=>(acc,s))(p:so6.bind (cP (λ_ s=>dd acc s) r.toNat [])=e.map λs=>(G,s)):iI s0=e.map λs=>(⟨t,k,acc,G⟩,s):=by
 unfold iI;cases H:dK s0 with
 |none=>
  rw[H]at h1;subst h1;subst w;subst h;subst f;subst a;have:so6=ν:=by cases so6 with|none=>rfl|some s=>cases x
  subst this;cases e with|none=>rfl|some s=>cases p
 |some Q=>
 obtain⟨bt,s1⟩:=Q;have:=P _ H;subst this;rw[H]at h1;have h1:y=σ (bc (decide (64<t.length)) s1):=h1;subst h1;simp only;have R:bg 1 aw (σ (bc (decide (64<t.length)) s1))=bi 1 aw (bc (decide (64<t.length)) s1):=rfl;rw[R]at w N;cases I:bi 1 aw (bc (decide (64<t.length)) s1)with
 |none=>
  rw[I]at w;subst w;subst h;subst f;subst a;have:so6=ν:=by cases so6 with|none=>rfl|some s=>cases x
  subst this;cases e with|none=>rfl|some s=>cases p
 |some S=>
 obtain⟨ab,C⟩:=S;have:=N _ I;subst this;rw[I]at w;have w:z=σ (bc (decide (64<n)) C):=w;subst w;simp only;have T:bg 1 aw (σ (bc (decide (64<n)) C))=bi 1 aw (bc (decide (64<n)) C):=rfl;rw[T]at h hm;cases J:bi 1 aw (bc (decide (64<n)) C)with
 |none=>
  rw[J]at h;subst h;subst f;subst a;have:so6=ν:=by cases so6 with|none=>rfl|some s=>cases x
  subst this;cases e with|none=>rfl|some s=>cases p
 |some U=>
 obtain⟨cm,E⟩:=U;have:=hm _ J;subst this;rw[J]at h;have h:A=σ E:=h;subst h;simp only;have V:bg 0 aw (σ E)=bi 0 aw E:=rfl;rw[V]at f O;cases K:bi 0 aw E with
 |none=>
  rw[K]at f;subst f;subst a;have:so6=ν:=by cases so6 with|none=>rfl|some s=>cases x
  subst this;cases e with|none=>rfl|some s=>cases p
 |some W=>
 obtain⟨ac,F⟩:=W;have:=O _ K;subst this;rw[K]at f;have f:B=σ (bc (decide (256<r)) F):=f;subst f;simp only;have X:bg 1 aw (σ (bc (decide (256<r)) F))=bi 1 aw (bc (decide (256<r)) F):=rfl;rw[X]at a hk;cases L:bi 1 aw (bc (decide (256<r)) F)with
 |none=>
  rw[L]at a;subst a;have:so6=ν:=by cases so6 with|none=>rfl|some s=>cases x
  subst this;cases e with|none=>rfl|some s=>cases p
 |some Y=>
 obtain⟨ad,Z⟩:=Y;have:=hk _ L;subst this;rw[L]at a;have a:=a;subst a;simp only;have x:cP (fQ most) n.toNat [] (bc (decide (2147483648<k)) Z)=so6.map λs=>(acc,s):=x;rw[x];cases so6 with
 |none=>cases e with|none=>rfl|some s=>cases p
 |some aa=>
  simp only[Y1];have p:cP (λ_ s=>dd acc s) r.toNat [] aa=e.map λs=>(G,s):=p;rw[p];cases e<;>rfl
def qQ(w:x3)(gr:Nat)(e:x1)(a:List cj):Prop:=∃L,bm fw 4 bd w gr e L/\a.length=L.length/\∀(i:Nat)h x,L[i]?=σ h->a[i]?=σ x->gZ w h x
def pE(w:x3)(e:Nat)(f:b3):Prop:=∃szv gz a gr,ah w e eb [bW f.name,Δ f.k,szv,a]/\ay .i64 av w gz szv f.sizes/\qQ w gr a f.funs
def qQ.ext{gr:Nat}{a:x1}{e:List cj}(h:qQ w gr a e)(U:Ext w J):qQ J gr a e:=by
 obtain⟨L,h1,f,p⟩:=h;exact⟨L,h1.ext U,f,λi aC x hi q=>(p i aC x hi q).ext U⟩
def pE.ext{a:Nat}{f:b3}(h:pE w a f)(U:Ext w J):pE J a f:=by
 obtain⟨szv,gz,e,gr,h1,p,q⟩:=h;exact⟨szv,gz,e,gr,h1.ext U,p.ext U,q.ext U⟩
def Qg(w:x3)(a:Λ)(v:x1)(J:x3):Prop:=Ext w J/\∃n e:Int,(fR a=ν->v= .tuple #[.pointer ν,Δ n,Δ e])/\∀f,fR a=σ f->∃h,v= .tuple #[Γ h,Δ n,Δ e]/\pE J h f
def Qh{w0:x3}{g y:Nat}{so6:Option aG}{acc bV:Λ}{O bad:Int}{p:x1}{Q:x1->x3->Prop}(c7:ai (λr=>w0.heap.size<=r) w0 w)(bY:ah w y eb [bW t,Δ k,szv,.slice ν 0 0])(c8:ay .i64 av w gz szv acc)(h:bO w g B bU 100000 so6)(db:∀s,so6=σ s->ll s/\s.toks.length<=100000/\(∀z∈acc,1<=z/\z<=aw)/\acc.length<=100001)(fa:w0.heap.size<=g)(fb:w0.heap.size<=y)(dc:aK .u8 w0 p bV)(fc:0<=O/\O<=4611686018427387904)(bi:∀v J I bj,Ext w0 J->so6.bind (cP (λ_ s=>dd acc s) O.toNat [])=bj.map (λs=>(I,s))->
   (∀s,bj=σ s->s.toks=[]/\¬0<=bad/\s.big=false->v= .tuple #[Γ y,Δ (bV.length:Int),Δ 0]/\pE J y ⟨t,k,acc,I⟩)->
   ((∀s,bj=σ s->¬(s.toks=[]/\¬0<=bad/\s.big=false))->∃n e:Int,v= .tuple #[.pointer ν,Δ n,Δ e])->Q v J):
  cq (Δ 0) w λb0 A de=>
   cw (α:=x1->x3->Prop) (λ(df:x1)(K:x3)=>
    Split df (ey K λE=>
   ad x7 (bP (Γ y)) E λaE=>
   ad x7 (u6 eb aE 3) E λaH=>
   ad x7 (u5 dy aH) E λbk=>
   ad x7 (bP (Γ y)) E λdg=>
   ad x7 (u6 eb dg 2) E λdh=>
   ad x7 (u5 az dh) E λdi=>
   an x7 A5 [(Γ g),di] E λdj ae=>
    (Ext E ae\/cD x7 (u5 dy aH) bk ae/\cD x7 (u6 eb aE 3) aH ae/\cD x7 (bP (Γ y)) aE ae/\True)/\
   aF x7 (Y5 dy 1 #[(0,dj)]) ae λdk P=>
    (Ext E P\/cD x7 (u5 dy aH) bk P/\cD x7 (u6 eb aE 3) aH P/\cD x7 (bP (Γ y)) aE P/\True)/\
    aF x7 (Z5 #[dy,dy] dy #[bk,dk]) P λdl aU=>
     ad x7 (bP (Γ y)) aU λdm=>
     ad x7 (u6 eb dm 3) aU λdn=>
     aF x7 (l9 dy dn dl) aU λ(_:Unit)aY=>
     ad x7 (aO .add av false true b0 (Δ 1)) aY λdp=>
   de dp aY)
     (cw (α:=x3->Prop) (λ(N:x3)=>
   cw (α:=x3->Prop) (λ(C:x3)=>
    ad x7 (bP (Γ g)) C λdq=>
    ad x7 (u6 bF dq 3) C λdr=>
    ad x7 (u5 aj dr) C λds=>
    ad x7 (aO .neq aj false true ds (Δ 0)) C λdt=>
    Split dt (ey C λY=>
     ad x7 (bP (Γ g)) Y λdu=>
     ad x7 (u6 bF du 4) Y λdv=>
     ad x7 (u5 aj dv) Y λdw=>
     ad x7 (bP (Γ g)) Y λdx=>
     ad x7 (u6 bF dx 3) Y λdz=>
     ad x7 (u5 aj dz) Y λdA=>
     Q (.tuple #[(.pointer ν),dw,dA]) Y)
     (ad x7 (bP (Γ g)) C λdC=>
    ad x7 (u6 bF dC 5) C λdD=>
    ad x7 (u5 aj dD) C λdE=>
    ad x7 (aO .neq aj false true dE (Δ 0)) C λdF=>
    Split dF (ey C λZ=>
     ad x7 (bP (Γ g)) Z λdG=>
     ad x7 (u6 bF dG 6) Z λdH=>
     ad x7 (u5 aj dH) Z λdI=>
     ad x7 (bP (Γ g)) Z λdJ=>
     ad x7 (u6 bF dJ 5) Z λdK=>
     ad x7 (u5 aj dK) Z λdL=>
     Q (.tuple #[(.pointer ν),dI,dL]) Z)
     (ad x7 (U1 #[cM] aj #[p]) C λdO=>
    Q (.tuple #[(Γ y),dO,(Δ 0)]) C))) λb1=>
   cw (α:=x1->x3->Prop) (λ(dP:x1)(aZ:x3)=>
    Split dP (an x7 oV [(Γ g),(Δ 11),(Δ bad)] aZ λfd b2=>
     b1 b2)
     (b1 aZ)) λb3=>
   ad x7 (bP (Γ g)) N λdQ=>
   ad x7 (u6 bF dQ 3) N λdR=>
   ad x7 (u5 aj dR) N λdS=>
   ad x7 (aO .eql aj false true dS (Δ 0)) N λdT=>
   Split dT (ad x7 (aO .geq aj false true (Δ bad) (Δ 0)) N λdU=>
   b3 dU N)
    (b3 (.bool false) N)) λb4=>
  cw (α:=x1->x3->Prop) (λ(dV:x1)(R:x3)=>
   Split dV (ad x7 (bP (Γ g)) R λdW=>
    ad x7 (u6 bF dW 0) R λdX=>
    ad x7 (u5 fl dX) R λdY=>
    ad x7 (c9 fl dY (Δ 0)) R λdZ=>
    ad x7 (u6 cz dZ 1) R λea=>
    ad x7 (u5 aj ea) R λec=>
    an x7 oV [(Γ g),(Δ 4),ec] R λfe bl=>
    b4 bl)
    (b4 R)) λb5=>
  ad x7 (bP (Γ g)) K λed=>
  ad x7 (u6 bF ed 3) K λee=>
  ad x7 (u5 aj ee) K λef=>
  ad x7 (aO .eql aj false true ef (Δ 0)) K λeg=>
  Split eg (ad x7 (bP (Γ g)) K λeh=>
  ad x7 (u6 bF eh 0) K λei=>
  ad x7 (u5 fl ei) K λej=>
  ad x7 (U1 #[fl] aj #[ej]) K λek=>
  ad x7 (aO .gtr aj false true ek (Δ 0)) K λem=>
  b5 em K)
   (b5 (.bool false) K))) λb7=>
   ad x7 (aO .lss av false false b0 (Δ O)) A λen=>
   Split en (ad x7 (bP (Γ g)) A λeo=>
   ad x7 (u6 bF eo 3) A λep=>
   ad x7 (u5 aj ep) A λer=>
   ad x7 (aO .eql aj false true er (Δ 0)) A λes=>
   b7 es A)
    (b7 (.bool false) A):=by
 have b8:y≠g:=λhe=>by
  obtain⟨af,aa,ab,bad,ag,big,al,told,sv,f,_⟩:=jq h;subst he;exact absurd (eG f bY) Φ
 refine⟨λbn A=>∃i:Nat,bn=Δ (i:Int)/\i<=O.toNat/\ai (λr=>w0.heap.size<=r) w0 A/\∃M gr I so,∃H:ak,ah A y eb [bW t,Δ k,szv,M]/\ay .i64 av A gz szv acc/\qQ A gr M I/\(∀r,leadsTo M r->w0.heap.size<=r/\¬H r)/\¬H y/\(∀r,leads szv r->¬H r)/\(∀r,H r->w0.heap.size<=r)/\bO A g A.heap.size H 100001 so/\mH (λ_ s=>dd acc s) O.toNat i so6 I so/\
   ∀s,so=σ s->ll s/\I.length+s.toks.length<=100000/\(∀z∈acc,1<=z/\z<=aw)/\acc.length<=100001,λbn _=>O.toNat-(bT bn).toNat,
  ⟨0,F,X8 _,c7,_,0,[],so6,bU,bY,c8,⟨[],bm.nil _ _ _ _ _,F,λi h x hi=>by simp at hi⟩,λr a=>(eW a).elim,id,λr _ h=>h,λr h=>h.elim,h.base.up Ω,?_,λs V=>?_⟩,?_⟩
 .unfold mH;cases so6<;>rfl
 .obtain⟨et,eu,a3,a4⟩:=db s V;exact⟨et,by simpa using eu,a3,a4⟩
 rintro _ A ⟨i,rfl,hi,a1,M,gr,I,so,H,b9,ca,cb,aI,bo,ev,cc,X,bq,ew⟩;refine aV (λv K=>A=K/\((v= .bool true/\i<O.toNat/\∃s,so=σ s)\/(v= .bool false/\(so=ν\/i=O.toNat)))) ?_ ?_
 rotate_left
 .intro aB br;rw[aP,am];refine⟨λcd=>?_,λff=>br _ _ ⟨F,.inr ⟨F,.inr Ω⟩⟩⟩;rw[mG X];cases so with
  |none=>exact br _ _ ⟨F,.inr ⟨F,.inl F⟩⟩
  |some s=>exact br _ _ ⟨F,.inl ⟨F,Ω,s,F⟩⟩
 rintro _ _ ⟨rfl,⟨rfl,cd,s,rfl⟩|⟨rfl,ez⟩⟩
 .
  rw[bX];intro E ao _ _;obtain⟨ce,fg,cf,cg⟩:=ew s F;have aJ:=b9.ext ao;obtain⟨eA,ch,aL,cj⟩:=(X.ext ao).low.shrink;have bs:=ca.ext ao;have eB:=cb.ext ao;rw[aT eb.p 3 aJ F,aT eb.p 2 aJ F];refine(Qc ch bs cf cg (λr a=>by obtain⟨c,f⟩:=cj r a;exact f.lt) ce).mono ?_;rintro _ ae _ ⟨eC,x,ck,ap,rfl,cl,eD,eE,fh,cm,eF⟩;have cn:∃c,ah E g bF c:=by obtain⟨af,aa,ab,bad,ag,big,al,told,sv,f,_⟩:=jq ch;exact⟨_,f⟩
  have cp:∀r,(r=g\/eA r)->iu E r\/E.heap.size<=r:=λr a=>by
   rcases a with rfl|a
   .obtain⟨c,f⟩:=cn;exact .inl ⟨_,c,f,Φ,Φ⟩
   .obtain⟨c,f⟩:=cj r a;exact .inl ⟨_,c,f,Φ,Φ⟩
  have bt:=aJ.ac ap λa=>a.elim (λhe=>b8 he) λa=>bo (aL _ a);have st:∀{J:x3},ah J y eb [bW t,Δ k,szv,M]->cD x7 (u5 dy (.pointer (σ ⟨y,0+3,ν⟩))) M J/\cD x7 (u6 eb (Γ y) 3) (.pointer (σ ⟨y,0+3,ν⟩)) J/\cD x7 (bP (Γ y)) (Γ y) J/\True:=λf=>
   ⟨uh Ψ (f.cell F),mz (by rw[aW eb.p F]),mz (by rw[bZ]),trivial⟩
  refine⟨.inr (st bt),?_⟩;refine im dy.u bd.i Ω F rfl λfi fj P fk S eI=>?_;refine⟨.inr (st (bt.ext S)),?_⟩;obtain⟨L,aq,bu,bw⟩:=id eB;have eJ:=aq.ac ap λr a V=>V.elim (λhe=>by
   obtain⟨c,f⟩:=cn;subst he;exact cS aq f Φ a) λV=>(aI r a).2 (aL r V)
  have bx:=eJ.ext S;refine jo dy.u bd.i F bx (by simpa using eI.sl) (cl.ext S).one Ω Ω λeK eL aU a2 eM cr=>?_;have bz:=bt.ext S;have ct:=bz.ac cr λhe=>cS bx bz Φ he;rw[bZ,aW eb.p F];refine bp (g:=y) (o:=3) dy.i (eO a2.sl).1 (eO a2.sl).2 ct Ξ λaY cu fm bB=>?_;have bB:=bB;have fo:i<=4611686018427387904:=Ω
  rw[aM,wrap_i64 Ω Ω];have au:ai (λr=>leadsTo M r\/r=y) P aY:=(cr.mono λr _ h=>.inl h).trans (cu.mono λr _ h=>.inr h);have cA:∀r,(leadsTo M r\/r=y)->∃e c,ah P r e c/\e≠av/\e≠ci/\e≠cz/\e≠bF:=λr a=>by
   rcases a with a|rfl
   .obtain⟨rfl,c,f⟩:=dM bx a;exact⟨_,c,f,Φ,Φ,Φ,Φ⟩
   .exact⟨_,_,bz,Φ,Φ,Φ,Φ⟩
  have bC:∀r,(leadsTo M r\/r=y)->iu P r\/P.heap.size<=r:=λr a=>by
   obtain⟨e,c,f,bD,bE,_⟩:=cA r a;exact .inl ⟨e,c,f,bD,bE⟩
  have fp:=ao.size;have fq:=ap.size;have fs:=S.size;have ft:=au.size;have cB:∀r,leadsTo M r->r<E.heap.size:=λr a=>by obtain⟨aa,ab⟩:=aq.leads a;omega
  have aN:∀r,r<E.heap.size->¬H r->¬ck r:=λr a eN bG=>(cm r bG).elim (λh=>eN (aL r h)) λh=>Ω
  have eP:∀r,leads szv r->r<E.heap.size:=λr a=>by obtain⟨aa,ab⟩:=bR bs a;omega
  refine⟨⟨i+1,F,Ω,?_,eK,eL,I++[x],_,ck,bB,eH ((eH bs ap cp).ext S) au bC,⟨L++[eC],a2.ac cu λr a he=>?_,by rw[r8,r8,bu];rfl,λj cC eQ aA aQ=>?_⟩,λr a=>?_,aN y aJ.lt bo,λr a=>aN r (eP r a) (ev r a),λr a=>?_,?_,bq.step cd F λq G=>eE q G,λs' W=>?_⟩,by simp only[bT];omega⟩
  .refine (((a1.trans (ao.ac _)).trans (ap.mono λr _ h=>?_)).trans (S.ac _)).trans (au.mono λr _ h=>?_)
   .exact h.elim (λh=>Ω) λh=>cc r (aL r h)
   .exact h.elim (λh=>(aI r h).1) λh=>Ω
  .have he:r=y:=he;subst he;exact cS a2 ct Φ a
  .by_cases eR:j<L.length
   .rw[X0 eR]at aA;rw[X0 Ω]at aQ;exact(((bw j cC eQ aA aQ).dN ap cp).ext S).dN au bC
   .rw[X1 Ω]at aA;rw[X1 Ω]at aQ;have eS:j-L.length=0:=by have:=(x4.1 aA).1;simp at this;omega
    have eU:j-I.length=0:=Ω
    rw[eS]at aA;rw[eU]at aQ;cases aA;cases aQ;exact(cl.ext S).dN au bC
  .rcases eM r a with h|h
   .exact⟨(aI r h).1,aN r (cB r h) (aI r h).2⟩
   .exact⟨by have:=a1.size;omega,λbG=>by have:=eF r bG;omega⟩
  .rcases cm r a with h|h
   .exact cc r (aL r h)
   .have:=a1.size;omega
  .refine (eD.ext S).dN au λr a=>.inl ?_;obtain⟨e,c,f,bD,bE,eV,eX⟩:=cA r a;refine⟨e,c,f,bD,bE,eV,eX,?_⟩;rcases a with a|rfl
   .exact aN r (cB r a) (aI r a).2
   .exact aN _ aJ.lt bo
  .cases bH:dd acc s with
   |none=>rw[bH]at W;cases W
   |some q=>
    obtain⟨fu,cE⟩:=q;rw[bH]at W;cases W;obtain⟨fv,eY⟩:=Qe bH;refine⟨eY ce,?_,cf,cg⟩;rw[r8];simp only[T7];omega
 .
  rw[a8];have bI:so6.bind (cP (λ_ s=>dd acc s) O.toNat [])=so.map λs=>(I,s):=by
   unfold mH at bq;rw[bq];cases so with
   |none=>rfl
   |some s=>
    rcases ez with h|rfl
    .cases h
    .simp only[U9];rfl
  have row:∀{J:x3},ai (λr=>r=g) A J->qQ J gr M I/\ah J y eb [bW t,Δ k,szv,M]/\ay .i64 av J gz szv acc:=λa6=>by
   obtain⟨af,aa,ab,bad,ag,big,al,told,sv,f,_⟩:=jq X;have cF:∀r,r=g->iu A r\/A.heap.size<=r:=λr a=>by subst a;exact .inl ⟨_,_,f,Φ,Φ⟩
   obtain⟨L,aq,bu,bw⟩:=id cb;refine⟨⟨L,aq.ac a6 λr a he=>?_,bu,λi h x hi U=>(bw i h x hi U).dN a6 cF⟩,b9.ac a6 λhe=>b8 he,eH ca a6 cF⟩;have he:r=g:=he;subst he;exact cS aq f Φ a
  refine da (λN=>ai (λr=>r=g) A N/\bO N g A.heap.size H 100001 (so.bind λs=>if s.toks=[]then σ s else ν)) ?_ ?_
  rotate_left
  .intro fw cG;refine aV (λv R=>A=R/\∃b:Bool,v= .bool b/\(b=true->∃s,so=σ s/\s.toks≠[])/\(b=false->∀s,so=σ s->s.toks=[])) ?_ ?_
   .rintro _ _ ⟨rfl,b,rfl,bJ,bK⟩;cases b with
    |true=>
     obtain⟨s,rfl,a7⟩:=bJ F;rw[bX];obtain⟨cH,cI,af,aR,gs,sv,L,cJ,aa,ab,bM,ag,big,al,told,cK,ba,bb,aD,bc,cL,cN,cQ,be,cR,cT,bf,cU,cV,cW⟩:=id X;obtain⟨⟨bN,eZ⟩,_⟩:=bc.g ba bb;obtain⟨x,fx,rfl⟩:∃x l,aR=x::l:=by
      cases aR with
      |nil=>exact absurd bf.symm (by simpa using a7)
      |cons x l=>exact⟨x,l,F⟩
     rw[aT bF.p 0 aD F];refine ET bN λb o e0=>?_;rw[aW cz.p F,ax Ψ (e0 1 _ F)];refine(pD X Ω).mono ?_;rintro _ bl _ ⟨e1,e2⟩;refine cG _ ⟨e1,?_⟩;show bO bl g _ H 100001 (if s.toks=[]then σ s else ν);rw[if_neg a7];exact e2
    |false=>
     rw[a8];refine cG _ ⟨ai.refl _ _,?_⟩;cases so with
     |none=>exact X
     |some s=>
      show bO _ g _ H 100001 (if s.toks=[]then σ s else ν);rw[if_pos (bK F s F)];exact X
   .intro fy cX;rw[mG X];cases so with
    |none=>
     rw[R7,a8];exact cX _ _ ⟨F,false,F,(λh=>by cases h),λ_ s V=>by cases V⟩
    |some s=>
     rw[S1,bX];obtain⟨cH,cI,af,aR,gs,sv,L,cJ,aa,ab,bM,ag,big,al,told,cK,ba,bb,aD,bc,cL,cN,cQ,be,cR,cT,bf,cU,cV,cW⟩:=id X;obtain⟨⟨bN,eZ⟩,_⟩:=bc.g ba bb;rw[aT bF.p 0 aD F,ES bN,bL];have fz:aR.length=s.toks.length:=by rw[<-bf,r9]
     refine cX _ _ ⟨F,_,F,λh=>⟨s,F,λaS=>?_⟩,λh s' W=>?_⟩
     .have:=of_decide_eq_true h;have cC:s.toks.length=0:=by rw[aS];rfl
      omega
     .cases W;have:=of_decide_eq_false h;exact b6 Ω
  rintro N ⟨cY,bQ⟩;refine da (λC=>ai (λr=>r=g) A C/\bO C g A.heap.size H 100001 (so.bind λs=>if s.toks=[]/\¬0<=bad then σ s else ν)) ?_ ?_
  rotate_left
  .intro fA cZ;refine aV (λv aZ=>N=aZ/\∃b:Bool,v= .bool b/\(b=true->(so.bind λs=>if s.toks=[]/\¬0<=bad then σ s else ν)=ν)/\(b=false->(so.bind λs=>if s.toks=[]/\¬0<=bad then σ s else ν)=so.bind λs=>if s.toks=[]then σ s else ν)) ?_ ?_
   .rintro _ _ ⟨rfl,b,rfl,bJ,bK⟩;cases b with
    |true=>
     rw[bX];refine(pD bQ Ω).mono ?_;rintro _ b2 _ ⟨e3,e4⟩;exact cZ _ ⟨cY.trans e3,by rw[bJ F];exact e4⟩
    |false=>
     rw[a8];exact cZ _ ⟨cY,by rw[bK F];exact bQ⟩
   .intro fB c0;rw[mG bQ];cases G:(so.bind λs=>if s.toks=[]then σ s else ν)with
    |none=>
     rw[R7,a8];refine c0 _ _ ⟨F,false,F,(λh=>by cases h),λ_=>?_⟩;cases so with
     |none=>rfl
     |some s=>
      have G:(if s.toks=[]then σ s else ν)=ν:=G;show(if s.toks=[]/\¬0<=bad then σ s else ν)=(if s.toks=[]then σ s else ν);rw[G];split at G
      .cases G
      .rename_i a7;rw[if_neg (λh=>a7 h.1)]
    |some s=>
     rw[S1,bX,cO];refine c0 _ _ ⟨F,_,F,λh=>?_,λh=>?_⟩
     .have aS:=of_decide_eq_true h;cases so with
      |none=>rfl
      |some s=>exact if_neg λh=>h.2 aS
     .have aS:=of_decide_eq_false h;cases so with
      |none=>rfl
      |some s=>
       show(if s.toks=[]/\¬0<=bad then σ s else ν)=(if s.toks=[]then σ s else ν);by_cases V:s.toks=[]
       .rw[if_pos V,if_pos ⟨V,aS⟩]
       .rw[if_neg V,if_neg λh=>V h.1]
  rintro C ⟨c1,bg⟩;obtain⟨e5,e6,e7⟩:=row c1;have e8:ai (λr=>w0.heap.size<=r) w0 C:=a1.trans (c1.mono λr _ h=>by have h:r=g:=h;omega);have bh:=e8.ext λr a he=>Ω
  rw[sF bg];cases G:(so.bind λs=>if s.toks=[]/\¬0<=bad then σ s else ν)with
  |none=>
   rw[R7,V8,bX];intro Y c2 _ _;obtain⟨af,aa,ab,bM,ag,big,al,told,sv,f,_⟩:=jq (bg.ext c2);rw[aT bF.p 4 f F,aT bF.p 3 f F];refine bi _ _ I so (bh.trans c2) bI (λs V aC=>?_) λ_=>⟨_,_,F⟩;subst V;have G:(if s.toks=[]/\¬0<=bad then σ s else ν)=ν:=G;rw[if_pos ⟨aC.1,aC.2.1⟩]at G;cases G
  |some s=>
   rw[G]at bg;rw[S1,X2,a8];obtain⟨s',rfl,W⟩:∃s',so=σ s'/\(if s'.toks=[]/\¬0<=bad then σ s' else ν)=σ s:=by
    cases so with
    |none=>cases G
    |some s'=>exact⟨s',F,G⟩
   split at W
   .rename_i c3;cases W;obtain⟨cH,cI,af,aR,gs,sv,L,cJ,aa,ab,bM,ag,big,al,told,cK,ba,bb,aD,bc,cL,cN,cQ,be,cR,cT,bf,cU,cV,cW⟩:=id bg;rw[aT bF.p 5 aD F,bA,am];refine⟨λbS=>?_,λbS=>?_⟩
    .intro Z c4 _ _;have c5:=aD.ext c4;rw[aT bF.p 6 c5 F,aT bF.p 5 c5 F];refine bi _ _ I _ (bh.trans c4) bI (λcE c6 aC=>?_) λ_=>⟨_,_,F⟩;cases c6;rw[be.1 bS]at aC;cases aC.2.2
    .rw[aX cM.u (dc.ext bh)];refine bi _ _ I _ bh bI (λcE c6 aC=>⟨F,szv,gz,M,gr,e6,e7,e5⟩) λe9=>?_;refine absurd ⟨c3.1,c3.2,?_⟩ (e9 s F);cases f:s.big with
     |false=>rfl
     |true=>exact absurd (be.2 f) bS
   .cases W
def Zero(so:Option aG):Prop:=∀s,so=σ s->s.told=0/\s.toks.length<=100000
def Zero.big{so:Option aG}(h:Zero so)(b:Bool):Zero (so.map (bc b)):=λs V=>by
 cases so with
 |none=>cases V
 |some s0=>cases V;exact h s0 F
def zero_num{lo hi:Int}{so:Option aG}(h:Zero so):Zero ((bg lo hi so).map (·.2)):=λs V=>by
 cases so with
 |none=>cases V
 |some s0=>
  have V:U4 (λx=>x.2) (bi lo hi s0)=σ s:=V;cases a:bi lo hi s0 with
  |none=>rw[a]at V;cases V
  |some q=>
   obtain⟨n,s1⟩:=q;rw[a]at V;cases V;have e:=dj a;have:=e.1;obtain⟨h1,f⟩:=h s0 F;exact⟨e.eqs.1.trans h1,by show s1.toks.length<=100000;omega⟩
def Qi{so:Option aG}(h:Zero so):Zero ((kM so).map (·.2)):=λs V=>by
 cases so with
 |none=>cases V
 |some s0=>
  have V:U4 (λx=>x.2) (dK s0)=σ s:=V;cases a:dK s0 with
  |none=>rw[a]at V;cases V
  |some q=>
   obtain⟨n,s1⟩:=q;rw[a]at V;cases V;obtain⟨aa,ab⟩:=rU a;obtain⟨h1,e⟩:=h s0 F;have:s0.toks.length=s1.toks.length+1:=by rw[aa];rfl
   exact⟨by show s1.told=0;rw[ab];exact h1,by show s1.toks.length<=100000;omega⟩
def Qj{a:Λ}{so:Option aG}{f:b3}(h:iI ⟨(lex a).1,0,false,[]⟩=so.map λs=>(f,s))(e:¬65536<a.length):fR a=so.bind λs=>if s.toks=[]/\(lex a).2=true/\s.big=false then σ f else ν:=by
 unfold fR;rw[if_neg e,h]<;>cases so<;>rfl
def Qk{a:Λ}(e:a.length<=60000):(∀t∈(lex a).1,Bytes t/\t.length<=65536)/\(lex a).1.length<=60000:=by
 refine⟨λt f=>?_,X3 (ql a.length a (o4 _)) e⟩;obtain⟨_,h,q⟩:=ud a.length a (o4 _) t f;refine⟨λb p=>?_,Ω⟩;have:=of_decide_eq_true (h b p);omega
def E3{p:x1}{E:Λ}(au:aK .u8 w p E)(ct:Bytes E)(cu:E.length<=60000):an x7 Ii [p] w (Qg w E):=by
 obtain⟨cw,dP⟩:=Qk cu;refine aA func56 ?_;rw[aX cM.u au,bL,am];refine⟨λh=>Ω,λ_=>?_⟩;refine(P4 au ct Ω).mono ?_;rintro _ aa _ ⟨aO,ax,bk,bad,rfl,bl,bn,cA,dQ,bo⟩;rw[bq,br,aX cM.u (au.ext aO),cJ (cs:=#[ax,Δ (E.length:Int),Δ 4,Δ 0,Δ 0,Δ 0,Δ 0,Δ 0,.slice ν 0 0]) (by obtain⟨_,_,_,_,_,rfl,_⟩:=bl;kernel_rfl)];refine bh λg ab dR aD X=>?_;have X:ah ab g bF (iW ax (E.length:Int) 4 0 0 0 0 0 (.slice ν 0 0)):=X;have dS:=aO.size;have dT:=aD.size;have dU:=X.lt;refine da (λG=>Ext w G/\ai (λr=>r=g) ab G/\∃Y Z:Int,Z≠0/\ah G g bF (iW ax Y Z 0 0 0 0 0 (.slice ν 0 0))) ?_ ?_
 rotate_left
 .intro aB S;have bs:=aO.trans aD;rw[cO,am];refine⟨λ_=>?_,λ_=>S _ ⟨bs,ai.refl _ _,_,_,Ω,X⟩⟩;rw[bZ,aW bF.p F];refine bp (g:=g) (o:=1) aj.i F rfl X (by simp[iW]) λdV cB dW cC=>?_;rw[bZ,aW bF.p F];refine bp (g:=g) (o:=2) aj.i F rfl cC (by simp[iW]) λdX cD dY cE=>?_;have I:=cB.trans cD;exact S _ ⟨bs.then I λr A he=>by have he:r=g:=he;omega,I,bad,11,Ω,cE⟩
 rintro G ⟨bt,aQ,Y,Z,cF,bx⟩;have z3:=aQ.size;have cG:bO G g G.heap.size bU 100000 (σ ⟨(lex E).1,0,false,[]⟩):=by
  refine⟨o4 _,G,ax,bk,0,_,[],[],Y,Z,0,0,0,0,0,F,ai.refl _ _,⟨_,bx⟩,bx,⟨⟨?_,λr A=>?_⟩,bm.nil _ _ _ _ _,F,λi h x hi=>by simp at hi⟩,λr A=>eW A,F,cF,Ξ,λ_=>rfl,trivial,bn,cw,F,?_⟩
  .refine (bl.ac (aD.ac λ_=>False) λ_ _ h=>h).ac aQ λr A he=>?_;have he:r=g:=he;obtain⟨c,O⟩:=bo r A;have:=O.lt;omega
  .obtain⟨c,O⟩:=bo r A;exact⟨c,(O.ext aD).ac aQ λhe=>by have he:r=g:=he;have:=O.lt;omega⟩
  .have:bk.length=(lex E).1.length:=by rw[<-bn,r9]
   simp only[List.length_nil];omega
 have dZ:∀{R:x3}{cH N:Nat}{H:ak}{so:Option aG},bO R g cH H N so->True:=λ_=>trivial;rw[cJ (cs:=#[bW [],Δ 0,.slice ν 0 0,.slice ν 0 0]) Ψ];refine bh λC cI ea aR aE=>?_;have aE:ah cI C eb [bW [],Δ 0,.slice ν 0 0,.slice ν 0 0]:=aE;have ec:G.heap.size<=C:=Ω
 have ed:=aE.lt;have cK:C≠g:=Ω
 have K:∀{R ad:x3}{c:List x1},ah R C eb c->ai (λr=>r=g) R ad->ah ad C eb c:=λO I=>O.ac I λhe=>cK he;refine(EU (cG.ext aR)).mono ?_;rintro _ cL _ ⟨⟨aS,cN⟩,t,bz,rfl,ee,ef,cQ⟩;refine bu cz.i λbA eg eh cR cS=>?_;refine b7 (vs:=[bW t,Δ bz]) cz.i F rfl (by intro v ae;simp at ae;rcases ae with rfl|rfl<;>rfl) cS λcU cV ei bB=>?_;have aF:Ext cL cU:=cR.put cV Ω;have cW:=(K aE aS).ext aF;rw[aL cz.p 0 bB F,bZ,aW eb.p F];refine bp (g:=C) (o:=0) cT.i F rfl cW Ξ λbC aU ej aY=>?_;have aY:=aY;have cX:=(cN.ext aF).new aU λr A=>by have A:r=C:=A;omega
 have z4:=aR.size;have z5:=aS.size;have ek:=aF.size;have bD:ah bC bA cz [bW t,Δ bz]:=bB.ac aU λhe=>by have he:bA=C:=he;omega
 rw[aL cz.p 0 bD F,ph cT.u,bL,aL cz.p 1 bD F];have cY:ai (λr=>w.heap.size<=r) w bC:=((((bt.ac _).trans (aR.ac _)).trans (aS.mono λr _ h=>by have h:r=g:=h;omega)).trans (aF.ac _)).trans (aU.mono λr _ h=>by have h:r=C:=h;omega);have up:∀{R ad:x3},ai (λr=>w.heap.size<=r) w R->ai (λr=>r=g) R ad->ai (λr=>w.heap.size<=r) w ad:=λh k=>h.trans (k.mono λr _ h=>by have h:r=g:=h;omega);refine(oo cX).mono ?_;rintro _ em _ ⟨bE,ag⟩;have cZ:=up cY bE;have c0:=K aY bE;generalize aZ:(((kM (σ ⟨(lex E).1,0,false,[]⟩)).map (·.2)).map (bc (decide ((64:Int)<(t.length:Int)))))=a1 at ag;refine(l2 ag).mono ?_;rintro _ en _ ⟨⟨bG,c1⟩,n,eo,rfl,bH,c2⟩;rw[bq,br,bL];refine(oo c1).mono ?_;rintro _ ep _ ⟨bI,bJ⟩;have c3:=up (up cZ bG) bI;have c4:=K (K c0 bG) bI;generalize bK:((bg 1 4611686018427387904 a1).map (·.2)).map (bc (decide (64<n)))=a2 at bJ;refine(l2 bJ).mono ?_;rintro _ er _ ⟨⟨bM,bN⟩,most,es,rfl,hm,c5⟩;rw[bq,br];generalize bP:(bg 1 4611686018427387904 a2).map (·.2)=a6 at bN;refine(l2 bN).mono ?_;rintro _ et _ ⟨⟨bQ,c6⟩,a7,eu,rfl,bR,c7⟩;rw[bq,br,bL];refine(oo c6).mono ?_;rintro _ ev _ ⟨bS,bV⟩;generalize bY:((bg 0 4611686018427387904 a6).map (·.2)).map (bc (decide (256<a7)))=b0 at bV;refine(l2 bV).mono ?_;rintro _ ew _ ⟨⟨b1,c8⟩,k,ey,rfl,hk,ez⟩;rw[bq,br,bL];refine(oo c8).mono ?_;rintro _ eA _ ⟨b2,b3⟩;generalize b4:((bg 1 4611686018427387904 b0).map (·.2)).map (bc (decide (2147483648<k)))=al at b3;have c9:=up (up (up (up (up c3 bM) bQ) bS) b1) b2;have db:=K (K (K (K (K c4 bM) bQ) bS) b1) b2;rw[bZ,aW eb.p F];refine bp (g:=C) (o:=1) av.i F rfl db Ξ λdc b5 eB ba=>?_;have ba:=ba;have dd:=b3.new b5 λr A=>by have A:r=C:=A;omega
 have b6:ai (λr=>w.heap.size<=r) w dc:=c9.trans (b5.mono λr _ h=>by have h:r=C:=h;omega);have eC:0<=n/\n<=4611686018427387904:=by
  cases B:bg 1 4611686018427387904 a1 with
  |none=>have:=c2 B;omega
  |some q=>have ag:=bH q B;have:=og B;omega
 have eD:0<=most/\most<=4611686018427387904:=by
  cases B:bg 1 4611686018427387904 a2 with
  |none=>have:=c5 B;omega
  |some q=>have ag:=hm q B;have:=og B;omega
 have de:0<=a7/\a7<=4611686018427387904:=by
  cases B:bg 0 4611686018427387904 a6 with
  |none=>have:=c7 B;omega
  |some q=>have ag:=bR q B;have:=og (s':=q.2) B;omega
 have df:Zero (σ (⟨(lex E).1,0,false,[]⟩:aG)):=λs V=>by cases V;exact⟨F,by simp only;omega⟩
 have dg:Zero a1:=by rw[<-aZ];exact(Qi df).big _
 have dh:Zero a2:=by rw[<-bK];exact(zero_num dg).big _
 have di:Zero a6:=by rw[<-bP];exact zero_num dh
 have dk:Zero b0:=by rw[<-bY];exact(zero_num di).big _
 have b8:Zero al:=by rw[<-b4];exact(zero_num dk).big _
 have eF:=b6.size;refine⟨λbb P=>∃i:Nat,bb=Δ (i:Int)/\i<=n.toNat/\ai (λr=>w.heap.size<=r) w P/\∃szv gz acc so,ah P C eb [bW t,Δ k,szv,.slice ν 0 0]/\ay .i64 av P gz szv acc/\(∀r,leads szv r->G.heap.size<=r)/\bO P g G.heap.size bU 100000 so/\mH (fQ most) n.toNat i al acc so/\∀s,so=σ s->s.told=0/\acc.length+s.toks.length<=100000/\∀z∈acc,1<=z/\z<=aw,λbb _=>n.toNat-(bT bb).toNat,
  ⟨0,F,X8 _,b6,_,0,[],al,ba,ay.nil _ _ _ _,(λr A=>by obtain⟨a,aH,c,Y,Z⟩:=A;cases Y),dd,?_,λs V=>⟨(b8 s V).1,by simpa using(b8 s V).2,λz dl=>by cases dl⟩⟩,?_⟩
 .unfold mH;cases al<;>rfl
 rintro _ P ⟨i,rfl,hi,bd,szv,gz,acc,so,b9,ca,cb,ao,be,cd⟩;refine aV (λv dm=>P=dm/\((v= .bool true/\i<n.toNat/\∃s,so=σ s)\/(v= .bool false/\(so=ν\/i=n.toNat)))) ?_ ?_
 rotate_left
 .intro aB S;rw[aP,am];refine⟨λce=>?_,λeI=>S _ _ ⟨F,.inr ⟨F,.inr Ω⟩⟩⟩;rw[mG ao];cases so with
  |none=>exact S _ _ ⟨F,.inr ⟨F,.inl F⟩⟩
  |some s=>exact S _ _ ⟨F,.inl ⟨F,Ω,s,F⟩⟩
 rintro _ _ ⟨rfl,⟨rfl,ce,s,rfl⟩|⟨rfl,dn⟩⟩
 .rw[bX];obtain⟨dp,eJ,dq⟩:=cd s F;refine(l2 ao).mono ?_;rintro _ eK _ ⟨⟨dr,ds⟩,z,eL,rfl,bf,eM⟩;rw[bq,br,bL];refine(oo ds).mono ?_;rintro _ eN _ ⟨dt,du⟩;have aI:=dr.trans dt;have cf:=K b9 aI;have dv:∀r,r=g->iu P r\/P.heap.size<=r:=λr A=>(l3 ao r A).imp (λ⟨e,c,O,dw,dx,_⟩=>⟨e,c,O,dw,dx⟩) id;have cg:=eH ca aI dv;rw[aT eb.p 2 cf F];refine eE az.u av.i F λa22 eO dy eP W dz=>?_;refine iU az.u av.i F (cg.ext W) dz.ls Θ Θ λdA dC eQ aJ dD ch=>?_;have ci:=cf.ext W;have cj:=ci.ac ch λhe=>cc (cg.ext W) ci Φ he F;rw[bZ,aW eb.p F];refine bp (g:=C) (o:=2) az.i aJ.ls.cells.1 aJ.ls.cells.2 cj Ξ λdE ck eR bj=>?_;have bj:=bj;rw[aM,wrap_i64 Ω Ω];have cl:ai (λr=>leads szv r\/r=C) dy dE:=(ch.mono λr _ h=>.inl h).trans (ck.mono λr _ h=>.inr h);have cm:∀r,(leads szv r\/r=C)->G.heap.size<=r:=λr A=>A.elim (cb r) λA=>Ω
  have eS:=bt.size;have eU:=aI.size;have z22:=W.size;have eV:=bd.size;have eX:=ao.lt;refine⟨⟨i+1,F,Ω,((up bd aI).trans (W.ac _)).trans (cl.mono λr _ h=>by have:=cm r h;omega),dA,dC,acc++[z],((bg 1 most (σ s)).map (·.2)).map (bc (decide (32<z))),bj,bw aJ ck λr A he=>?_,λr A=>?_,(du.ext W).new cl cm,?_,λs' L=>?_⟩,by simp only[bT];omega⟩
  .have he:r=C:=he;subst he;exact cc aJ cj Φ A F
  .rcases dD r A with h|h
   .exact cb r h
   .omega
  .refine be.step ce ?_ λq B=>?_
   .show (U4 _ (bi 1 most s)).map _=_;unfold fQ;cases B:bi 1 most s with
    |none=>rfl
    |some q=>
     have:=bf q B;obtain⟨cn,aN⟩:=q;subst this;rfl
   .unfold fQ at B;cases M:bi 1 most s with
    |none=>rw[M]at B;cases B
    |some ap=>
     rw[M]at B;have:=bf ap M;obtain⟨cn,aN⟩:=ap;cases B;exact this
  .cases M:bi 1 most s with
   |none=>
    have L:(U4 (λx=>x.2) (bi 1 most s)).map (bc (decide (32<z)))=σ s':=L;rw[M]at L;cases L
   |some ap=>
    have L:(U4 (λx=>x.2) (bi 1 most s)).map (bc (decide (32<z)))=σ s':=L;rw[M]at L;have dF:=bf ap M;obtain⟨cn,aN⟩:=ap;cases L;have cp:=dj M;have jr:=(jj M).1;have eY:=cp.1;refine⟨by show aN.told=0;rw[cp.eqs.1];exact dp,?_,λy aq=>?_⟩
    .rw[r8];show acc.length+1+aN.toks.length<=100000;omega
    .rcases p9.1 aq with aq|aq
     .exact dq y aq
     .rw[j5.1 aq,dF];exact⟨jr.1,by unfold aw;have:=jr.2;simp only at*;omega⟩
 .rw[a8];have dG:al.bind (cP (fQ most) n.toNat [])=so.map λs=>(acc,s):=by
   unfold mH at be;rw[be];cases so with
   |none=>rfl
   |some s=>
    rcases dn with h|rfl
    .cases h
    .simp only[U9];rfl
  refine Qh bd b9 ca ao (λs V=>?_) Ω Ω au de λv J dH dI U dJ dK cq=>?_
  .obtain⟨dL,eZ,a3⟩:=cd s V;exact⟨λ_=>by rw[dL];omega,Ω,a3,Ω⟩
  .have dM:(decide ((64:Int)<(t.length:Int)))=decide (64<t.length):=by rw[U6,decide_eq_true_eq,decide_eq_true_eq];omega
   rw[dM]at aZ;have dN:=Qf aZ.symm (λq B=>cQ q B) bK.symm bH bP.symm hm bY.symm bR b4.symm hk dG dJ;have Q:=Qj dN Ω;have cr:¬0<=bad↔(lex E).2=true:=by
    rw[cA];cases (lex E).2<;>simp
   cases dI with
   |none=>
    obtain⟨aH,e,rfl⟩:=cq λs V=>by cases V
    exact⟨U,aH,e,λ_=>rfl,λf af=>by rw[Q]at af;cases af⟩
   |some s=>
    have Q:fR E=if s.toks=[]/\(lex E).2=true/\s.big=false then σ ⟨t,k,acc,dH⟩else ν:=Q;by_cases I:s.toks=[]/\(lex E).2=true/\s.big=false
    .rw[if_pos I]at Q;obtain⟨rfl,dO⟩:=dK s F ⟨I.1,cr.2 I.2.1,I.2.2⟩;exact⟨U,_,_,(λaf=>by rw[Q]at af;cases af),λf af=>⟨C,F,by rw[Q]at af;cases af;exact dO⟩⟩
    .rw[if_neg I]at Q;obtain⟨aH,e,rfl⟩:=cq λs' L aC=>by
      cases L;exact I ⟨aC.1,cr.1 aC.2.1,aC.2.2⟩
     exact⟨U,aH,e,λ_=>rfl,λf af=>by rw[Q]at af;cases af⟩
def E4{a b:Int}:an x7 J1 [Δ a,Δ b] w λv J=>v=Δ (min a b)/\Ext w J:=by
 refine aA func215 ?_;rw[aP,am];exact⟨λh=>⟨by congr 1;omega,Ext.refl _⟩,λh=>⟨by congr 1;omega,Ext.refl _⟩⟩
def Ql{z:kk}{x:cj}(h:gZ w z x)(P:(x.lines.map (·.1)).Nodup)(Q:aK .i64 w aN t):an x7 Kv [.agg (fw z).toArray,aN,Δ k] w λv J=>v=Δ (la x k t)/\Ext w J:=by
 obtain⟨⟨g1,R⟩,⟨au,S⟩,U,av,L,f,V,G⟩:=id h;refine aA func265 ?_;refine bh λW aa aw A a=>?_;have a:ah aa W bd (fw z):=by
  obtain⟨_,_,_,X⟩:=c6 R.ls;obtain⟨_,_,_,Y⟩:=c6 S.ls;obtain⟨_,_,_,_,_,Z,_⟩:=f.sl;simp only[fw,X,Y,Z]at a ⊢;exact a
 have ac:=f.ext A;have ad:L.length=x.lines.length:=by rw[<-G,r9]
 rw[aL bd.p 2 a F,aL bd.p 3 a F,et ec.u ac,U];refine bV.range L.length (λi q ab=>Ext aa ab/\∃c:Int,q=Δ c/\min c k=mB x k i t) f.le ⟨Ext.refl _,x.other,F,(DU x k t).symm⟩ ?_ ?_
 .rintro i _ ab ae hi ⟨e,c,rfl,r⟩ af;obtain⟨y,B⟩:=aI (l:=L) hi;obtain⟨gy,H⟩:=V y (x5 B);have C:=A.trans e;have ag:x.lines[i]?=σ (y.t,y.c):=by rw[<-G,x8,B];rfl
  have I:=DW (k:=k) P ag t;refine bB Ω ?_;refine aV (λq K=>Ext aa K/\∃c:Int,q=Δ c/\min c k=mB x k (i+1) t) ?_ ?_
  .rintro q K ai;rw[aM];exact af _ _ ai
  intro aB M;have N:=f.ext C;rw[dp F ec.u ci.i N hi,bN ci.p ci.i F (N.range B)];refine bu ci.i λap ax ay aj ak=>?_;refine b7 (vs:=pC y) ci.i F rfl (yA H) ak λaz al aC O=>?_;have s:=aj.put al Ω;rw[aL ci.p 0 O F];refine(yz ((H.ls.ext C).ext s) ((Q.ext C).ext s)).mono ?_;rintro _ aD _ ⟨rfl,E⟩;rw[am];refine⟨λhe=>?_,λao=>?_⟩
  .rw[aL ci.p 1 (O.ext E) F];refine M _ _ ⟨(e.trans s).trans E,y.c,F,?_⟩;rw[I,if_pos he.symm]
  .refine M _ _ ⟨(e.trans s).trans E,c,F,?_⟩;rw[I,if_neg λhe=>ao he.symm,r]
 .rintro _ ab ae ⟨e,c,rfl,r⟩;rw[ad,DV]at r;refine ca Ω ?_;refine E4.mono ?_;rintro _ aE _ ⟨rfl,aq⟩;exact⟨by rw[r],(A.trans e).trans aq⟩
def Qm{cR:x1}(h:aK .i64 w cR l)(L:l.Nodup)(ah:l.length<=64):an x7 Ku [cR] w λv J=>Ext w J/\∃g,ay .i64 aj J g v (bx l)/\∀r,leads v r->w.heap.size<=r:=by
 refine aA func264 ?_;have M:∀i,i<=64->(((Z4 i).map λ(v:Nat)=>(v:Int)).filter λv=>decide (v∈l)).length<=i:=λi _=>by
  have:=Q2 (λv=>decide (v∈l)) ((Z4 i).map λ(v:Nat)=>(v:Int));simp at this;omega
 refine bV.range 64 (λi e aa=>Ext w aa/\∃g,ay .i64 aj aa g e (((Z4 i).map λ(v:Nat)=>(v:Int)).filter λv=>decide (v∈l))/\∀r,leads e r->w.heap.size<=r) Ω ⟨Ext.refl _,0,ay.nil _ _ _ _,λr y=>by obtain⟨a,n,c,N,ai⟩:=y;cases N⟩ ?_ ?_
 .rintro i e aa k hi ⟨z,g,hm,C⟩ hk;refine bB Ω ?_;rw[aX az.u (h.ext z)];have O:=M i Ω;generalize P:(((Z4 i).map λ(v:Nat)=>(v:Int)).filter λv=>decide (v∈l))=A at hm O;refine bV.range l.length (λj e ab=>Ext w ab/\∃g,ay .i64 aj ab g e (A++(if(i:Int)∈l.take j then[(i:Int)]else[]))/\∀r,leads e r->w.heap.size<=r) h.le ⟨z,g,by simpa using hm,C⟩ ?_ ?_
  .rintro j Q ab R S ⟨q,E,f,s⟩ V;obtain⟨x,U⟩:=aI (l:=l) S;refine bB Ω ?_;refine aV (λe B=>Ext w B/\∃g,ay .i64 aj B g e (A++(if(i:Int)∈l.take (j+1)then[(i:Int)]else[]))/\∀r,leads e r->w.heap.size<=r) ?_ ?_
   .rintro ak B W;rw[aM];exact V _ _ W
   intro aB K;have G:(i:Int)∈l.take (j+1)↔(i:Int)∈l.take j\/(i:Int)=x:=by
    rw[u9,U,j4,p9,j5]
   rw[be az.u av.i Ψ (h.ext q) U,bf,am];refine⟨λhe=>?_,λX=>?_⟩
   .have Y:(i:Int)∉l.take j:=λhm=>by
     obtain⟨p,H⟩:=W3.1 hm;have Z:p<j:=by have:=(x4.1 H).1;rw[j6]at this;omega
     rw[Y2 Z,<-he]at H;have:=lW L H U;omega
    rw[if_neg Y,Y8]at f;refine eE ao.u aj.i F λa3 al B ap I ac=>?_;refine iU ao.u aj.i F (f.ext I) ac.ls Θ Θ λaq ad au ae af ag=>?_;have aw:=q.size;have z3:=I.size;refine K _ _ ⟨(q.trans I).then ag λr y he=>by have:=s r he;omega,ad,?_,λr y=>(af r y).elim (s r) λh=>Ω⟩;rw[if_pos (G.2 (.inr he.symm))];exact ae
   .refine K _ _ ⟨q,E,?_,s⟩;have:((i:Int)∈l.take (j+1))=((i:Int)∈l.take j):=propext ⟨λaC=>(G.1 aC).resolve_right λhe=>X he.symm,λaC=>G.2 (.inl aC)⟩;simp only[this];exact f
  .rintro Q ab R ⟨q,E,f,s⟩;rw[o9]at f;refine ca Ω ?_;rw[aM];refine hk _ _ ⟨q,E,?_,s⟩;rw[List.range_succ,Z9,List.filter_append,P];by_cases hm:(i:Int)∈l
   .rw[if_pos hm]at f;simpa[hm]using f
   .rw[if_neg hm]at f;simpa[hm]using f
 .rintro e aa k ⟨z,g,hm,C⟩;rw[aP,am];exact⟨λh=>Ω,λ_=>⟨z,g,hm,C⟩⟩
structure fy where
 aQ:x1
 szv:x1
 bb:x1
 sc:Λ
 cs:Λ
def dO(h:fy):List x1:=[h.aQ,h.szv,h.bb]
def qR(h:fy)(r:Nat):Prop:=leads h.bb r\/leads h.aQ r\/leads h.szv r
def fV(w:x3)(sizes:Λ)(h:fy):Prop:=(∃g,ay .i64 aj w g h.aQ h.sc)/\(∃g,ay .i64 aj w g h.szv (b2 sizes h.sc))/\∃g,ay .i64 av w g h.bb h.cs
def fV.ext{h:fy}(aC:fV w sizes h)(U:Ext w J):fV J sizes h:=by
 obtain⟨⟨g1,h1⟩,⟨a,e⟩,f,p⟩:=aC;exact⟨⟨g1,h1.ext U⟩,⟨a,e.ext U⟩,f,p.ext U⟩
def fV.one{h:fy}(aC:fV w sizes h):∀u∈dO h,u.oneCell'=true:=by
 obtain⟨⟨g1,h1⟩,⟨f,a⟩,p,e⟩:=aC;intro u hu;simp[dO]at hu;rcases hu with rfl|rfl|rfl
 .exact h1.ls.cells.2
 .exact a.ls.cells.2
 .exact e.ls.cells.2
def E5{f:b3}{x:cj}{ad:kk}(h:gZ w ad x)(aG:e9 N f)(bL:x∈f.funs)(cw:ay .i64 av w gz sv f.sizes):
  an x7 JZ [.agg (fw ad).toArray,sv,Δ f.k] w λv J=>Ext w J/\∃c:fy,v= .agg (dO c).toArray/\c.sc=bx x.scope/\c.cs=(jk f.sizes f.k x).2/\fV J f.sizes c/\∀r,qR c r->w.heap.size<=r:=by
 obtain⟨af,cz,dN⟩:=aG.funs x bL;have ae:=uR af aG.sizes.2.1;have bM:=uQ ae af.scope.1;have cA:(bx x.scope).length<=6:=by rw[bM.length_eq];exact cz
 have cB:=qH aG bL;have bO:=DM x.scope;obtain⟨⟨g1,aH⟩,⟨dP,cC⟩,dQ,dR,cD⟩:=id h;refine aA func212 ?_;refine bh λbg aa dS bP ag=>?_;have ag:ah aa bg bd (fw ad):=by
  obtain⟨L,cE,_⟩:=cD;obtain⟨_,_,_,E⟩:=c6 aH.ls;obtain⟨_,_,_,I⟩:=c6 cC.ls;obtain⟨_,_,_,_,_,cF,_⟩:=cE.sl;simp only[fw,E,I,cF]at ag ⊢;exact ag
 refine bu a1.i λbQ ab dT bi bj=>?_;have bk:=bP.trans bi;rw[aL bd.p 0 (ag.ext bi) F];refine(Qm (aH.ls.ext bk) af.scope.1 Ω).mono ?_;rintro aQ dU _ ⟨aJ,gr,bl,cG⟩;rw[cJ (cs:=#[aQ,.slice ν 0 0,.slice ν 0 0]) (by obtain⟨_,_,_,rfl⟩:=c6 bl.ls;kernel_rfl)];refine bu a1.i λB dV cH cI cK=>?_;refine b7 (vs:=[aQ,.slice ν 0 0,.slice ν 0 0]) a1.i F rfl (by intro u hu;simp at hu;rcases hu with rfl|rfl;exact bl.ls.cells.2;rfl) cK λQ cL dW W=>?_;have aK:=cI.put cL Ω;have bS:=(bk.trans aJ).trans aK;have R:=bl.ext aK;have bm:=((ag.ext bi).ext aJ).ext aK;have bT:=(bj.ext aJ).ext aK;have dX:=bk.size;have z3:=aJ.size;have dY:=bS.size;have dZ:=W.lt;have ea:=cH;rw[aL a1.p 0 W F,aX ao.u R.ls];have bW:∀v∈bx x.scope,0<=v/\v<f.sizes.length:=λv hm=>af.scope.2 v ((sd ae).1 hm);have bo:∀{J:x3},ai (λr=>r=B\/Q.heap.size<=r) Q J->Ext w J:=λbq=>bS.then bq λr s he=>Ω
 have br:(b2 f.sizes (bx x.scope)).length=(bx x.scope).length:=by simp[b2]
 refine cq.range (bx x.scope).length (λi S=>ai (λr=>r=B\/Q.heap.size<=r) Q S/\∃szv gs,ah S B a1 [aQ,szv,.slice ν 0 0]/\ay .i64 aj S gs szv ((b2 f.sizes (bx x.scope)).take i)/\∀r,leads szv r->Q.heap.size<=r) Ω
  ⟨ai.refl _ _,_,0,W,ay.nil _ _ _ _,λr s=>by obtain⟨a,n,c,E,I⟩:=s;cases E⟩ ?_ ?_
 .rintro i S cM hi ⟨K,szv,gs,cN,ak,aO⟩ cO;obtain⟨v,bs⟩:=aI (l:=(bx x.scope)) hi;have eb:=bW v (x5 bs);have cP:=bw R K λr s V=>by
   rcases V with rfl|V
   .exact cc R W Φ s F
   .obtain⟨E,I⟩:=bR R s;omega
  refine bB Ω ?_;rw[be ao.u aj.i Ψ cP.ls bs];intro ec al _ _;have bX:=cN.ext al;have cQ:f.sizes[v.toNat]?=σ (f.sizes.getD v.toNat 0):=by rw[u4,x6 Ω];rfl
  rw[aL a1.p 1 bX F,gf (y:=v) (i:=v.toNat) Ω az.u av.i Ψ (cw.ext ((bo K).trans al)).ls cQ];refine eE ao.u aj.i F λed ee cR ef ap cS=>?_;refine⟨.inl ap,?_⟩;have bY:=(ak.ext al).ext ap;refine iU ao.u aj.i F bY cS.ls Θ Θ λcT cU eg aP cV bZ=>?_;have b0:=bX.ext ap;have b1:=b0.ac bZ λhe=>cc bY b0 Φ he F;rw[aW a1.p F];refine bp (g:=B) (o:=1) ao.i aP.ls.cells.1 aP.ls.cells.2 b1 Ξ λcW b4 eh cX=>?_;rw[aM];have cY:ai (λr=>leads szv r\/r=B) cR cW:=(bZ.mono λr _ h=>.inl h).trans (b4.mono λr _ h=>.inr h);have cZ:=K.size;have ei:=(al.trans ap).size;refine cO _ ⟨((K.trans (al.ac _)).trans (ap.ac _)).trans (cY.mono λr _ h=>h.elim (λh=>.inr (aO r h)) .inl),cT,cU,cX,?_,λr s=>(cV r s).elim (aO r) λh=>Ω⟩;have e:(b2 f.sizes (bx x.scope)).take (i+1)=(b2 f.sizes (bx x.scope)).take i++[f.sizes.getD v.toNat 0]:=by
   unfold b2;rw[<-List.map_take,<-List.map_take,u9,bs,j4,Z9];rfl
  rw[e];exact bw aP b4 λr s he=>by
   have he:r=B:=he;subst he;exact cc aP b1 Φ s F
 rintro S cM ⟨K,szv,gs,bt,ak,aO⟩;rw[<-br,o9]at ak;refine ca Ω ?_;have ej:=bo K;have aS:cb (b2 f.sizes (bx x.scope)):=⟨by rw[br];exact cA,qG aG.sizes.2.2 bW⟩;have c0:=cB.small;rw[aL a1.p 1 bt F];refine(ul _ ak.ls aS).mono ?_;rintro c1 C _ ⟨aT,b5⟩;have ek:=jC aS.2;have em:=nq aS.2;have en:aR (b2 f.sizes (bx x.scope))<=4096:=c0;rw[jh db.u b5];have aU:ai (λr=>r=B\/Q.heap.size<=r) Q C:=K.trans (aT.ac _);have aq:=bt.ext aT;have b6:=ak.ext aT;have cZ:=K.size;have eo:=aT.size;have bz:ay .i64 aj C gr aQ (bx x.scope):=bw R aU λr s V=>by
  rcases V with rfl|V
  .exact cc R W Φ s F
  .obtain⟨E,I⟩:=bR R s;omega
 have bA:ah C bg bd (fw ad):=bm.ac aU λV=>V.elim (λhe=>by subst he;exact absurd (eG bm W) Φ) λh=>by have:=bm.lt;omega
 have b8:=bT.ac aU λV=>V.elim (λhe=>by have:=bj.lt;omega) λh=>by have:=bT.lt;omega
 have b9:∀{J:x3},ai (λr=>r=B\/C.heap.size<=r) C J->Ext w J:=λbq=>(bo aU).then bq λr s he=>by
  have he:r=B\/C.heap.size<=r:=he;omega
 have ep:B<C.heap.size:=aq.lt;refine cq.range (bn (b2 f.sizes (bx x.scope))).length (λq z=>ai (λr=>r=B\/C.heap.size<=r) C z/\∃bb aw,ah z B a1 [aQ,szv,bb]/\ay .i64 av z aw bb (((bn (b2 f.sizes (bx x.scope))).take q).map λt=>la x f.k (qu x.scope (bx x.scope) t))/\∀r,leads bb r->C.heap.size<=r) Ω
  ⟨ai.refl _ _,_,0,aq,ay.nil _ _ _ _,λr s=>by obtain⟨a,n,c,E,I⟩:=s;cases E⟩ ?_ ?_
 .rintro q z c2 c4 ⟨G,bb,aw,ax,aD,aY⟩ c5;obtain⟨t,aZ⟩:∃t,(bn (b2 f.sizes (bx x.scope)))[q]?=σ t:=⟨_,x6 c4⟩;have er:t.length=(bx x.scope).length:=by
   have c7:=rM aS.2 (i:=q) Ω;rw[c7]at aZ;cases aZ;rw[kD,br]
  have bC:=b9 G;have c8:au.rep (α:=List (Λ)) true (fo S.heap.size) bU z [c1] (bn (b2 f.sizes (bx x.scope))):=au.ac b5 G λr s h V=>by
   rcases h with h|h
   .have h:S.heap.size<=r:=h;have:=bt.lt;rcases V with V|V<;>omega
   .exact h
  have X:∀{M:Nat}{O:x1}{P:Λ},ay .i64 aj C M O P->ay .i64 aj z M O P:=λhm=>bw hm G λr s V=>by
   rcases V with rfl|V
   .exact cc hm aq Φ s F
   .obtain⟨E,I⟩:=bR hm s;omega
  have cd:=X bz;have ce:ah z bg bd (fw ad):=bA.ac G λV=>V.elim (λhe=>by subst he;exact absurd (eG bA aq) Φ) λh=>by have:=bA.lt;omega
  refine bB Ω ?_;refine il (α:=Λ) F rfl db.u ao.i Ψ c8 aZ λaN c9=>?_;have da:=c3 c9;rw[aL bd.p 0 ce F,aX az.u (aH.ls.ext bC)];have z12:=G.size;refine bV.range x.scope.length (λp H a2=>Ext z a2/\∃go,ay .i64 av a2 go H ((x.scope.take p).map λv=>t.getD ((bx x.scope).idxOf v) 0)/\∀r,leads H r->z.heap.size<=r) Ω ⟨Ext.refl _,0,ay.nil _ _ _ _,λr s=>by obtain⟨a,n,c,E,I⟩:=s;cases E⟩ ?_ ?_
  .rintro p H a2 dc dd ⟨Y,go,aE,cf⟩ de;obtain⟨v,bD⟩:=aI (l:=x.scope) dd;have df:v∈bx x.scope:=bM.mem_iff.2 (x5 bD);refine bB Ω ?_;have dg:=bC.trans Y;have dh:=ax.ext Y;have di:=cd.ext Y;rw[be az.u av.i Ψ (aH.ls.ext dg) bD,aL a1.p 0 dh F,aX ao.u di.ls];generalize cg:((x.scope.take p).map λv=>t.getD ((bx x.scope).idxOf v) 0)=A at aE;have es:A.length=p:=by rw[<-cg,r9,j6];omega
   refine bV.range (bx x.scope).length (λj H a7=>Ext z a7/\∃go,ay .i64 av a7 go H (A++if v∈(bx x.scope).take j then[t.getD ((bx x.scope).idxOf v) 0]else[])/\∀r,leads H r->z.heap.size<=r) Ω ⟨Y,go,by simpa using aE,cf⟩ ?_ ?_
   .rintro j dj a7 dk dl ⟨U,bE,Z,aF⟩ dm;obtain⟨u,hu⟩:=aI (l:=(bx x.scope)) dl;have dn:=cd.ext U;refine bB Ω ?_;refine aV (λH bF=>Ext z bF/\∃go,ay .i64 av bF go H (A++if v∈(bx x.scope).take (j+1)then[t.getD ((bx x.scope).idxOf v) 0]else[])/\∀r,leads H r->z.heap.size<=r) ?_ ?_
    .rintro et bF dp;rw[aM];exact dm _ _ dp
    intro aB ch;have bG:v∈(bx x.scope).take (j+1)↔v∈(bx x.scope).take j\/v=u:=by
     rw[u9,hu,j4,p9,j5]
    rw[be ao.u aj.i Ψ dn.ls hu,bf,am];refine⟨λhe=>?_,λbH=>?_⟩
    .have dq:v∉(bx x.scope).take j:=λhm=>by
      obtain⟨dr,bI⟩:=W3.1 hm;have ds:dr<j:=by have:=(x4.1 bI).1;rw[j6]at this;omega
      rw[Y2 ds,<-he]at bI;have:=lW bO bI hu;omega
     rw[if_neg dq,Y8]at Z;have dt:t[j]?=σ (t.getD ((bx x.scope).idxOf v) 0):=by
      have:(bx x.scope).idxOf v=j:=se bO (by rw[hu,he]);rw[this,u4,x6 (show j<t.length by omega)];rfl
     rw[be ao.u aj.i Ψ (da.ext U) dt];refine eE az.u av.i F λeu ev ew ey bJ du=>?_;refine iU az.u av.i F (Z.ext bJ) du.ls Θ Θ λez dv eA dw dx dy=>?_;have eB:=U.size;have eC:=bJ.size;refine ch _ _ ⟨(U.trans bJ).then dy λr s he=>by have:=aF r he;omega,dv,?_,λr s=>(dx r s).elim (aF r) λh=>Ω⟩;rw[if_pos (bG.2 (.inr he.symm))];exact dw
    .refine ch _ _ ⟨U,bE,?_,aF⟩;have:(v∈(bx x.scope).take (j+1))=(v∈(bx x.scope).take j):=propext ⟨λaC=>(bG.1 aC).resolve_right λhe=>bH he.symm,λaC=>bG.2 (.inl aC)⟩;simp only[this];exact Z
   .rintro dj a7 dk ⟨U,bE,Z,aF⟩;rw[o9,if_pos df]at Z;refine ca Ω ?_;rw[aM];refine de _ _ ⟨U,bE,?_,aF⟩;rw[u9,bD,j4,Z9,cg];exact Z
  .rintro H a2 dc ⟨Y,go,aE,cf⟩;rw[o9]at aE;refine ca Ω ?_;intro eD ci _ _;have a8:=Y.trans ci;have dz:=ax.ext a8;have dA:=ce.ext a8;rw[aL a1.p 2 dz F,bN bd.p bd.i F dA.range];refine(Ql (h.ext (bC.trans a8)) af.lines.1 (aE.ls.ext ci)).mono ?_;rintro _ eF _ ⟨rfl,bK⟩;refine⟨.inl bK,?_⟩;refine eE az.u av.i F λeH eI dC eJ ck dD=>?_;refine⟨.inl (bK.trans ck),?_⟩;have ba:=(a8.trans bK).trans ck;have cl:=aD.ext ba;refine iU az.u av.i F cl dD.ls Θ Θ λdE dF eK bc dG cm=>?_;have cn:=ax.ext ba;have cp:=cn.ac cm λhe=>cc cl cn Φ he F;rw[aW a1.p F];refine bp (g:=B) (o:=2) az.i bc.ls.cells.1 bc.ls.cells.2 cp Ξ λdH cr eL dI=>?_;rw[aM];have dJ:ai (λr=>leads bb r\/r=B) dC dH:=(cm.mono λr _ h=>.inl h).trans (cr.mono λr _ h=>.inr h);have eM:=ba.size;refine c5 _ ⟨(G.trans (ba.ac _)).trans (dJ.mono λr _ h=>h.elim (λh=>.inr (aY r h)) .inl),dE,dF,dI,?_,λr s=>(dG r s).elim (aY r) λh=>Ω⟩;rw[u9,aZ,j4,Z9];exact bw bc cr λr s he=>by
    have he:r=B:=he;subst he;exact cc bc cp Φ s F
 .rintro z c2 ⟨G,bb,aw,ax,aD,aY⟩;rw[o9]at aD;refine ca Ω ?_;have X:∀{M:Nat}{O:x1}{P:Λ},ay .i64 aj C M O P->ay .i64 aj z M O P:=λhm=>bw hm G λr s V=>by
   rcases V with rfl|V
   .exact cc hm aq Φ s F
   .obtain⟨E,I⟩:=bR hm s;omega
  let c:fy:=⟨aQ,szv,bb,bx x.scope,(jk f.sizes f.k x).2⟩;have dK:fV z f.sizes c:=⟨⟨gr,X bz⟩,⟨gs,X b6⟩,aw,aD⟩;rw[bN a1.p a1.i F (show z.rangeAt B 0 (dO c)from ax.range)];have ct:=b8.ac G λV=>V.elim (λhe=>by have:=bj.lt;omega) λh=>by have:=b8.lt;omega
  refine b7 (vs:=dO c) a1.i F rfl dK.one ct λdL cu eN dM=>?_;rw[fM a1.p a1.i F dM.range];have a6:∀{M:Nat}{O:x1}{P:Λ}{e:p8},e≠a1->ay .i64 e z M O P->ay .i64 e dL M O P:=λbH hm=>bw hm cu λr s he=>by
   have he:r=bQ:=he;exact cc hm ct bH s he
  refine⟨(b9 G).then cu λr s he=>by have he:r=bQ:=he;have:=bP.size;omega,c,F,F,F,⟨⟨gr,a6 Φ (X bz)⟩,⟨gs,a6 Φ (X b6)⟩,aw,a6 Φ aD⟩,λr s=>?_⟩;rcases s with s|s|s
  .have:=aY r s;omega
  .have:=cG r s;omega
  .have:=aO r s;omega
def E6{h:fy}{g:Nat}(e:fV w sizes h)(a:ah J g a1 (x1.agg (dO h).toArray).cells.toList):ah J g a1 (dO h):=by
 obtain⟨⟨g1,h1⟩,⟨x,f⟩,y,p⟩:=e;obtain⟨_,_,_,q⟩:=c6 h1.ls;obtain⟨_,_,_,r⟩:=c6 f.ls;obtain⟨_,_,_,s⟩:=c6 p.ls;simp only[dO,q,r,s]at a ⊢;exact a
def Qn{a b:fy}(Q:fV w sizes a)(R:fV w sizes b)(W:lh a.sc)(X:lh b.sc):an x7 Bh [.agg (dO a).toArray,.agg (dO b).toArray] w λv J=>v= .bool (decide (de a.sc<de b.sc))/\Ext w J:=by
 obtain⟨⟨ga,S⟩,_⟩:=id Q;obtain⟨⟨aw,Y⟩,_⟩:=id R;have H:=(xP W X).1;refine aA func213 ?_;refine bh λg1 aa ax Z I=>?_;refine bh λac ab ay V L=>?_;have I:=(E6 Q I).ext V;have L:=E6 R L;have q:=Z.trans V;have r:=S.ls.ext q;have A:=Y.ls.ext q;have s:∀{J:x3},Ext ab J->∀{K:x1->Prop},ad x7 (u6 a1 (Γ g1) 0) J (λt=>ad x7 (u5 ao t) J K)=K a.aQ:=λU K=>by
  rw[aL a1.p 0 (I.ext U) F]
 have B:∀{J:x3},Ext ab J->∀{K:x1->Prop},ad x7 (u6 a1 (Γ ac) 0) J (λt=>ad x7 (u5 ao t) J K)=K b.aQ:=λU K=>by
  rw[aL a1.p 0 (L.ext U) F]
 rw[s (Ext.refl _),aX ao.u r,B (Ext.refl _),aX ao.u A,bA,am];refine⟨λae=>?_,λaf=>?_⟩
 .rw[s (Ext.refl _),aX ao.u r,B (Ext.refl _),aX ao.u A,aP];refine⟨?_,q⟩;congr 1;rw[U6,decide_eq_true_eq,decide_eq_true_eq,H];exact⟨λh=>.inl Ω,λh=>by rcases h with h|h<;>omega⟩
 have ag:a.sc.length=b.sc.length:=by have:=Y3.1 af;omega
 rw[s (Ext.refl _),aX ao.u r];refine bV.range a.sc.length (λi _ M=>Ext ab M/\∀(j:Nat)(x y:Int),j<i->a.sc[j]?=σ x->b.sc[j]?=σ y->x=y) S.ls.le ⟨Ext.refl _,λj x y ah=>Ω⟩ ?_ ?_
 .rintro i _ M k hi ⟨N,C⟩ hk;obtain⟨x,U⟩:=aI (l:=a.sc) hi;obtain⟨y,E⟩:=aI (l:=b.sc) (i:=i) Ω;have e:=u3 C Ω Ω;have ai:a.sc.drop i=x::a.sc.drop (i+1):=by rw[X5 hi,(x4.1 U).2]
  have ak:b.sc.drop i=y::b.sc.drop (i+1):=by rw[X5 (show i<b.sc.length by omega),(x4.1 E).2]
  rw[ai,ak]at e;simp only[jJ]at e;refine bB Ω ?_;intro az al _ _;have f:=N.trans al;rw[s f,be ao.u aj.i Ψ (r.ext f) U,B f,be ao.u aj.i Ψ (A.ext f) E,bA,am];refine⟨λae=>?_,λhe=>?_⟩
  .intro aB ap _ _;have z:=f.trans ap;rw[s z,be ao.u aj.i Ψ (r.ext z) U,B z,be ao.u aj.i Ψ (A.ext z) E,aP];refine⟨?_,q.trans z⟩;congr 1;rw[U6,decide_eq_true_eq,decide_eq_true_eq,H,e];by_cases G:x<y
   .rw[if_pos G];exact⟨λ_=>.inr ⟨ag,Ω⟩,λ_=>G⟩
   .rw[if_neg G,if_pos (show y<x by omega)];exact⟨λh=>absurd h G,λh=>by rcases h with h|h<;>omega⟩
  .rw[aM];refine hk _ _ ⟨f,λj aq au ah O P=>?_⟩;by_cases av:j=i
   .subst av;rw[U]at O;rw[E]at P;cases O;cases P;exact Y3.1 he
   .exact C j aq au Ω O P
 .rintro _ M k ⟨N,C⟩;rw[aP,am];refine⟨λh=>Ω,λ_=>⟨?_,q.trans N⟩⟩;congr 1;symm;rw[decide_eq_false_iff_not,H];have e:=u3 C (o4 _) Ω;rw[List.drop_length,show b.sc.drop a.sc.length=[]from List.drop_eq_nil_of_le Ω]at e;rw[e];simp only[jJ];omega
def dE(h:fy):cK:=(h.sc,h.cs)
def l4(w:x3)(B g:Nat)(v:x1)(sizes:Λ)(L:List fy):Prop:=bm dO 3 a1 w g v L/\(∀h∈L,fV w sizes h/\∀r,qR h r->B<=r)/\(∀(i j:Nat)x y,L[i]?=σ x->L[j]?=σ y->i≠j->∀r,leads x.bb r->¬leads y.bb r)/\∀r,leadsTo v r->B<=r
def oq{h:fy}(z:fV w sizes h)(s:ai S w J)(x:∀r,S r->(∃e c,ah w r e c/\e≠aj/\e≠av)\/w.heap.size<=r\/((∃c,ah w r av c)/\¬leads h.bb r)):fV J sizes h:=by
 obtain⟨⟨g1,h1⟩,⟨A,B⟩,C,p⟩:=z;have y:∀{g:Nat}{v:x1}{l:Λ},ay .i64 aj w g v l->ay .i64 aj J g v l:=λhm=>bw hm s λr a V=>by
  rcases x r V with⟨e,c,f,q,_⟩|E|⟨⟨c,f⟩,_⟩
  .exact cc hm f (λhe=>q he.symm) a rfl
  .obtain⟨F,G⟩:=bR hm a;omega
  .exact cc hm f Φ a rfl
 refine⟨⟨g1,y h1⟩,⟨A,y B⟩,C,bw p s λr a V=>?_⟩;rcases x r V with⟨e,c,f,_,q⟩|E|⟨_,H⟩
 .exact cc p f (λhe=>q he.symm) a rfl
 .obtain⟨F,G⟩:=bR p a;omega
 .exact H a
def l4.ext{g:Nat}{L:List fy}(h:l4 w B g v sizes L)(U:Ext w J):l4 J B g v sizes L:=⟨h.1.ext U,λx a=>⟨(h.2.1 x a).1.ext U,(h.2.1 x a).2⟩,h.2.2⟩
section
variable{α:Type}{f:α->List x1}{k:Nat}{P:W9}{w:x3}{e:p8}{g:Nat}{v:x1}{L:List α}
def Qo{M:List α}(h:bm f k e w g v L)(af:L.map f=M.map f):bm f k e w g v M:=by
 have p:L.length=M.length:=by have:=congrArg R2 af;simpa using this
 have hm:L.flatMap f=M.flatMap f:=by rw[List.flatMap_def,List.flatMap_def,af]
 refine⟨by rw[<-p,<-hm];exact h.1,λa q=>?_⟩;obtain⟨b,r,he⟩:=c7.1 (show f a∈L.map f by rw[af];exact c7.2 ⟨a,q,F⟩);rw[<-he];exact h.2 b r
def E7{t:p8}{b l a7:Nat}{low high:Option x1}(s:P.underlying t=σ (.slice e))(hi:aS P e k b z)(h:bm f k e w g v L)(h1:ni low l)(x:nj high L.length a7)(q:l<=a7)(aC:a7<=L.length)(y:∀r,(∀J,bm f k e J g v L->cf J k r ((L.drop l).take (a7-l)).length (((L.drop l).take (a7-l)).flatMap f))->K r):ad P (U5 t v low high ν) w K:=by
 have A:=h.sl;obtain⟨_,C,o,base,cap,rfl,E,_⟩:=A;rw[ij s hi h1 x ff q Ω (o4 _)];refine y _ λJ p=>?_;have:=cf.part (l:=l) (h:=a7) (m:=cap) p.sl q aC Ω (o4 _);rw[uH l p.2,qz (a7-l) (λa B=>p.2 a (List.mem_of_mem_drop B))]at this;have el:((L.drop l).take (a7-l)).length=a7-l:=by rw[j6,List.length_drop];omega
 rw[el];exact this
def vo{t O:p8}{b:Nat}{x:x1}{M:List α}{K:x1->x3->Prop}(A:P.underlying t=σ (.slice e))(hi:aS P e k b z)(G:z.cells.size=k)(h:bm f k e w g v L)(U:cf w k x M.length (M.flatMap f))(Q:∀a∈M,(f a).length=k)(h1:∀a∈M,∀u∈f a,u.oneCell'=true)(B:(L.length+M.length)*b<=140737488355328)(H:L.length+M.length<=9223372036854775807)(I:∀p q J,bm f k e J q p (L++M)->(∀r,leadsTo p r->leadsTo v r\/w.heap.size<=r)->ai (λr=>leadsTo v r) w J->K p J):aF P (Z5 #[t,t] O #[v,x]) w K:=by
 have N:∀u∈M.flatMap f,u.oneCell'=true:=λu hu=>by
  obtain⟨a,R,hu⟩:=X9.1 hu;exact h1 a R u hu
 have C:∀p q J,b1 J q e k p (L.length+M.length) (L.flatMap f++M.flatMap f)->bm f k e J q p (L++M):=λp q J hm=>⟨by simpa using hm,λb B=>by
  rcases p9.1 B with a7|a7
  .exact h.2 b a7
  .exact Q b a7⟩
 rcases h.1.2 with⟨ae,S⟩|⟨cap,cs,ae,T,_⟩
 .have hm:b1 w w.heap.size e k v L.length (L.flatMap f):=⟨h.1.1,.inl ⟨ae,S⟩⟩;subst ae;refine o7 A A hi G hm U N (by simpa using B) (by simpa[maxLen]using H) λp q J E s F=>I p q J (C _ _ _ s) (λr y=>.inr ?_) (F.mono λr y h=>Ω);have:=((C _ _ _ s).leads y).1;omega
 .refine o7 A A hi G h.1 U N (by simpa using B) (by simpa[maxLen]using H) λp q J E s F=>I p q J (C _ _ _ s) (λr y=>?_) (F.mono λr y h=>⟨_,_,_,ae,h.symm⟩);have:=((C _ _ _ s).leads y).1;rcases E with E|E
  .exact .inl ⟨_,_,_,ae,by show g=r;omega⟩
  .exact .inr Ω
def Qp{t:p8}{b:Nat}{K:x1->x3->Prop}(a:P.underlying t=σ (.slice e))(hi:aS P e k b z)(h:∀v g J,g=w.heap.size->Ext w J->bm f k e J g v []->K v J):aF P (Y5 t 0 #[]) w K:=
 lK a hi Ω (cs:=#[]) (by simp[Instr.fill]) λg J p q r=>by
  exact h _ g J p q ⟨by simpa using b1.full (n:=0) r Ξ (by simp[maxLen]),λc s=>by cases s⟩
end
def yC{α:Type}{A B:List α}{s:Nat}{a:α}(V:s<B.length)(e:A[s]?=σ a):(A.take s++B.drop s).set s a=A.take (s+1)++B.drop (s+1):=by
 have:=(x4.1 e).1;have h1:(A.take s).length=s:=by rw[j6];omega
 rw[S2 _ _ Ω,h1,U9,X5 V,List.set_cons_zero,u9,e,j4,X6];rfl
def E8{α:Type}{A B:List α}{s:Nat}(V:s<=A.length):(A.take s++B.drop s)[s]?=B[s]?:=by
 have h1:(A.take s).length=s:=by rw[j6];omega
 rw[X1 Ω,h1,U9,List.getElem?_drop,Nat.add_zero]
theorem E9{g:cK}:∀{l:List cK}{i:Nat},(∀p<i,∀x,l[p]?=σ x->de x.1<de g.1)->i<=l.length->(∀x,l[i]?=σ x->¬de x.1<de g.1)->iO g l=l.take i++g::l.drop i
 |[],i,_,a,_=>by
  have:i=0:=by simpa using a
  subst this;rfl
 |x::l,0,_,_,e=>by
  unfold iO;rw[if_neg (e x F)];rfl
 |x::l,i+1,h1,a,e=>by
  unfold iO;rw[if_pos (h1 0 Ω x F),E9 (λp h y f=>h1 (p+1) Ω y f) (by simpa using a) (λy f=>e y f)];rfl
def Qq{g:Nat}{L:List fy}{h:fy}{s:Nat}{K:Unit->x3->Prop}(f:l4 w B g v sizes L)(F:L[j]?=σ h)(V:s<h.cs.length)(Y:∀J,ai (λr=>leads h.bb r) w J->(∀r,leads h.bb r->∃c,ah w r av c)->l4 J B g v sizes (L.set j {h with cs:=h.cs.set s n})->K () J):
  ad x7 (c9 az h.bb (Δ (s:Int))) w λt=>aF x7 (l9 av t (Δ n)) w K:=by
 obtain⟨h1,O,P,Z⟩:=f;have M:=(x4.1 F).1;obtain⟨Q,aa⟩:=O h (x5 F);obtain⟨_,_,R,G⟩:=id Q;have H:∀r,leads h.bb r->∃c,ah w r av c:=λr f=>by
  obtain⟨rfl,_⟩:=bR G f;obtain⟨_,⟨ae,_⟩|⟨cap,full,_,A,_⟩⟩:=G
  .obtain⟨a,n,c,e,_⟩:=f;rw[ae]at e;cases e
  .exact⟨_,A⟩
 have ab:∀r,r=R->leads h.bb r:=λr he=>by
  subst he;obtain⟨_,⟨_,ay⟩|⟨cap,full,e,A,_⟩⟩:=G
  .omega
  .exact⟨_,_,_,e,rfl⟩
 rw[iK rfl az.u av.i G V];refine iL av.i G V λJ C aA af=>?_;have C:=C.mono λr _ he=>ab r he;refine Y J C H ⟨?_,λx U=>?_,λp q x y U ag aj r ak al=>?_,Z⟩
 .refine Qo (h1.ac C λr f V=>?_) ?_
  .obtain⟨c,A⟩:=H r V;exact cS h1 A Φ f
  .rw[T0];symm;refine Y9 λp=>?_;rw[X4,x8];by_cases z:j=p
   .subst z;rw[if_pos rfl,if_pos (by simpa using M),F];rfl
   .rw[if_neg z]
 .have am:x={h with cs:=h.cs.set s n}\/∃p,p≠j/\L[p]?=σ x:=by
   obtain⟨p,z⟩:=W3.1 U;rw[X4]at z;by_cases E:j=p
   .subst E;rw[if_pos rfl,if_pos M]at z;exact .inl (Z3 z).symm
   .rw[if_neg E]at z;exact .inr ⟨p,λh=>E h.symm,z⟩
  rcases am with rfl|⟨p,an,z⟩
  .obtain⟨⟨g1,S⟩,⟨ao,W⟩,_⟩:=Q;refine⟨⟨⟨g1,bw S C λr f V=>?_⟩,⟨ao,bw W C λr f V=>?_⟩,R,af⟩,aa⟩
   .obtain⟨c,A⟩:=H r V;exact cc S A Φ f rfl
   .obtain⟨c,A⟩:=H r V;exact cc W A Φ f rfl
  .obtain⟨ap,aq⟩:=O x (x5 z);refine⟨oq ap C λr f=>.inr (.inr ⟨H r f,λN=>P p j x h z F an r N f⟩),aq⟩
 .have X:∀{p:Nat}{x:fy},(L.set j {h with cs:=h.cs.set s n})[p]?=σ x->∃I,L[p]?=σ I/\I.bb=x.bb:=λ{p x}U=>by
   rw[X4]at U;by_cases E:j=p
   .subst E;rw[if_pos rfl,if_pos M]at U;cases U;exact⟨h,F,rfl⟩
   .rw[if_neg E]at U;exact⟨x,U,rfl⟩
  obtain⟨I,N,ex⟩:=X U;obtain⟨au,aw,ax⟩:=X ag;exact P p q I au N aw aj r (by rw[ex];exact ak) (by rw[ax];exact al)
def mI(f:b3)(j:Nat):List cK:=(((fq f).take j).filter fp).foldl (λl g=>iO g l) []
def Fa{f:b3}{x:cK}(h:(fq f)[j]?=σ x):mI f (j+1)=if fp x then iO x (mI f j)else mI f j:=by
 unfold mI;rw[u9,h,j4,List.filter_append,R3];cases V:fp x with
 |true=>rw[List.filter_cons_of_pos V];rfl
 |false=>rw[List.filter_cons_of_neg (by simp[V])];rfl
def Qr(f:b3):mI f (fq f).length=fs f:=by unfold mI fs;rw[o9]
theorem Fb(g:cK):∀l,(iO g l).length=l.length+1
 |[]=>rfl
 |h::l=>by
  unfold iO;split
  .rw[b9,Fb g l,b9]
  .rfl
def Qs{f:b3}(e:j<=(fq f).length):(mI f j).length<=j:=by
 induction j with
 |zero=>simp[mI]
 |succ j a=>
  have:=a Ω;rw[Fa (x6 Ω)];split
  .rw[Fb];omega
  .omega
def Qt{g:Nat}{l:x1}{f:b3}{L:List fy}{Q:x1->x3->Prop}(ay:e9 N f)(z:l4 w B g l f.sizes L)(aA:L.map dE=fq f)(bO:∀out J go s,Ext w J->bm dO 3 a1 J go out s->(∀h∈s,h∈L)->(∀h∈s,fV J f.sizes h)->s.map dE=fs f->(∀r,leadsTo out r->w.heap.size<=r)->Q out J):
  ad x7 (U1 #[cV] aj #[l]) w λbP=>
 bV (.slice ν 0 0) (Δ 0) w λout aD O bQ=>
  ad x7 (aO .lss aj false false aD bP) O λbR=>
  Split bR (cw (α:=x1->x3->Prop) (λ(bS:x1)(P:x3)=>
   ad x7 (aO .add aj false true aD (Δ 1)) P λbU=>
   bQ bS bU P) λbb=>
  ad x7 (c9 cV l aD) O λbW=>
  ad x7 (u5 a1 bW) O λbY=>
  aF x7 (Q6 a1 true (.tuple #[])) O λak bc=>
  aF x7 (l9 a1 ak bY) bc λ(_:Unit)K=>
  ad x7 (u6 a1 ak 2) K λbZ=>
  ad x7 (u5 az bZ) K λbd=>
  ad x7 (U1 #[az] aj #[bd]) K λb0=>
  bV (.bool false) (Δ 0) K λbf aE A b1=>
   ad x7 (aO .lss aj false false aE b0) A λb2=>
   Split b2 (cw (α:=x1->x3->Prop) (λ(b4:x1)(X:x3)=>
    ad x7 (aO .add aj false true aE (Δ 1)) X λb5=>
    b1 b4 b5 X) λbg=>
   ad x7 (c9 az bd aE) A λb6=>
   ad x7 (u5 av b6) A λb8=>
   Split bf (bg (.bool true) A)
    (ad x7 (aO .gtr av false true b8 (Δ 0)) A λb9=>
   bg b9 A))
    (ad x7 (Op.unary .not bf) A λcb=>
  Split cb (bb out A)
   (cq (Δ 0) A λi al cc=>
   cw (α:=x1->x3->Prop) (λ(ce:x1)(R:x3)=>
    Split ce (ad x7 (aO .add aj false true i (Δ 1)) R λcf=>
   cc cf R)
     (ey R λM=>
  ad x7 (u5 a1 ak) M λcg=>
  ad x7 (U5 cV out (σ i) ν ν) M λbh=>
  aF x7 (Y5 cV 1 #[(0,cg)]) M λch Y=>
   (Ext M Y\/cD x7 (U5 cV out (σ i) ν ν) bh Y/\True)/\
  aF x7 (Z5 #[cV,cV] cV #[ch,bh]) Y λci bi=>
   aF x7 (Y5 cV 0 #[]) bi λcj ao=>
  ad x7 (U5 cV out ν (σ i) ν) ao λck=>
  aF x7 (Z5 #[cV,cV] cV #[cj,ck]) ao λcl bj=>
  aF x7 (Z5 #[cV,cV] cV #[cl,ci]) bj λcm bk=>
  bb cm bk)) λbl=>
   ey al λE=>
   ad x7 (U1 #[cV] aj #[out]) E λcn=>
   ad x7 (aO .lss aj false false i cn) E λcp=>
   Split cp (ad x7 (c9 cV out i) E λcr=>
   ad x7 (u5 a1 cr) E λct=>
   ad x7 (u5 a1 ak) E λcu=>
   an x7 Bh [ct,cu] E λcz bn=>
    bl cz bn)
    (bl (.bool false) E))))
   (Q out O):=by
 have cA:L.length=(fq f).length:=by rw[<-aA,r9]
 have dh:L.length<=256:=by have:=(lY ay).2.2;have:=ay.mv;omega
 have bo:=(lY ay).1;rw[et cV.u z.1];refine bV.range L.length (λj out aa=>∃go s,Ext w aa/\bm dO 3 a1 aa go out s/\(∀h∈s,h∈L)/\s.map dE=mI f j/\∀r,leadsTo out r->w.heap.size<=r) z.1.le
  ⟨0,[],Ext.refl _,bm.nil _ _ _ _ _,λh aC=>(by cases aC),F,λr z=>(eW z).elim⟩ ?_ ?_
 rotate_left
 .rintro out aa cB ⟨go,s,bp,Z,H,ab,aG⟩;rw[aP,am];refine⟨λh=>Ω,λ_=>bO _ _ go s bp Z H (λh aC=>((z.ext bp).2.1 h (H h aC)).1) ?_ aG⟩;rw[ab,cA,Qr]
 rintro j out O cB bq ⟨go,s,ap,Z,H,ab,aG⟩ cC;obtain⟨h,aC⟩:=aI (l:=L) bq;have hm:(fq f)[j]?=σ (dE h):=by rw[<-aA,x8,aC];rfl
 have cE:=bo _ (x5 hm);have di:s.length<=256:=by
  have:=Qs (f:=f) (j:=j) Ω;rw[<-ab,r9]at this;omega
 have ae:=z.ext ap;obtain⟨aH,_⟩:=ae.2.1 h (x5 aC);obtain⟨_,_,dj,cF⟩:=id aH;refine bB Ω ?_;refine aV (λaJ P=>∃aK ag,Ext w P/\bm dO 3 a1 P aK aJ ag/\(∀h∈ag,h∈L)/\ag.map dE=mI f (j+1)/\∀r,leadsTo aJ r->w.heap.size<=r) ?_ ?_
 .rintro aJ P ⟨aK,ag,h1,cG,cH,cI,cJ⟩;rw[aM];exact cC _ _ ⟨aK,ag,h1,cG,cH,cI,cJ⟩
 intro aB ah;rw[dp F cV.u a1.i ae.1 bq,bN a1.p a1.i F (ae.1.range aC)];refine bu a1.i λbr bc dk cK cL=>?_;refine b7 (vs:=dO h) a1.i F rfl aH.one cL λK cM dl bs=>?_;have bt:=cK.put cM Ω;have aQ:=cF.ext bt;rw[aL a1.p 2 bs F,aX az.u aQ.ls];refine bV.range h.cs.length (λq sv A=>Ext K A/\sv= .bool ((h.cs.take q).any λc=>decide (0<c))) aQ.ls.le ⟨Ext.refl _,F⟩ ?_ ?_
 .rintro q _ A cN cO ⟨S,rfl⟩ cP;obtain⟨c,bw⟩:=aI (l:=h.cs) cO;have e:(h.cs.take (q+1)).any (λc=>decide (0<c))=((h.cs.take q).any (λc=>decide (0<c))||decide (0<c)):=by
   rw[u9,bw,j4,List.any_append];simp
  refine bB Ω ?_;refine aV (λsv X=>Ext K X/\sv= .bool ((h.cs.take (q+1)).any λc=>decide (0<c))) ?_ ?_
  .rintro _ X ⟨cQ,rfl⟩;rw[aM];exact cP _ _ ⟨cQ,F⟩
  intro aB ah;rw[be az.u av.i Ψ (aQ.ext S).ls bw,cd];refine⟨λcR=>ah _ _ ⟨S,by rw[e,cR];rfl⟩,λaf=>?_⟩;rw[bL];exact ah _ _ ⟨S,by rw[e,af];rfl⟩
 rintro _ A cN ⟨S,rfl⟩;have bx:=bs.ext S;have I:=bt.trans S;rw[o9];refine ca Ω ?_;rw[bM,cd];have aq:=Fa hm;have cS:(h.cs.any λc=>decide (0<c))=fp (dE h):=rfl;rw[cS];refine⟨λaR=>?_,λV=>?_⟩
 .have aR:fp (dE h)=false:=by simpa using aR
  rw[aR]at aq;exact ah _ _ ⟨go,s,ap.trans I,Z.ext I,H,by rw[ab,aq];rfl,aG⟩
 have V:fp (dE h)=true:=by simpa using V
 rw[V,if_pos F]at aq;refine⟨λaS al=>∃i:Nat,aS=Δ (i:Int)/\i<=s.length/\Ext A al/\∀p<i,∀x,s[p]?=σ x->de x.sc<de h.sc,λaS _=>s.length-(bT aS).toNat,⟨0,F,X8 _,Ext.refl _,λp aT=>Ω⟩,?_⟩;rintro _ al ⟨i,rfl,hi,cT,aU⟩;refine aV (λaN R=>Ext A R/\((aN= .bool true/\i<s.length/\∀x,s[i]?=σ x->de x.sc<de h.sc)\/(aN= .bool false/\∀x,s[i]?=σ x->¬de x.sc<de h.sc))) ?_ ?_
 rotate_left
 .intro dm aW;intro E cU _ _;have W:=cT.trans cU;have aY:=Z.ext (I.trans W);rw[et cV.u aY,aP,am];refine⟨λaU=>?_,λdn=>aW _ _ ⟨W,.inr ⟨F,λx U=>absurd (x4.1 U).1 Ω⟩⟩⟩;obtain⟨x,U⟩:=aI (l:=s) (i:=i) Ω;have bz:=H x (x5 U);have cW:=(bo (dE x) (by rw[<-aA];exact c7.2 ⟨x,bz,F⟩)).scope;have bA:=ae.ext (I.trans W);rw[dp F cV.u a1.i aY Ω,bN a1.p a1.i F (aY.range U),bN a1.p a1.i F (show E.rangeAt br 0 (dO h)from(bx.ext W).range)];refine(Qn (bA.2.1 x bz).1 (bA.2.1 h (x5 aC)).1 cW cE.scope).mono ?_;rintro _ bn _ ⟨rfl,bC⟩;by_cases au:de x.sc<de h.sc
  .rw[decide_eq_true au];exact aW _ _ ⟨W.trans bC,.inl ⟨F,Ω,λy C=>by rw[U]at C;cases C;exact au⟩⟩
  .rw[decide_eq_false au];exact aW _ _ ⟨W.trans bC,.inr ⟨F,λy C=>by rw[U]at C;cases C;exact au⟩⟩
 rintro _ R ⟨bD,⟨rfl,dq,cX⟩|⟨rfl,cY⟩⟩
 .rw[bX,aM,wrap_i64 Ω Ω];refine⟨⟨i+1,F,Ω,bD,λp aT x U=>?_⟩,by simp only[bT];omega⟩;by_cases cZ:p=i
  .subst cZ;exact cX x U
  .exact aU p Ω x U
 .rw[a8];intro M c0 _ _;have ai:=bD.trans c0;have aw:=Z.ext (I.trans ai);have c1:=ae.ext (I.trans ai);have aZ:∀x∈s,∀u∈dO x,u.oneCell'=true:=λx U=>(c1.2.1 x (H x U)).1.one;have c2:∀u∈dO h,u.oneCell'=true:=aH.one;rw[bN a1.p a1.i F (show M.rangeAt br 0 (dO h)from(bx.ext ai).range)];refine E7 cV.u a1.i aw (o2 i _ F) ky hi (o4 _) λdr bE=>?_;refine im cV.u a1.i Ω F rfl λds dt Y du a2 bF=>?_;refine⟨.inl a2,?_⟩;have c3:(s.drop i).take (s.length-i)=s.drop i:=Z2 (by rw[List.length_drop];omega);rw[c3]at bE;refine vo cV.u a1.i F bF (bE Y (aw.ext a2)) (λ_ _=>rfl) (λa G=>aZ a (List.mem_of_mem_drop G)) Θ Θ λdv dw bi a6 dx c4=>?_;have bG:=a2.then c4 λr z he=>by have:=(bF.leads he).1;omega
  refine Qp (f:=dO) (k:=3) cV.u a1.i λdy dz ao dA a7 ax=>?_;have ba:=bG.trans a7;refine E7 cV.u a1.i (aw.ext ba) kx (o3 i _ F) (X8 _) hi λdC bH=>?_;rw[List.drop_zero,Nat.sub_zero]at bH;refine vo cV.u a1.i F ax (bH ao (aw.ext ba)) (λ_ _=>rfl) (λa G=>aZ a (S4 G)) Θ Θ λc5 dD bj c6 c8 bI=>?_;have dF:=bG.size;have dG:=a7.size;have da:=(a6.ext a7).ac bI λr z V=>by have:=(a6.leads z).1;have:=(a6.leads z).2;have:=(ax.leads V).1;omega
  refine vo cV.u a1.i F c6 da.sl (λ_ _=>rfl) (λa G=>?_) Θ Θ λdH db bk dc dd df=>?_
  .rcases p9.1 G with G|G
   .rw[j5.1 G];exact c2
   .exact aZ a (List.mem_of_mem_drop G)
  have bJ:=ba.then bI λr z he=>by have:=(ax.leads he).1;omega
  have bK:∀r,leadsTo c5 r->M.heap.size<=r:=λr z=>(c8 r z).elim (λh=>by have:=(ax.leads h).1;omega) λh=>Ω
  have dg:=bJ.then df λr z he=>by have:=bK r he;omega
  have dI:=(ap.trans (I.trans ai)).size;have dJ:=bJ.size;refine ah _ _ ⟨db,_,(ap.trans (I.trans ai)).trans dg,dc,λx U=>?_,?_,λr z=>(dd r z).elim (λh=>by have:=bK r h;omega) λh=>Ω⟩
  .rcases p9.1 U with U|U
   .exact H x (S4 (by simpa using U))
   .rcases p9.1 U with U|U
    .rw[j5.1 U];exact x5 aC
    .exact H x (List.mem_of_mem_drop U)
  .rw[aq,<-ab,E9 (λp aT x U=>?_) (by simpa using hi) (λx U=>?_)]
   .simp
   .rw[x8]at U;cases C:s[p]? with
    |none=>rw[C]at U;cases U
    |some y=>rw[C]at U;cases U;exact aU p aT y C
   .rw[x8]at U;cases C:s[i]? with
    |none=>rw[C]at U;cases U
    |some y=>rw[C]at U;cases U;exact cY y C
def Qu(w:x3)(f:b3)(v:x1)(J:x3):Prop:=Ext w J/\∃go a,bm dO 3 a1 J go v a/\(∀h∈a,fV J f.sizes h/\∀r,qR h r->w.heap.size<=r)/\a.map dE=fs f/\∀r,leadsTo v r->w.heap.size<=r
def mJ(k:Int)(sc cs:Λ)(h:cK):cK:=if h.1=sc then(h.1,ej k h.2 cs)else h
def Qv{bG:Nat}{f:b3}(cD:pE w bG f)(P:e9 N f):an x7 I6 [Γ bG] w (Qu w f):=by
 have hk:=P.k;obtain⟨szv,gz,au,gr,aZ,bH,cE⟩:=id cD;obtain⟨bI,a2,cF,cG⟩:=id cE;refine aA func132 ?_;rw[aT eb.p 3 aZ F,et dy.u a2];refine bV.range bI.length (λi l aa=>∃g L,Ext w aa/\l4 aa w.heap.size g l f.sizes L/\L.map dE=eN f i) a2.le
  ⟨0,[],Ext.refl _,⟨bm.nil _ _ _ _ _,λh aC=>(by cases aC),λi j x y U=>(by simp at U),λr A=>(eW A).elim⟩,F⟩ ?_ ?_
 rotate_left
 .rintro l aa cH ⟨g,L,Q,A,R⟩;rw[<-cF,Es]at R;rw[aP,am];refine⟨λh=>Ω,λ_=>Qt P A R λout J go cI U a6 cJ S cK cL=>?_⟩;have cM:=Q.size;exact⟨Q.trans U,go,cI,a6,λh aC=>⟨S h aC,(A.2.1 h (cJ h aC)).2⟩,cK,λr A=>by have:=cL r A;omega⟩
 rintro i l aa cH hi ⟨g,L,Q,A,R⟩ cN;obtain⟨a7,bJ⟩:=aI (l:=bI) hi;obtain⟨x,a8⟩:=aI (l:=f.funs) (i:=i) Ω;have bc:=x5 a8;have bf:=cG i a7 x bJ a8;have bK:=qH P bc;obtain⟨cO,dD,dF⟩:=Er P i;have bL:L.length=(eN f i).length:=by rw[<-R,r9]
 have dG:=P.mv;have bO:=a2.ext Q;refine bB Ω ?_;refine aV (λfI ab=>∃g L,Ext w ab/\l4 ab w.heap.size g fI f.sizes L/\L.map dE=eN f (i+1)) ?_ ?_
 .rintro fI ab bg;rw[aM];exact cN _ _ bg
 intro aB bP;rw[dp F dy.u bd.i bO hi,bN bd.p bd.i F (bO.range bJ)];refine bu bd.i λap dH dI cP cQ=>?_;refine b7 (vs:=fw a7) bd.i F rfl bf.one cQ λdJ cR dK cS=>?_;have bQ:=cP.put cR Ω;have dL:=bQ.size;refine aV (λba aw=>∃E c,ba=Γ E/\Ext aa aw/\ah aw E a1 (dO c)/\c.sc=bx x.scope/\c.cs=(jk f.sizes f.k x).2/\fV aw f.sizes c/\aa.heap.size<=E/\∀r,qR c r->aa.heap.size<=r) ?_ ?_
 rotate_left
 .intro dN bS;intro cT bT _ _;have ay:=bQ.trans bT;have aD:=Q.trans ay;have cU:=cS.ext bT;have bU:=aZ.ext aD;have dP:=ay.size;rw[bN bd.p bd.i F (show cT.rangeAt ap 0 (fw a7)from cU.range),aT eb.p 2 bU F,aT eb.p 1 bU F];refine⟨?_,?_⟩
  .refine (E5 (bf.ext aD) P bc (bH.ext aD)).mono ?_;rintro _ dQ _ ⟨bh,c,rfl,h1,bi,S,K⟩;refine bu a1.i λE dR bW bj aE=>?_;refine⟨.inl (bh.trans bj),?_⟩;refine b7 (vs:=dO c) a1.i F rfl S.one aE λdS bX dT cW=>?_;have dU:=bh.size;refine bS _ _ ⟨E,c,F,(ay.trans bh).trans (bj.then bX λr A he=>by have he:r=E:=he;omega),cW,h1,bi,?_,Ω,λr A=>by have:=K r A;omega⟩;exact oq (S.ext bj) bX λr A=>.inl ⟨_,_,by have A:r=E:=A;subst A;exact aE,Φ,Φ⟩
  .refine bu a1.i λE dV bW aF aE=>?_;refine⟨.inl aF,?_⟩;have bY:=aD.trans aF;refine(E5 (bf.ext bY) P bc (bH.ext bY)).mono ?_;rintro _ dW _ ⟨bZ,c,rfl,h1,bi,S,K⟩;have b0:=aE.ext bZ;have dX:=aF.size;refine b7 (vs:=dO c) a1.i F rfl S.one b0 λdY b1 dZ cX=>?_;refine bS _ _ ⟨E,c,F,ay.trans ((aF.trans bZ).then b1 λr A he=>by have he:r=E:=he;omega),cX,h1,bi,?_,Ω,λr A=>by have:=K r A;omega⟩;exact oq S b1 λr A=>.inl ⟨_,_,by have A:r=E:=A;subst A;exact b0,Φ,Φ⟩
 rintro _ aw ⟨E,c,rfl,bk,cY,ag,aG,cZ,bW,K⟩;have b4:=A.ext bk;have c0:∀h∈L,∀r,leads h.bb r->r<aa.heap.size:=λh aC r c1=>by
  obtain⟨⟨_,_,c2,b5⟩,_⟩:=A.2.1 h aC;have:=bR b5 c1;omega
 have c3:∀{j:Nat},decide (c.sc∈(L.take j).map (·.sc))=decide (bx x.scope∈((eN f i).take j).map (·.1)):=λ{j}=>by
  rw[ag,<-R,<-List.map_take,S6];rfl
 have cM:=Q.size;rw[et cV.u b4.1];refine bV.range L.length (λj au M=>∃C,au= .bool (decide (c.sc∈(L.take j).map (·.sc)))/\Ext w M/\aa.heap.size<=M.heap.size/\l4 M w.heap.size g l f.sizes C/\C.map dE=((eN f i).map (mJ f.k c.sc c.cs)).take j++(eN f i).drop j/\ah M E a1 (dO c)/\fV M f.sizes c/\∀h∈C,∀r,leads h.bb r->r<aa.heap.size) A.1.le
  ⟨L,Ξ,Q.trans bk,bk.size,b4,by simpa using R,cY,cZ,c0⟩ ?_ ?_
 .rintro j _ M c4 b6 ⟨C,rfl,ai,c5,aH,I,bl,bn,W⟩ c6;have c9:C.length=L.length:=by
   have:=congrArg R2 I;simp only[r9,r8,j6,List.length_drop]at this;omega
  obtain⟨h,aC⟩:=aI (l:=C) (i:=j) Ω;have aJ:(eN f i)[j]?=σ (dE h):=by
   have b8:(C.map dE)[j]?=σ (dE h):=by rw[x8,aC];rfl
   rw[I,E8 (by rw[r9];omega)]at b8;exact b8
  have aK:((eN f i).map (mJ f.k c.sc c.cs))[j]?=σ (mJ f.k c.sc c.cs (dE h)):=by rw[x8,aJ];rfl
  have da:∃y,L[j]?=σ y/\y.sc=h.sc:=by
   refine⟨_,x6 b6,?_⟩;rw[<-R,x8,x6 b6]at aJ;exact congrArg Prod.fst (Z3 aJ)
  obtain⟨y,H,db⟩:=da;have bo:(c.sc∈(L.take (j+1)).map (·.sc))↔c.sc∈(L.take j).map (·.sc)\/h.sc=c.sc:=by
   rw[u9,H,j4,Z9,p9,List.map_singleton,j5,db];exact or_congr Iff.rfl ⟨λe=>e.symm,λe=>e.symm⟩
  have b9:=cO _ (x5 aJ);refine bB Ω ?_;refine aV (λau O=>∃C,au= .bool (decide (c.sc∈(L.take (j+1)).map (·.sc)))/\Ext w O/\aa.heap.size<=O.heap.size/\l4 O w.heap.size g l f.sizes C/\C.map dE=((eN f i).map (mJ f.k c.sc c.cs)).take (j+1)++(eN f i).drop (j+1)/\ah O E a1 (dO c)/\fV O f.sizes c/\∀h∈C,∀r,leads h.bb r->r<aa.heap.size) ?_ ?_
  .rintro ea O bg;rw[aM];exact c6 _ _ bg
  intro ec cb;intro dc ak _ _;have aN:=aH.ext ak;have cc:=bl.ext ak;have ce:=bn.ext ak;obtain⟨dd,ed⟩:=aN.2.1 h (x5 aC);obtain⟨⟨g1,h1⟩,_,c2,b5⟩:=id dd;obtain⟨⟨ee,de⟩,_,ef,cf⟩:=id ce;rw[dp F cV.u a1.i aN.1 Ω,aW a1.p F,ax Ψ (aN.1.range aC 0 _ F),aL a1.p 0 cc F];refine(Cj h1.ls de.ls).mono ?_;rintro _ eg _ ⟨rfl,Z⟩;have cg:=aN.ext Z;have bp:=cc.ext Z;have ch:=ce.ext Z;have ci:=(ai.trans ak).trans Z;have z9:=(ak.trans Z).size;rw[am];refine⟨λbq=>?_,λcj=>?_⟩
  rotate_left
  .refine cb _ _ ⟨C,?_,ci,Ω,cg,?_,bp,ch,W⟩
   .congr 1;exact decide_eq_decide.2 ⟨λh=>bo.2 (.inl h),λh=>(bo.1 h).resolve_right cj⟩
   .have e:mJ f.k c.sc c.cs (dE h)=dE h:=if_neg cj;rw[e]at aK;rw[<-yC Ω aK,<-I];symm;refine Y9 λp=>?_;rw[X4];by_cases al:j=p
    .subst al;rw[if_pos F,if_pos Θ,x8,aC];rfl
    .rw[if_neg al]
  have df:h.cs.length=c.cs.length:=by
   have dg:h.cs.length=_:=b9.len;have dh:c.cs.length=(aR (b2 f.sizes (jk f.sizes f.k x).1)).toNat:=by rw[aG];exact bK.len
   rw[dg,dh,show(dE h).1=h.sc from F,bq,ag];rfl
  have eh:(ej f.k h.cs c.cs).length=h.cs.length:=by unfold ej;rw[List.length_zipWith];omega
  rw[aL a1.p 2 bp F,aX az.u (cf.ext Z).ls];refine cq.range c.cs.length (λs X=>Ext w X/\aa.heap.size<=X.heap.size/\l4 X w.heap.size g l f.sizes (C.set j {h with cs:=(ej f.k h.cs c.cs).take s++h.cs.drop s})/\ah X E a1 (dO c)/\fV X f.sizes c) cf.ls.le
   ⟨ci,Ω,?_,bp,ch⟩ ?_ ?_
  .have e:C.set j {h with cs:=(ej f.k h.cs c.cs).take 0++h.cs.drop 0}=C:=by
    refine Y9 λp=>?_;rw[X4];by_cases al:j=p
    .subst al;rw[if_pos F,if_pos Ω,aC];rfl
    .rw[if_neg al]
   rw[e];exact cg
  .rintro s X di V ⟨br,ck,aO,bs,bt⟩ dj;refine bB Ω ?_;intro ei ao _ _;have ad:=aO.ext ao;have cl:=bs.ext ao;have cm:=bt.ext ao;have cn:=br.trans ao;have aQ:(C.set j {h with cs:=(ej f.k h.cs c.cs).take s++h.cs.drop s})[j]?=σ {h with cs:=(ej f.k h.cs c.cs).take s++h.cs.drop s}:=by
    rw[X4,if_pos F,if_pos Ω]
   have cp:j<(C.set j {h with cs:=(ej f.k h.cs c.cs).take s++h.cs.drop s}).length:=by rw[Z0];omega
   obtain⟨⟨_,_,dk,bw⟩,dl⟩:=ad.2.1 _ (x5 aQ);obtain⟨_,_,ek,dm⟩:=id cm;obtain⟨a,bz⟩:=aI (l:=h.cs) (i:=s) Ω;obtain⟨b,aq⟩:=aI (l:=c.cs) V;have dn:s<({h with cs:=(ej f.k h.cs c.cs).take s++h.cs.drop s}:fy).cs.length:=by show s<((ej f.k h.cs c.cs).take s++h.cs.drop s).length;rw[r8,j6,List.length_drop];omega
   have dq:((ej f.k h.cs c.cs).take s++h.cs.drop s)[s]?=σ a:=by rw[E8 Ω];exact bz
   have bA:(ej f.k h.cs c.cs)[s]?=σ (min (a+b) f.k):=by
    unfold ej;rw[List.getElem?_zipWith,bz,aq]
   have em:=b9.jp a (x5 bz);have en:=bK.jp b (by rw[<-aG];exact x5 aq);have dr:=aZ.ext cn;rw[dp F cV.u a1.i ad.1 cp,aW a1.p F,ax Ψ (ad.1.range aQ 2 _ F),dp F cV.u a1.i ad.1 cp,aW a1.p F,ax Ψ (ad.1.range aQ 2 _ F),be az.u av.i Ψ bw.ls dq,aL a1.p 2 cl F,be az.u av.i Ψ dm.ls aq,aT eb.p 1 dr F];refine(nr Ω Ω).mono ?_;rintro _ eo _ ⟨rfl,ae⟩;refine⟨.inl ae,?_⟩;have z12:=(ao.trans ae).size;refine Qq (ad.ext ae) aQ dn λep aS cr bC=>?_;rw[aM];have ds:=cm.ext ae;have ct:=cl.ext ae;have er:=aS.size;refine dj _ ⟨(cn.trans ae).then aS λr A he=>by have:=dl r (.inl he);omega,Ω,?_,?_,?_⟩
   .rw[List.set_set]at bC;have e:=yC (B:=h.cs) (s:=s) Ω bA;simp only[e]at bC;exact bC
   .exact ct.ac aS λV=>by
     obtain⟨es,dt⟩:=cr _ V;exact absurd (eG ct dt) Φ
   .refine oq ds aS λr A=>.inr (.inr ⟨cr r A,λdu=>?_⟩);have:=K r (.inl du);have:=W h (x5 aC) r A;omega
  .rintro X di ⟨br,ck,aO,bs,bt⟩;refine ca Ω ?_;have e:(ej f.k h.cs c.cs).take c.cs.length++h.cs.drop c.cs.length=ej f.k h.cs c.cs:=by
    rw[<-df,List.drop_length,Y8,Z2 Ω]
   simp only[e]at aO;refine cb _ _ ⟨_,?_,br,ck,aO,?_,bs,bt,λz G r A=>?_⟩
   .congr 1;symm;exact decide_eq_true (bo.2 (.inr bq))
   .have dv:mJ f.k c.sc c.cs (dE h)=dE {h with cs:=ej f.k h.cs c.cs}:=if_pos bq;rw[dv]at aK;rw[T0,I,yC Ω aK]
   .rcases V4 G with G|rfl
    .exact W z G r A
    .exact W h (x5 aC) r A
 rintro _ M c4 ⟨C,rfl,ai,c5,aH,I,bl,bn,W⟩;refine ca Ω ?_;rw[c3,bL,o9,bM,cd];have cu:=ye a8;have bA:((eN f i).map (mJ f.k c.sc c.cs)).take L.length++(eN f i).drop L.length=(eN f i).map (mJ f.k c.sc c.cs):=by
  rw[bL,List.drop_length,Y8,Z2 (by rw[r9];exact o4 _)]
 rw[bA]at I;have c9:C.length=L.length:=by
  have:=congrArg R2 I;rw[r9,r9]at this;omega
 refine⟨λaU=>?_,λaf=>?_⟩
 .have aU:bx x.scope∉(eN f i).map (·.1):=by simpa using aU
  have dw:(eN f i).map (mJ f.k c.sc c.cs)=eN f i:=by
   refine(List.map_congr_left λz G=>?_).trans (List.map_id _);exact if_neg λhe=>aU (c7.2 ⟨z,G,by rw[he,ag]⟩)
  rw[dw]at I;rw[bN a1.p a1.i F (show M.rangeAt E 0 (dO c)from bl.range)];refine im cV.u a1.i Ω F rfl λeu dk O ev aY bw=>?_;have Y:=aH.ext aY;have cw:=bn.ext aY;refine jo cV.u a1.i F Y.1 (by simpa using bw.sl) cw.one Ω Ω λew dx dc a6 dz bD=>?_;have cz:∀r,leadsTo l r->∃e c,ah O r e c/\e≠aj/\e≠av:=λr A=>by
   obtain⟨rfl,c,aq⟩:=dM Y.1 A;exact⟨_,c,aq,Φ,Φ⟩
  have ey:=aY.size;have ez:=ai.size;refine bP _ _ ⟨dx,C++[c],(ai.trans aY).then bD λr A he=>by have:=Y.2.2.2 r he;omega,⟨a6,λz G=>?_,λp q y z H G dA r bE bF=>?_,λr A=>(dz r A).elim (Y.2.2.2 r) λh=>Ω⟩,?_⟩
  .rcases p9.1 G with G|G
   .exact⟨oq (Y.2.1 z G).1 bD λr A=>.inl (cz r A),(Y.2.1 z G).2⟩
   .rw[j5.1 G];exact⟨oq cw bD λr A=>.inl (cz r A),λr A=>by have:=K r A;omega⟩
  .have cA:∀{p:Nat}{y:fy},(C++[c])[p]?=σ y->C[p]?=σ y\/(p=C.length/\y=c):=λ{p y}H=>by
    rw[List.getElem?_append]at H;split at H
    .exact .inl H
    .by_cases dC:p-C.length=0
     .rw[dC]at H;cases H;exact .inr ⟨Ω,F⟩
     .rw[Z7 Θ]at H;cases H
   rcases cA H with cB|⟨eA,rfl⟩<;>rcases cA G with cC|⟨eq,rfl⟩
   .exact Y.2.2.1 p q y z cB cC dA r bE bF
   .have:=W y (x5 cB) r bE;have:=K r (.inl bF);omega
   .have:=W z (x5 cC) r bF;have:=K r (.inl bE);omega
   .omega
  .rw[Z9,I,cu,Ep λz G he=>aU (c7.2 ⟨z,G,he⟩)];show _++[(c.sc,c.cs)]=_;rw[ag,aG];rfl
 .have af:bx x.scope∈(eN f i).map (·.1):=by simpa using af
  refine bP _ _ ⟨g,C,ai,aH,?_⟩;rw[I,cu];unfold jG;rw[if_pos (show(jk f.sizes f.k x).1∈_ from af)];refine List.map_congr_left λz _=>?_;unfold mJ;rw[ag,aG];rfl
def yD(w:x3)(B:Nat)(v:x1)(n:aH):Prop:=∃szv gz a f aZ e gr L,v= .agg #[Δ n.k,szv,Δ n.zero,a,e]/\ay .i64 aj w gz szv n.sizes/\iS w f a aZ/\aZ.map (·.l)=n.unary/\bm dO 3 a1 w gr e L/\(∀h∈L,fV w n.sizes h)/\L.map dE=n.funs/\(∀r,leads szv r->B<=r)/\∀h∈L,∀r,qR h r->B<=r
def z9:List x1:=[Δ 0,.slice ν 0 0,Δ 0,.slice ν 0 0,.slice ν 0 0]
def ot(w:x3)(C gt gs go:Nat)(szv bb:x1)(f:b3)(a:List fy)(J:x3):Prop:=Ext w J/\C<=J.heap.size/\ah J gt dS z9/\ay .i64 aj J gs szv f.sizes/\bm dO 3 a1 J go bb a/\(∀r,leadsTo bb r->r<C)/\∀h∈a,fV J f.sizes h
def ot.ext{ab:x3}{C gt go:Nat}{bb:x1}{f:b3}{a:List fy}(h:ot w C gt gs go szv bb f a J)(U:Ext J ab):ot w C gt gs go szv bb f a ab:=by
 obtain⟨h1,z,e,p,q,r,s⟩:=h;have:=U.size;exact⟨h1.trans U,Ω,e.ext U,p.ext U,q.ext U,r,λx y=>(s x y).ext U⟩
def Qw(w J:x3)(C gt:Nat)(r:Nat):Prop:=w.heap.size<=r/\r≠gt/\((∃c,ah J r dS c)\/(∃c,ah J r az c)\/((∃c,ah J r a1 c)/\C<=r))
def ot.ac{ab:x3}{C gt go:Nat}{bb:x1}{f:b3}{z:List fy}(h:ot w C gt gs go szv bb f z J)(q:ai S J ab)(s:∀r,S r->Qw w J C gt r):ot w C gt gs go szv bb f z ab:=by
 obtain⟨h1,I,F,A,y,B,G⟩:=h;have:=q.size;have E:∀r,S r->∃e c,ah J r e c/\e≠aj/\e≠av:=λr p=>by
  obtain⟨_,_,⟨c,a⟩|⟨c,a⟩|⟨⟨c,a⟩,_⟩⟩:=s r p
  .exact⟨_,c,a,Φ,Φ⟩
  .exact⟨_,c,a,Φ,Φ⟩
  .exact⟨_,c,a,Φ,Φ⟩
 refine⟨h1.then q λr p V=>by have:=(s r V).1;omega,Ω,F.ac q λV=>(s _ V).2.1 rfl,bw A q λr p V=>?_,y.ac q λr p V=>?_,B,λx U=>oq (G x U) q λr p=>.inl (E r p)⟩
 .obtain⟨e,c,a,H,_⟩:=E r V;exact cc A a (λhe=>H he.symm) p rfl
 .obtain⟨_,_,⟨c,a⟩|⟨c,a⟩|⟨_,K⟩⟩:=s r V
  .exact cS y a Φ p
  .exact cS y a Φ p
  .have:=B r p;omega
def Fc(w:x3)(C f:Nat)(szv:x1)(k:Int)(n:aH)(p:List fy)(J:x3):Prop:=∃a q aZ e gr L,ah J f dS [Δ k,szv,Δ n.zero,a,e]/\iS J q a aZ/\aZ.map (·.l)=n.unary/\(∀r,leadsTo a r->w.heap.size<=r)/\bm dO 3 a1 J gr e L/\(∀h∈L,h∈p)/\L.map dE=n.funs/\∀r,leadsTo e r->C<=r
def Fe{bU:Nat}{f:b3}(bV:pE w bU f)(P:e9 N f):an x7 Il [Γ bU] w λv J=>Ext w J/\yD J w.heap.size v (c4 f):=by
 have hk:=P.k;have dw:=P.sizes.2.1;obtain⟨dx,dy,dz,dA,bW,bX,dC⟩:=id bV;refine aA func60 ?_;refine bu dS.i λgt aa dF aS aU=>?_;have aU:=aU;rw[aT eb.p 1 (bW.ext aS) F,cJ (cs:=#[Δ f.k,.slice ν 0 0,Δ 0,.slice ν 0 0,.slice ν 0 0]) Ψ];refine bu dS.i λA ab dG bY cK=>?_;refine b7 (vs:=[Δ f.k,.slice ν 0 0,Δ 0,.slice ν 0 0,.slice ν 0 0]) dS.i F rfl (by intro u hu;simp at hu;rcases hu with rfl|rfl|rfl|rfl<;>rfl) cK λdH bZ dI cL=>?_;have bt:=(aS.trans bY).then bZ λr q he=>by have he:r=A:=he;have:=aS.size;omega
 have dJ:=aU.lt;have E:A≠gt:=Ω
 have cM:=(aU.ext bY).ac bZ λhe=>by have he:=he;omega
 rw[aT eb.p 2 (bW.ext bt) F,aX az.u (bX.ext bt).ls];have dK:=aS.size;refine cq.range f.sizes.length (λi S=>Ext w S/\ah S gt dS z9/\∃szv gs B H aZ,ah S A dS [Δ f.k,szv,Δ 0,B,.slice ν 0 0]/\ay .i64 aj S gs szv (f.sizes.take i)/\(∀r,leads szv r->w.heap.size<=r)/\iS S H B aZ/\aZ.map (·.l)=(f.sizes.take i).map (λz=>o8 z.toNat 0)/\∀r,leadsTo B r->w.heap.size<=r) Ω
  ⟨bt,cM,_,0,_,0,[],cL,ay.nil _ _ _ _,(λr q=>by obtain⟨a,n,c,cN,dL⟩:=q;cases cN),⟨bm.nil _ _ _ _ _,λx U=>(by cases U)⟩,F,λr q=>(eW q).elim⟩ ?_ ?_
 .rintro i S cO hi ⟨W,bx,szv,gs,B,H,aZ,aF,aV,aY,bz,aG,a2⟩ cP;obtain⟨z,C⟩:=aI (l:=f.sizes) hi;have dN:=P.sizes.2.2 z (x5 C);have dP:aZ.length=i:=by have:=congrArg R2 aG;simp only[r9,j6]at this;omega
  refine bB Ω ?_;rw[be az.u av.i Ψ (bX.ext W).ls C,aL dS.p 1 aF F];refine eE ao.u aj.i F λa5 dQ b0 dR ag cQ=>?_;have aH:=aV.ext ag;refine iU ao.u aj.i F aH cQ.ls Θ Θ λb4 b5 dT a6 cR b8=>?_;have bA:=aF.ext ag;have b9:=bx.ext ag;have cb:=bA.ac b8 λhe=>cc aH bA Φ he F;rw[aW dS.p F];refine bp (g:=A) (o:=1) ao.i a6.ls.cells.1 a6.ls.cells.2 cb Ξ λcd ce dU a7=>?_;have a7:=a7;have bC:ai (λr=>leads szv r\/r=A) b0 cd:=(b8.mono λr _ h=>.inl h).trans (ce.mono λr _ h=>.inr h);have cT:ay .i64 aj cd b5 b4 (f.sizes.take (i+1)):=by
   rw[u9,C];exact bw a6 ce λr q he=>by
    have he:r=A:=he;subst he;exact cc a6 cb Φ q F
  have ak:∀r,(leads szv r\/r=A)->∃e c,ah b0 r e c/\e≠av/\e≠az:=λr q=>by
   rcases q with q|rfl
   .obtain⟨rfl,_⟩:=bR aH q;obtain⟨_,⟨ae,_⟩|⟨cap,full,_,s,_⟩⟩:=aH
    .obtain⟨a,n,c,e,_⟩:=q;rw[ae]at e;cases e
    .exact⟨_,_,s,Φ,Φ⟩
   .exact⟨_,_,bA,Φ,Φ⟩
  have cU:=(bz.ext ag).ac bC ak;have z4:=W.size;have z5:=ag.size;have cf:=(W.trans ag).then bC λr q he=>by
   rcases he with he|he
   .have:=aY r he;omega
   .omega
  have cW:=b9.ac bC λV=>by
   rcases V with V|V
   .exact cc aH b9 Φ V F
   .omega
  intro dV cg _ _;have cX:=a7.ext cg;rw[aL dS.p 3 cX F];obtain⟨a8,rfl⟩:∃n:Nat,z=n:=⟨z.toNat,Ω⟩;refine k6 az.u av.i Ω Ω λch dX dY bD cY=>?_;refine⟨.inl bD,?_⟩;have cZ:=ay.of (b1.full (n:=a8) cY Ξ (by simp[maxLen];omega));let a:mD:=⟨.slice (σ ⟨ch,0,ν⟩) a8 a8,o8 a8 0⟩;refine im (f:=sq) (a:=a) dW.u az.i Ω F rfl λdZ ea bE ec bF c0=>?_;refine⟨.inl (bD.trans bF),?_⟩;have al:=(cg.trans bD).trans bF;have aJ:=cU.ext al;refine jo (f:=sq) (a:=a) dW.u az.i F aJ.1 (by simpa using c0.sl) (λu hu=>by rw[j5.1 (show u∈[a.v]from hu)];rfl) Ω Ω λbG bH ed I bI ci=>?_;have ap:∀{r:Nat},leadsTo B r->∃c,ah bE r az c:=λq=>by
   obtain⟨rfl,c,s⟩:=dM aJ.1 q;exact⟨c,s⟩
  have bJ:=a7.ext al;have cj:=bJ.ac ci λhe=>cS aJ.1 bJ Φ he;rw[aW dS.p F];refine bp dW.i (eO I.sl).1 (eO I.sl).2 cj Ξ λc1 ck ee c2=>?_;rw[aM];have Q:ai (λr=>leadsTo B r\/r=A) bE c1:=(ci.mono λr _ h=>.inl h).trans (ck.mono λr _ h=>.inr h);have bK:∀r,(leadsTo B r\/r=A)->∃e c,ah bE r e c/\e≠av/\e≠aj:=λr q=>by
   rcases q with q|rfl
   .obtain⟨c,s⟩:=ap q;exact⟨_,c,s,Φ,Φ⟩
   .exact⟨_,_,bJ,Φ,Φ⟩
  have cl:=cT.ext al;have ef:=cf.size;have eg:=al.size;have cm:=cW.ext al;refine cP _ ⟨(cf.trans al).then Q (λr q he=>?_),cm.ac Q (λV=>?_),b4,b5,bG,bH,aZ++[a],c2,bw cl Q (λr q V=>?_),λr q=>?_,⟨I.ac ck λr q he=>?_,λy K=>?_⟩,?_,λr q=>?_⟩
  .rcases he with he|rfl
   .have:=a2 r he;omega
   .omega
  .rcases V with V|V
   .exact cS aJ.1 cm Φ V
   .omega
  .obtain⟨e,c,s,_,E⟩:=bK r V;exact cc cl s (λhe=>E he.symm) q F
  .rcases cR r q with h|h
   .exact aY r h
   .omega
  .have he:r=A:=he;subst he;exact cS I cj Φ q
  .rcases p9.1 K with K|K
   .exact aJ.sr Q (λr q=>by obtain⟨e,c,s,E,_⟩:=bK r q;exact⟨e,c,s,E⟩) y K
   .rw[j5.1 K];have cn:=cZ.ext bF;exact⟨ch,bw cn Q λr q V=>by
     obtain⟨e,c,s,E,_⟩:=bK r V;exact cc cn s (λhe=>E he.symm) q F⟩
  .rw[Z9,aG,u9,C,j4,Z9];rfl
  .rcases bI r q with h|h
   .exact a2 r h
   .omega
 rintro S cO ⟨W,bx,szv,gs,B,H,aZ,aF,aV,aY,bz,aG,a2⟩;refine ca Ω ?_;rw[o9]at aV aG;refine(Qv (bV.ext W) P).mono ?_;rintro bb ba _ ⟨aq,go,M,I,cp,cr,eh⟩;have ct:M.length=(fs f).length:=by rw[<-cr,r9]
 have ei:M.length<=256:=by
  have h1:=(qI P).2.length_eq;have bc:=(lY P).2.2;have ej:=Q2 fp (fq f);have ek:=P.mv;omega
 have z4:=W.size;have em:=aq.size;have en:=aF.lt;rw[et cV.u I];refine cq.range M.length (λi au=>ot w ba.heap.size gt gs go szv bb f M au/\Fc w ba.heap.size A szv f.k (dD f i) M au) I.le
  ⟨⟨W.trans aq,o4 _,bx.ext aq,aV.ext aq,I,λr q=>by have:=I.leads q;omega,λh aC=>(cp h aC).1⟩,B,H,aZ,_,0,[],aF.ext aq,bz.ext aq,aG,a2,bm.nil _ _ _ _ _,λx U=>(by cases U),F,λr q=>(eW q).elim⟩ ?_ ?_
 rotate_left
 .rintro au c3 ⟨aw,B,H,aZ,X,gr,L,bd,bg,Y,aK,aN,aD,Z,aO⟩;obtain⟨c5,eo,cu,bL,ep,er,c6⟩:=id aw;have bh:=py f M.length;rw[ct,su]at bh;rw[ct,su]at bd Y Z;refine ca Ω ?_;rw[bN dS.p dS.i F (show au.rangeAt A 0 [Δ f.k,szv,Δ (c4 f).zero,B,X]from bd.range)];refine b7 (vs:=[Δ f.k,szv,Δ (c4 f).zero,B,X]) dS.i F rfl (λu hu=>?_) cu λes aP eu c7=>?_
  .simp at hu;rcases hu with rfl|rfl|rfl|rfl|rfl
   .rfl
   .exact bL.ls.cells.2
   .rfl
   .exact (eO bg.1.sl).2
   .exact (eO aN.sl).2
  rw[fM dS.p dS.i F c7.range];have ak:∀r,r=gt->∃e c,ah au r e c/\e≠av/\e≠az/\e≠aj/\e≠a1:=λr q=>by
   subst q;exact⟨_,_,cu,Φ,Φ,Φ,Φ⟩
  refine⟨c5.then aP λr q he=>by have he:r=gt:=he;omega,szv,gs,B,H,aZ,X,gr,L,?_,?_,bg.ac aP (λr q=>?_),Y,aN.ac aP (λr q V=>?_),λh aC=>?_,Z,aY,λh aC r q=>by have:=(cp h (aD h aC)).2 r q;omega⟩
  .rw[bh.1]
  .rw[bh.2.1];refine bw bL aP λr q V=>?_;obtain⟨e,c,s,_,_,E,_⟩:=ak r V;exact cc bL s (λhe=>E he.symm) q F
  .obtain⟨e,c,s,h1,bc,_⟩:=ak r q;exact⟨e,c,s,h1,bc⟩
  .obtain⟨e,c,s,_,_,_,E⟩:=ak r V;exact cS aN s (λhe=>E he.symm) q
  .rw[bh.2.1];exact oq (c6 h (aD h aC)) aP λr q=>by
    obtain⟨e,c,s,h1,_,bc,_⟩:=ak r q;exact .inl ⟨e,c,s,bc,h1⟩
 rintro i au c3 hi ⟨aw,B,H,aZ,X,gr,L,bd,bg,Y,aK,aN,aD,Z,aO⟩ c8;obtain⟨y,K⟩:=aI (l:=M) hi;have bi:=x5 K;have cw:(fs f)[i]?=σ (dE y):=by rw[<-cr,x8,K];rfl
 have bM:=uS P _ (x5 cw);have bO:=yg cw;obtain⟨ev,ew,ey,ez⟩:=py f i;refine bB Ω ?_;refine da (λbP=>ot w ba.heap.size gt gs go szv bb f M bP/\Fc w ba.heap.size A szv f.k (dD f (i+1)) M bP) ?_ ?_
 .rintro bP h;rw[aM];exact c8 _ h
 intro aB bQ;rw[dp F cV.u a1.i aw.2.2.2.2.1 hi,bN a1.p a1.i F (aw.2.2.2.2.1.range K)];refine bu a1.i λc9 eA eB db dc=>?_;refine b7 (vs:=dO y) a1.i F rfl (aw.2.2.2.2.2.2 y bi).one dc λdd de eC bj=>?_;have bk:=db.put de Ω;have bl:=aw.ext bk;have ad:=bd.ext bk;have bS:=bg.ext bk;have bn:=aN.ext bk;obtain⟨eD,eF,cz,eH,eI,eJ,cA⟩:=id bl;obtain⟨⟨eK,cB⟩,_,df,cC⟩:=cA y bi;rw[aL a1.p 0 bj F,aX ao.u cB.ls];have eL:aZ.length=f.sizes.length:=by have:=congrArg R2 Y;rw[r9]at this;omega
 have eM:L.length<=256:=by have:=congrArg R2 Z;rw[r9]at this;omega
 rw[bf,am];refine⟨λeN=>?_,λeP=>?_⟩
 .
  have af:y.sc=[]:=b6 Ω;have G:dD f (i+1)={dD f i with zero:=y.cs.getD 0 0}:=by rw[bO];unfold kf;simp only[dE,af]
  have eQ:y.cs.length=1:=by have:=bM.len;simpa[dE,af,b2,aR]using this
  have dg:y.cs[0]?=σ (y.cs.getD 0 0):=by rw[u4,x6 Ω];rfl
  rw[aL a1.p 2 bj F,gf (y:=0) (i:=0) F az.u av.i Ψ cC.ls dg,aW dS.p F];refine bp av.i F rfl ad Ξ λdh O di dj=>?_;refine bQ _ ⟨bl.ac O λr q=>?_,B,H,aZ,X,gr,L,?_,bS.ac O (λr q=>?_),by rw[G];exact Y,aK,bn.ac O (λr q V=>?_),aD,by rw[G];exact Z,aO⟩
  .have q:r=A:=q;subst q;exact⟨Ω,E,.inl ⟨_,ad⟩⟩
  .rw[G];exact dj
  .have q:r=A:=q;subst q;exact⟨_,_,ad,Φ,Φ⟩
  .have V:r=A:=V;subst V;exact cS bn ad Φ q
 rw[bf,am];refine⟨λh1=>?_,λeR=>?_⟩
 .
  obtain⟨v,af⟩:∃v,y.sc=[v]:=V7.1 Ω;have eS:=bM.scope.1 v (by show v∈y.sc;rw[af];exact .head _);have eU:=bM.vars v (by show v∈y.sc;rw[af];exact .head _);have G:dD f (i+1)={dD f i with unary:=(dD f i).unary.set v.toNat y.cs}:=by rw[bO];unfold kf;simp only[dE,af]
  intro dk R _ _;have bT:=ad.ext R;have cD:=bj.ext R;have aQ:=bS.ext R;have dl:=bl.ext R;have cE:=bn.ext R;rw[aL dS.p 3 bT F,aL a1.p 0 cD F];refine qm F ao.u aj.i (cB.ls.ext R) (show y.sc[0]?=σ v by rw[af];rfl) λb o dm=>?_;rw[ax Ψ dm,aL a1.p 2 cD F];obtain⟨u,hu⟩:=aI (l:=aZ) (i:=v.toNat) Ω;rw[dp (i:=v.toNat) Ω dW.u az.i aQ.1 Ω];let a:mD:=⟨y.bb,y.cs⟩;have bo:=cC.ext R;refine qB (j:=0) (a:=u) (a':=a) az.i bo.ls.cells.1 bo.ls.cells.2 aQ.1 hu F Ω λdh O di dn=>?_;have ap:∀{r:Nat},leadsTo B r->∃c,ah dk r az c:=λq=>by
   obtain⟨rfl,c,s⟩:=dM aQ.1 q;exact⟨c,s⟩
  refine bQ _ ⟨dl.ac O λr q=>?_,B,H,aZ.set v.toNat a,X,gr,L,?_,⟨dn,λz C=>?_⟩,?_,aK,cE.ac O (λr q V=>?_),aD,by rw[G];exact Z,aO⟩
  .obtain⟨c,s⟩:=ap q;exact⟨aK r q,λhe=>(by subst he;exact absurd (eG s (cz.ext R)) Φ),.inr (.inl ⟨c,s⟩)⟩
  .rw[G];exact bT.ac O λhe=>cS aQ.1 bT Φ he
  .rcases V4 C with C|rfl
   .exact aQ.sr O (λr q=>by obtain⟨c,s⟩:=ap q;exact⟨_,c,s,Φ⟩) z C
   .exact⟨df,bw bo O λr q V=>by
     obtain⟨c,s⟩:=ap V;exact cc bo s Φ q F⟩
  .rw[G,T0,Y]
  .obtain⟨c,s⟩:=ap V;exact cS cE s Φ q
 .
  have G:dD f (i+1)={dD f i with funs:=(dD f i).funs++[dE y]}:=by
   rw[bO];unfold kf;have cF:2<=(dE y).1.length:=by show 2<=y.sc.length;omega
   generalize dE y=g at cF ⊢;obtain⟨sc,cs⟩:=g
   match sc,cF with
   |_::_::_,_=>rfl
  rw[aL dS.p 4 ad F,bN a1.p a1.i F (show dd.rangeAt c9 0 (dO y)from bj.range)];refine im cV.u a1.i Ω F rfl λeV eX dq eY aE dr=>?_;have bq:=bn.ext aE;have ds:=bS.ext aE;have br:=ad.ext aE;have dt:=bl.ext aE;refine jo cV.u a1.i F bq (by simpa using dr.sl) (cA y bi).one Ω Ω λbG bH eZ bs bI cG=>?_;have cH:=br.ac cG λhe=>cS bq br Φ he;rw[aW dS.p F];refine bp cV.i (eO bs.sl).1 (eO bs.sl).2 cH Ξ λdu cI e0 dv=>?_;have Q:ai (λr=>leadsTo X r\/r=A) dq du:=(cG.mono λr _ h=>.inl h).trans (cI.mono λr _ h=>.inr h);have e1:=aE.size;refine bQ _ ⟨dt.ac Q λr q=>?_,B,H,aZ,bG,bH,L++[y],?_,ds.ac Q (λr q=>?_),by rw[G];exact Y,aK,bs.ac cI (λr q V=>?_),λz C=>?_,?_,λr q=>?_⟩
  .rcases q with q|rfl
   .obtain⟨rfl,c,s⟩:=dM bq q;have:=aO _ q;refine⟨Ω,λhe=>?_,.inr (.inr ⟨⟨c,s⟩,this⟩)⟩;subst he;exact absurd (eG s (cz.ext aE)) Φ
   .exact⟨Ω,E,.inl ⟨_,br⟩⟩
  .rw[G];exact dv
  .rcases q with q|rfl
   .obtain⟨rfl,c,s⟩:=dM bq q;exact⟨_,c,s,Φ,Φ⟩
   .exact⟨_,_,br,Φ,Φ⟩
  .have V:r=A:=V;subst V;exact cS bs cH Φ q
  .rcases p9.1 C with C|C
   .exact aD z C
   .rw[j5.1 C];exact bi
  .rw[G,Z9,Z];rfl
  .rcases bI r q with h|h
   .exact aO r h
   .omega
def sG(w:x3)(S:Nat->Prop)(e:p8):Prop:=∀r,S r->∃c,ah w r e c
def yE{k:n9}{g:Nat}(h:ay k a w g v l)(f:ai S w J)(p:sG w S e)(q:a≠e):ay k a J g v l:=bw h f λr s V=>by
 obtain⟨c,x⟩:=p r V;exact cc h x q s F
def Ff{α:Type}{f:α->List x1}{k:Nat}{g:Nat}{L:List α}(h:bm f k a w g v L)(p:ai S w J)(q:sG w S e)(s:a≠e):bm f k a J g v L:=h.ac p λr x V=>by
 obtain⟨c,y⟩:=q r V;exact cS h y s x
def yF{r:Nat}{c:List x1}(h:ah w r a c)(f:ai S w J)(p:sG w S e)(q:a≠e):ah J r a c:=h.ac f λV=>by
 obtain⟨c,s⟩:=p r V;exact q (eG h s)
def Fg{g:Nat}{c:List x1}(h:ah w g e c):sG w (λr=>r=g) e:=λr a=>by
 have a:r=g:=a;subst a;exact⟨c,h⟩
def Qx{k:n9}{g:Nat}(h:ay k e w g v l):sG w (λr=>leads v r) e:=λr f=>by
 have f:=f;obtain⟨rfl,_⟩:=bR h f;obtain⟨_,⟨ae,_⟩|⟨cap,full,_,q,_⟩⟩:=h
 .obtain⟨a,n,c,p,_⟩:=f;rw[ae]at p;cases p
 .exact⟨_,q⟩
def aE(x:bC):Λ:=((Z4 x.un.length).map λv:Nat=>(v:Int)).filter λv=>!dropped x.mask v
def yG{P:W9}{k:n9}{t:p8}{b:Nat}{K:x1->x3->Prop}(a:P.underlying t=σ (.slice e))(hi:aS P e 1 b z)(f:∀v g J,g=w.heap.size->Ext w J->ay k e J g v []->K v J):aF P (Y5 t 0 #[]) w K:=
 lK a hi Ω (cs:=#[]) (by simp[Instr.fill]) λg J h p q=>f _ g J h p (ay.of (b1.full (by simpa using q) Ξ (by simp[maxLen])))
def Qy{n:aH}(h:yD w B v n){g:Nat}(p:ah J g dS v.cells.toList):∃szv gz a f aZ e gr L,ah J g dS [Δ n.k,szv,Δ n.zero,a,e]/\ay .i64 aj w gz szv n.sizes/\iS w f a aZ/\aZ.map (·.l)=n.unary/\bm dO 3 a1 w gr e L/\(∀h∈L,fV w n.sizes h)/\L.map dE=n.funs/\(∀r,leads szv r->B<=r)/\∀h∈L,∀r,qR h r->B<=r:=by
 obtain⟨szv,gz,a,f,aZ,e,gr,L,rfl,q,s,y,x,z,A⟩:=h;obtain⟨_,_,_,C⟩:=c6 q.ls;obtain⟨_,_,_,_,_,E,_⟩:=s.1.sl;obtain⟨_,_,_,_,_,F,_⟩:=x.sl;refine⟨szv,gz,a,f,aZ,e,gr,L,?_,q,s,y,x,z,A⟩;rw[C,E,F]at p ⊢;exact p
def z12:List x1:=[Δ 0,.slice ν 0 0,Δ 0,.slice ν 0 0,.slice ν 0 0,.slice ν 0 0,.slice ν 0 0,.slice ν 0 0]
def Qz(u:Λ):aE (newVar u)=(Z4 u.length).map λv:Nat=>(v:Int):=by
 unfold aE newVar dropped;rw[List.filter_eq_self.2];intro a _;simp
section
variable{P:W9}{w:x3}{t:p8}{cx cy:Bool}{a b:Nat}{K:x1->Prop}
def QA(f:a<2 ^ 62)(h:b<2 ^ 62):ad P (aO .or t cx cy (Δ a) (Δ b)) w K=K (Δ ((a ||| b:Nat):Int)):=ad.of λJ _=>by
 have e:(T5 64 (a:Int) ||| T5 64 (b:Int)).toNat=a ||| b:=by
  rw[n7,n7,BitVec.toNat_or,BitVec.toNat_ofNat,BitVec.toNat_ofNat,Nat.mod_eq_of_lt Ω,Nat.mod_eq_of_lt Ω]
 have:a ||| b<2 ^ 62:=Nat.or_lt_two_pow f h;have hw:W5.wrap ((a ||| b:Nat):Int)=((a ||| b:Nat):Int):=wrap_i64 Ω Ω;have p:(T5 W5.bits (a:Int) ||| T5 W5.bits (b:Int)).toNat=a ||| b:=e;simp only[aO,eqGuard,binOp,Op.intBits,p,hw];rfl
def Fh(p:a<2 ^ 62)(f:b<2 ^ 62):ad P (aO .and t cx cy (Δ a) (Δ b)) w K=K (Δ ((a &&& b:Nat):Int)):=ad.of λJ _=>by
 have e:(T5 64 (a:Int) &&& T5 64 (b:Int)).toNat=a &&& b:=by
  rw[n7,n7,BitVec.toNat_and,BitVec.toNat_ofNat,BitVec.toNat_ofNat,Nat.mod_eq_of_lt Ω,Nat.mod_eq_of_lt Ω]
 have:a &&& b<2 ^ 62:=Nat.and_lt_two_pow _ f;have hw:W5.wrap ((a &&& b:Nat):Int)=((a &&& b:Nat):Int):=wrap_i64 Ω Ω;have h:(T5 W5.bits (a:Int) &&& T5 W5.bits (b:Int)).toNat=a &&& b:=e;simp only[aO,eqGuard,binOp,Op.intBits,h,hw];rfl
def QB{k:n9}{n:Nat}(a:n<62):ad P (aO .shl t cx cy (Δ 1) (.int k (n:Int))) w K=K (Δ ((2 ^ n:Nat):Int)):=by
 rw[Br Ω];have e:min ((n:Int).toNat) W5.bits=n:=Nat.min_eq_left (by show n<=64;omega);have f:2 ^ n<2 ^ 62:=Nat.pow_lt_pow_right Ω a;rw[e,Int.one_mul,show((2:Int) ^ n)=((2 ^ n:Nat):Int) by simp];generalize 2 ^ n=q at f ⊢;rw[wrap_i64 Ω Ω]
end
def Fi(a n:Nat):(a / 2 ^ n &&& 1=1)↔a.testBit n=true:=by
 rw[Nat.and_one_is_mod,Nat.testBit_eq_decide_div_mod_eq,decide_eq_true_eq]
def Fj{b n:Nat}{v:Int}(x:np b n):an x7 IU [kH b n,Δ v] w λr J=>r= .bool (decide (0<=v/\v<n)&&b.testBit v.toNat)/\Ext w J:=by
 refine aA func103 ?_;refine bh λg aa B e f=>?_;refine aV (λr ab=>r= .bool (decide (0<=v/\v<n)&&b.testBit v.toNat)/\Ext w ab) (λ_ _ h=>h) λaB q=>?_;rw[bN b5.p b5.i F f.range];refine Cv.mono ?_;rintro _ C _ ⟨rfl,a⟩;rw[am];refine⟨λh=>?_,λh=>q _ _ ⟨by rw[decide_eq_false h];rfl,e.trans a⟩⟩;obtain⟨y,E⟩:=x;obtain⟨s,rfl⟩:∃s:Nat,v=s:=⟨v.toNat,Ω⟩;have z:=f.ext a;have G:(2:Nat) ^ n<=2 ^ 32:=S7 Ω y;have A:b / 2 ^ s<2 ^ 64:=Nat.lt_of_le_of_lt (Nat.div_le_self _ _) Ω;rw[aL b5.p 0 z F,mu Ω,show(1:Int)=((1:Nat):Int)from F,u64_and A Ω,bf];refine q _ _ ⟨?_,e.trans a⟩;congr 1;rw[decide_eq_true h,T9,U6,decide_eq_true_eq,u7,<-Fi];omega
def QC(m v:Nat):dropped (m:Int) (v:Int)=m.testBit v:=by unfold dropped;rw[u7,u7]
def bz(w:x3)(ag gT:Nat)(A R:ak)(n:aH)(s:aq)(t:aD):Prop:=StateM w ag gT A R n s t/\t.bY=s.cells/\oi t/\bk n.k n.sizes s/\lj n
def bz.ext{A R:ak}{n:aH}{s:aq}{t:aD}(h:bz w ag gT A R n s t)(U:Ext w J):bz J ag gT A R n s t:=⟨h.1.ext U,h.2⟩
def StateM.parts{A R:ak}{n:aH}{s:aq}{t:aD}(h:StateM w ag gT A R n s t):∃a e f p ba q L r,ah w ag cN [Γ a,Γ gT,e,f,p]/\gn w a n/\dx w gT r t/\ay .i64 aj w ba e (jN s)/\bm qO 3 fk w q f L/\mF R w L s:=by
 obtain⟨a,e,f,p,_,ba,q,ge,L,E,r,w0,x,⟨y,z,H⟩,⟨B,I,J,K⟩,C,⟨F,G⟩,M,N⟩:=h;exact⟨a,e,f,p,ba,q,L,r,x,y.ext z,B,C,F,G⟩
def vp{s:aq}{i:Nat}(h:i<s.vars.length):(jN s)[i]?=σ (gX s i:Int):=by
 unfold jN;rw[x8,List.getElem?_range h];rfl
def qS{s:aq}{t:aD}(ae:t.bY=s.cells)(V:oi t):s.cells.length<=100000000:=by
 rw[<-ae];unfold aD.bY;rw[r9];exact V.1
def vq{s:aq}{i:Nat}{x:bC}(h:s.vars[i]?=σ x):gX s i+x.un.length+2<=s.cells.length:=by
 have h1:=sx h (j:=x.un.length+1) Ω;have a:(iT x)[x.un.length+1]? ≠ν:=by
  rw[Ne,List.getElem?_eq_none_iff];show¬(x.un.length+1+1<=x.un.length+1);omega
 rw[<-h1]at a;have:=(x4.1 (Option.ne_none_iff_exists'.1 a).choose_spec).1;omega
def yH{s:aq}{f:bS}(h:s.funs[j]?=σ f):eZ s j+f.cs.length+1<=s.cells.length:=by
 have h1:=yk h (j:=f.cs.length) Ω;have a:(fv f)[f.cs.length]? ≠ν:=by
  rw[Ne,List.getElem?_eq_none_iff];show¬(f.cs.length+1<=f.cs.length);omega
 rw[<-h1]at a;have:=(x4.1 (Option.ne_none_iff_exists'.1 a).choose_spec).1;omega
section
variable{w:x3}{ag gT:Nat}{A R:ak}{n:aH}{s:aq}{t:aD}
def Fk(h:bz w ag gT A R n s t):an x7 IE [Γ ag] w λv J=>(∃a,v=Γ a/\gn J a n)/\Ext w J:=by
 obtain⟨a,q,r,x,ba,y,L,z,e,f,B,C,E,G⟩:=h.1.parts;refine aA func86 ?_;rw[dh dm.u];simp only[Y0,a8];rw[aT cN.p 0 e F];exact⟨⟨a,F,f⟩,Ext.refl _⟩
def Fl(h:bz w ag gT A R n s t):an x7 H8 [Γ ag] w λv J=>v=Δ (n.sizes.length:Int)/\Ext w J:=by
 refine aA func41 ?_;refine(Fk h).mono ?_;rintro _ aa _ ⟨⟨p,rfl,a⟩,e⟩;refine(yl a).mono ?_;rintro _ ab _ ⟨rfl,f⟩;exact⟨F,e.trans f⟩
def lp(h:bz w ag gT A R n s t):an x7 Iv [Γ ag] w λv J=>v=Δ n.k/\Ext w J:=by
 refine aA func73 ?_;refine(Fk h).mono ?_;rintro _ aa _ ⟨⟨p,rfl,a⟩,e⟩;refine(PK a).mono ?_;rintro _ ab _ ⟨rfl,f⟩;exact⟨F,e.trans f⟩
def yI{i:Int}(h:bz w ag gT A R n s t):an x7 II [Γ ag,Δ i] w λv J=>v= .bool (decide (0<=i/\i<n.sizes.length))/\Ext w J:=by
 refine aA func90 ?_;refine aV (λv aa=>v= .bool (decide (0<=i/\i<n.sizes.length))/\Ext w aa) (λ_ _ h=>h) λaB a=>?_;rw[cO,am];refine⟨λe=>?_,λe=>a _ _ ⟨by rw[decide_eq_false Ω],Ext.refl _⟩⟩;refine(Fl h).mono ?_;rintro _ aa _ ⟨rfl,f⟩;rw[aP];refine a _ _ ⟨?_,f⟩;congr 1;exact decide_eq_decide.2 ⟨λh=>⟨e,h⟩,λh=>h.2⟩
def vr(h:bz w ag gT A R n s t):an x7 H7 [Γ ag] w λv J=>v=Δ s.zero/\Ext w J:=by
 obtain⟨q,r,x,y,ba,z,L,B,a,C,e,E,G,H⟩:=h.1.parts;refine aA func40 ?_;rw[dh dm.u];simp only[Y0,a8];rw[aT cN.p 1 a F];refine(pz e F (show t.bY[0]?=σ s.zero by rw[h.2.1];exact PF s)).mono ?_;rintro _ aa _ ⟨rfl,f⟩;exact⟨F,f⟩
def sH(h:bz w ag gT A R n s t):an x7 Ix [Γ ag] w λv J=>v=Δ (s.funs.length:Int)/\Ext w J:=by
 obtain⟨q,r,x,y,ba,z,L,B,a,C,E,G,e,f⟩:=h.1.parts;refine aA func75 ?_;rw[dh dm.u];simp only[Y0,a8];rw[aT cN.p 3 a F,et fJ.u e];exact⟨by rw[f.1],Ext.refl _⟩
def jO(s:aq)(i:Nat):Bool:=match s.vars[i]? with
 |some x=>decide (x.gone≠0)
 |none=>false
def yJ{i:Int}(h:bz w ag gT A R n s t):an x7 Ic [Γ ag,Δ i] w λv J=>v= .bool (decide (0<=i)&&jO s i.toNat)/\Ext w J:=by
 refine aA func48 ?_;refine aV (λv aa=>v= .bool (decide (0<=i)&&jO s i.toNat)/\Ext w aa) (λ_ _ h=>h) λaB a=>?_;intro ab e _ _;refine(yI (h.ext e)).mono ?_;rintro _ I _ ⟨rfl,r⟩;have U:=e.trans r;have:=h.2.2.2.1.vars;rw[am];refine⟨λz=>?_,λM=>a _ _ ⟨?_,U⟩⟩
 .obtain⟨N,O,P,Q,ba,S,L,V,f,W,B,C,X,Y⟩:=(h.ext U).1.parts;obtain⟨x,q⟩:=aI (l:=s.vars) (i:=i.toNat) Ω;rw[aT cN.p 1 f F,aT cN.p 2 f F,gf (y:=i) (i:=i.toNat) Ω ao.u aj.i Ψ C.ls (vp Ω)];have E:t.bY[gX s i.toNat+0]?=σ x.gone:=by rw[h.2.1,sx q Ω];rfl
  refine(pz B F E).mono ?_;rintro _ Z _ ⟨rfl,G⟩;rw[bA];refine a _ _ ⟨?_,U.trans G⟩;rw[decide_eq_true z.1,T9];unfold jO;rw[q]
 .by_cases H:0<=i
  .unfold jO;rw[Z7 Ω,Bool.and_false]
  .rw[decide_eq_false H];rfl
def fz(n:aH)(i v:Int):Prop:=0<=i/\i<n.sizes.length/\0<=v/\v<n.sizes.getD i.toNat 0
instance (n:aH) (i v:Int):Decidable (fz n i v):=inferInstanceAs (Decidable (_/\_))
def fz.var{i v:Int}(ae:fz n i v)(a:bk n.k n.sizes s):∃x,s.vars[i.toNat]?=σ x/\v.toNat<x.un.length/\x.un.length<=32/\n.sizes.getD i.toNat 0=x.un.length:=by
 obtain⟨h1,h,p,f⟩:=ae;have:=a.vars;obtain⟨x,U⟩:=aI (l:=s.vars) (i:=i.toNat) Ω;obtain⟨z,e⟩:=aI (l:=n.sizes) (i:=i.toNat) Ω;have:=a.fT.2.2 z (x5 e);have:=(a.var i.toNat x z U e).1;rw[u4,e,V2]at f ⊢;exact⟨x,U,Ω,Ω,Ω⟩
def yK{i v:Int}(h:bz w ag gT A R n s t):an x7 IQ [Γ ag,Δ i,Δ v] w λr J=>r=Δ (if fz n i v then((gX s i.toNat+2+v.toNat:Nat):Int)else-1)/\Ext w J:=by
 have:=h.2.2.2.1.vars;refine aA func98 ?_;refine aV (λr aa=>r= .bool (decide (¬fz n i v))/\Ext w aa) ?_ ?_
 .rintro _ aa ⟨rfl,z⟩;rw[am];refine⟨λH=>⟨by rw[if_neg H],z⟩,λf=>?_⟩;have f:=Y3.1 f;obtain⟨x,I,ac,ad,_⟩:=f.var h.2.2.2.1;obtain⟨K,M,N,O,ba,P,L,Q,a,C,S,E,U,V⟩:=(h.ext z).1.parts;have G:=vq I;have:=qS h.2.1 h.2.2.1;obtain⟨h1,ah,ai,ak⟩:=id f;rw[aT cN.p 2 a F,gf (y:=i) (i:=i.toNat) Ω ao.u aj.i Ψ E.ls (vp Ω),aM,wrap_i64 Ω Ω,aM,wrap_i64 Ω Ω,if_pos f];refine⟨?_,z⟩;congr 1;omega
 .intro aB B;refine(yI h).mono ?_;rintro _ ab _ ⟨rfl,q⟩;rw[bM,cd];refine⟨λa=>?_,λa=>?_⟩
  .have a:¬(0<=i/\i<n.sizes.length):=λW=>by rw[decide_eq_true W]at a;cases a
   exact B _ _ ⟨by rw[decide_eq_true];exact λe=>a ⟨e.1,e.2.1⟩,q⟩
  have a:0<=i/\i<n.sizes.length:=by simpa using a
  rw[aP,am];refine⟨λae=>B _ _ ⟨by rw[decide_eq_true];exact λe=>by have:=e.2.2.1;omega,q⟩,λae=>?_⟩;obtain⟨K,M,N,O,ba,P,L,Q,X,C,S,E,U,V⟩:=(h.ext q).1.parts;rw[aT cN.p 0 X F];refine(EE C h.2.2.2.2).mono ?_;rintro _ al _ ⟨Y,rfl⟩;rw[if_pos a.1,cO];refine B _ _ ⟨?_,q.trans Y⟩;congr 1;refine decide_eq_decide.2 ⟨λh e=>?_,λh=>?_⟩
  .have:=e.2.2.2;omega
  .refine Int.not_lt.1 λG=>h ⟨a.1,a.2,Ω,G⟩
def jP(s:aq)(i v:Nat):Int:=match s.vars[i]? with
 |some x=>x.un.getD v 0
 |none=>0
def qT{i v:Int}(h:bz w ag gT A R n s t):an x7 AW [Γ ag,Δ i,Δ v] w λr J=>r=(if fz n i v then .tuple #[Δ (jP s i.toNat v.toNat),Δ 0]else .tuple #[Δ 0,Δ 1])/\Ext w J:=by
 refine aA func47 ?_;rw[dh dm.u];simp only[Y0,a8];refine(yK h).mono ?_;rintro _ aa _ ⟨rfl,e⟩;by_cases a:fz n i v
 .rw[if_pos a,if_pos a];refine ca Ω ?_;obtain⟨x,f,q,E,_⟩:=a.var h.2.2.2.1;obtain⟨G,H,I,K,ba,M,L,N,y,O,z,P,Q,S⟩:=(h.ext e).1.parts;rw[aT cN.p 1 y F];have B:t.bY[gX s i.toNat+2+v.toNat]?=σ (x.un.getD v.toNat 0):=by
   rw[h.2.1,Q1,sx f Ω,show 2+v.toNat=v.toNat+1+1 by omega];show x.un[v.toNat]?=_;rw[u4,x6 q];rfl
  refine(pz z F B).mono ?_;rintro _ ab _ ⟨rfl,C⟩;refine⟨?_,e.trans C⟩;unfold jP;rw[f]
 .rw[if_neg a,if_neg a,aP,am];exact⟨λ_=>⟨F,e⟩,λh=>Ω⟩
def fd(s:aq)(j:Nat):Bool:=match s.funs[j]? with
 |some f=>decide (f.live≠0)
 |none=>false
def sI{j:Int}(h:bz w ag gT A R n s t):an x7 Ie [Γ ag,Δ j] w λv J=>v= .bool (decide (0<=j)&&fd s j.toNat)/\Ext w J:=by
 refine aA func49 ?_;refine aV (λv aa=>v= .bool (decide (0<=j)&&fd s j.toNat)/\Ext w aa) (λ_ _ h=>h) λaB a=>?_;intro ab e _ _;rw[cO,am];refine⟨λq=>?_,λq=>a _ _ ⟨by rw[decide_eq_false q];rfl,e⟩⟩;refine(sH (h.ext e)).mono ?_;rintro _ K _ ⟨rfl,C⟩;have U:=e.trans C;rw[aP,am];refine⟨λM=>?_,λN=>a _ _ ⟨?_,U⟩⟩
 .obtain⟨O,P,Q,S,ba,V,L,W,x,X,E,Y,z,r⟩:=(h.ext U).1.parts;obtain⟨f,af⟩:=aI (l:=s.funs) (i:=j.toNat) Ω;obtain⟨y,B⟩:∃y,L[j.toNat]?=σ y:=⟨_,x6 (by rw[r.1];omega)⟩;obtain⟨_,_,G⟩:=r.2 j.toNat y f B af;rw[aT cN.p 1 x F,aT cN.p 3 x F,dp (i:=j.toNat) Ω fJ.u fk.i z (by rw[r.1];omega),aW fk.p F,ax Ψ (z.range B 2 _ F)];have H:t.bY[eZ s j.toNat+0]?=σ f.live:=by rw[h.2.1,yk af Ω];rfl
  refine(pz (i:=eZ s j.toNat) E (by rw[G]) H).mono ?_;rintro _ Z _ ⟨rfl,I⟩;rw[bA];refine a _ _ ⟨?_,U.trans I⟩;rw[decide_eq_true q,T9];unfold fd;rw[af]
 .unfold fd;rw[Z7 Ω,Bool.and_false]
end
def vt(s:aq)(n:aH)(i:Int)(b m:Nat):Prop:=np b m/\(¬(0<=i/\i<n.sizes.length)->b=0/\m=0)/\∀x,0<=i->s.vars[i.toNat]?=σ x->m=x.un.length/\∀j:Nat,b.testBit j=(decide (j<x.un.length)&& !dropped x.mask (j:Int))
section
variable{w:x3}{ag gT:Nat}{A R:ak}{n:aH}{s:aq}{t:aD}
def kN{i:Int}(h:bz w ag gT A R n s t):an x7 Ia [Γ ag,Δ i] w λv J=>(∃b m,v=kH b m/\vt s n i b m)/\Ext w J:=by
 have:=h.2.2.2.1.vars;refine aA func45 ?_;refine bu b5.i λB aa bo al P=>?_;have P:=P;refine(yI (h.ext al)).mono ?_;rintro _ ab _ ⟨rfl,ap⟩;have Q:=P.ext ap;have S:=al.trans ap;rw[bM,cd];refine⟨λa=>?_,λa=>?_⟩
 .have a:¬(0<=i/\i<n.sizes.length):=λaN=>by rw[decide_eq_true aN]at a;cases a
  rw[cJ (cs:=#[.int .u64 0,Δ 0]) Ψ];refine b7 (vs:=[.int .u64 0,Δ 0]) b5.i F rfl (by intro u hu;simp at hu;rcases hu with rfl|rfl<;>rfl) Q λbp aO bs aP=>?_;rw[fM b5.p b5.i F aP.range];refine⟨⟨0,0,F,⟨Ω,Ξ⟩,λ_=>⟨F,F⟩,λx aq U=>?_⟩,S.put aO Ω⟩;have:=(x4.1 U).1;exact absurd ⟨aq,Ω⟩ a
 have a:0<=i/\i<n.sizes.length:=by simpa using a
 obtain⟨x,E⟩:=aI (l:=s.vars) (i:=i.toNat) Ω;obtain⟨z,V⟩:=aI (l:=n.sizes) (i:=i.toNat) Ω;have aQ:=h.2.2.2.1.fT.2.2 z (x5 V);obtain⟨bt,_,bw,bx⟩:=h.2.2.2.1.var i.toNat x z E V;obtain⟨aR,aS,aU,aV,ba,aW,L,aX,G,au,_⟩:=(h.ext S).1.parts;rw[aT cN.p 0 G F];refine(EE au h.2.2.2.2).mono ?_;rintro _ bA _ ⟨W,rfl⟩;rw[if_pos a.1,u4,V,V2];refine L5.mono ?_;rintro _ bC _ ⟨X,rfl⟩;rw[if_pos aQ];obtain⟨m,rfl⟩:∃m:Nat,z=m:=⟨z.toNat,Ω⟩;rw[bq,br,u7];have av:=(S.trans W).trans X;refine bu b5.i λe bD bE aw aY=>?_;refine b7 (vs:=[.int .u64 ((2 ^ m-1:Nat):Int),Δ (m:Int)]) b5.i F rfl (by intro u hu;simp at hu;rcases hu with rfl|rfl<;>rfl) aY λaZ ax bF a1=>?_;have:=av.size;have ay:=(av.trans aw).put ax Ω;have:=(((Q.ext W).ext X)).lt;have a2:ah aZ B b5 [.int .u64 0,Δ 0]:=(((Q.ext W).ext X).ext aw).ac ax λhe=>by have he:=he;omega
 intro bH Y _ _;have az:=ay.trans Y;obtain⟨aR,aS,aU,aV,ba,aW,L,aX,G,au,a6,a7,_⟩:=(h.ext az).1.parts;have:=vq E;have:=qS h.2.1 h.2.2.1;rw[aT cN.p 1 G F,aT cN.p 2 G F,gf (y:=i) (i:=i.toNat) Ω ao.u aj.i Ψ a7.ls (vp Ω),aM,wrap_i64 Ω Ω];have a8:t.bY[gX s i.toNat+1]?=σ x.mask:=by rw[h.2.1,sx E Ω];rfl
 refine(pz a6 Ω a8).mono ?_;rintro _ bb _ ⟨rfl,Z⟩;have aC:=(a1.ext Y).ext Z;have bc:=(a2.ext Y).ext Z;obtain⟨mk,aD⟩:∃mk:Nat,x.mask=mk:=⟨x.mask.toNat,Ω⟩;rw[bN b5.p b5.i F (show bb.rangeAt e 0 [.int .u64 ((2 ^ m-1:Nat):Int),Δ (m:Int)]from aC.range)];refine(xk).mono ?_;rintro _ bK _ ⟨rfl,ad⟩;have bd:=az.trans Z;have be:B≠e:=Ω
 have:=ay.size;have bO:w.heap.size<=e:=Ω
 have bP:w.heap.size<=B:=Ω
 refine cq.range m (λq f=>Ext w f/\ah f B b5 [.int .u64 0,Δ 0]/\∃b:Nat,ah f e b5 [.int .u64 (b:Int),Δ (m:Int)]/\np b m/\∀j:Nat,b.testBit j=(decide (j<m)&& !(decide (j<q)&&mk.testBit j))) Ω
  ⟨bd.trans ad,bc.ext ad,_,aC.ext ad,⟨Ω,by have:=Nat.two_pow_pos m;omega⟩,λj=>by rw[Cu];simp⟩ ?_ ?_
 .rintro q f bg bQ ⟨H,I,b,C,K,M⟩ bh;refine bB Ω ?_;refine da (λN=>Ext w N/\ah N B b5 [.int .u64 0,Δ 0]/\∃b:Nat,ah N e b5 [.int .u64 (b:Int),Δ (m:Int)]/\np b m/\∀j:Nat,b.testBit j=(decide (j<m)&& !(decide (j<q+1)&&mk.testBit j))) ?_ ?_
  .rintro N bi;rw[aM];exact bh _ bi
  intro aB aE;have bj:mk / 2 ^ q<2 ^ 62:=Nat.lt_of_le_of_lt (Nat.div_le_self _ _) Ω;rw[aD,Du Ω,show(1:Int)=((1:Nat):Int)from F,Fh bj Ω,bf,am];have aF:(((mk / 2 ^ q &&& 1:Nat):Int)=((1:Nat):Int))↔mk.testBit q=true:=by rw[<-Fi];omega
  refine⟨λae=>?_,λaf=>?_⟩
  .have ae:=aF.1 ae;rw[bN b5.p b5.i F (show f.rangeAt e 0 [.int .u64 (b:Int),Δ (m:Int)]from C.range)];refine(L7 K).mono ?_;rintro _ bR _ ⟨rfl,ai⟩;rw[if_pos ⟨Ω,Ω⟩,u7];refine b7 (vs:=[.int .u64 ((k8 b (2 ^ q):Nat):Int),Δ (m:Int)]) b5.i F rfl (by intro u hu;simp at hu;rcases hu with rfl|rfl<;>rfl) (C.ext ai) λbS aG bT bk=>?_;have aH:∀j:Nat,(k8 b (2 ^ q)).testBit j=(decide (j<m)&& !(decide (j<q+1)&&mk.testBit j)):=λj=>by
    rw[Cm,M,Nat.testBit_two_pow];by_cases aJ:j<m
    .by_cases O:j=q
     .subst O;simp[ae]
     .have ak:decide (j<q+1)=decide (j<q):=decide_eq_decide.2 ⟨λh=>Ω,λh=>Ω⟩;rw[ak,decide_eq_true aJ,decide_eq_true (show j<64 by omega),decide_eq_false (show¬q=j from λh=>O h.symm)];simp
    .simp[aJ]
   refine aE _ ⟨(H.trans ai).then aG λr bU he=>by have he:r=e:=he;omega,(I.ext ai).ac aG λhe=>be he,_,bk,⟨Ω,LY λj aK=>by rw[aH,decide_eq_false Ω];rfl⟩,aH⟩
  .have af:mk.testBit q=false:=by simpa using λh=>af (aF.2 h)
   refine aE _ ⟨H,I,b,C,K,λj=>?_⟩;rw[M];by_cases O:j=q
   .subst O;simp[af]
   .have ak:decide (j<q+1)=decide (j<q):=decide_eq_decide.2 ⟨λh=>Ω,λh=>Ω⟩;rw[ak]
 .rintro f bg ⟨H,I,b,C,K,M⟩;refine ca Ω ?_;rw[bN b5.p b5.i F (show f.rangeAt e 0 [.int .u64 (b:Int),Δ (m:Int)]from C.range)];refine b7 (vs:=[.int .u64 (b:Int),Δ (m:Int)]) b5.i F rfl (by intro u hu;simp at hu;rcases hu with rfl|rfl<;>rfl) I λbV bl bW bm=>?_;rw[fM b5.p b5.i F bm.range];refine⟨⟨b,m,F,K,λh=>absurd a h,λy aq aL=>?_⟩,H.put bl Ω⟩;rw[E]at aL;cases aL;refine⟨Ω,λj=>?_⟩;rw[M,aD,QC,show x.un.length=m by omega];by_cases aK:j<m<;>simp[aK]
def Fm{f:bS}(e:bk k sizes s)(af:f∈s.funs):cb f.al/\f.cs.length=(aR f.al).toNat/\aR f.al<=4096:=by
 obtain⟨a,V,_⟩:=e.funs f af;rw[V];refine⟨⟨?_,qG e.fT.2.2 λv ae=>⟨(a.scope.1 v ae).1,a.vars v ae⟩⟩,a.len,a.small⟩;have:=a.scope.2;simp[b2];exact this
def ia(s:aq)(j:Nat)(tl:Λ):Option Nat:=match s.funs[j]? with
 |some f=>if f.live≠0 then(cn f.al tl 0).map λm=>eZ s j+1+m.toNat else ν
 |none=>ν
def nz(s:aq)(j:Nat)(tl:Λ):Int:=match s.funs[j]? with
 |some f=>bo f.al f.cs tl
 |none=>0
def Fo(h:bz w ag gT A R n s t)(K:aK .i64 w aN tl):an x7 IT [Γ ag,Δ (j:Int),aN] w λv J=>v=Δ (match ia s j tl with|some p=>(p:Int)|none=>-1)/\Ext w J:=by
 refine aA func102 ?_;refine(sI h).mono ?_;rintro _ aa _ ⟨rfl,z⟩;rw[decide_eq_true Ω,T9,u7,bM,cd];refine⟨λa=>⟨?_,z⟩,λa=>?_⟩
 .have a:fd s j=false:=by simpa using a
  have:ia s j tl=ν:=by
   unfold ia;unfold fd at a;cases af:s.funs[j]? with
   |none=>rfl
   |some f=>
    rw[af]at a;have a:f.live=0:=by simpa using a
    simp[a]
  rw[this]
 have a:fd s j=true:=by simpa using a
 obtain⟨f,af,M⟩:∃f,s.funs[j]?=σ f/\f.live≠0:=by
  unfold fd at a;cases af:s.funs[j]? with
  |none=>rw[af]at a;cases a
  |some f=>rw[af]at a;exact⟨f,F,by simpa using a⟩
 obtain⟨G,ac,ad⟩:=Fm h.2.2.2.1 (x5 af);obtain⟨N,O,P,Q,ba,H,L,S,B,U,V,W,r,x⟩:=(h.ext z).1.parts;obtain⟨y,e⟩:∃y,L[j]?=σ y:=⟨_,x6 (by rw[x.1];exact(x4.1 af).1)⟩;have C:=(x4.1 e).1;obtain⟨_,X,I⟩:=x.2 j y f e af;have Y:aa.rangeAt H (j*3+1) [y.szv]:=λq v ae=>by
  match q,ae with
  |0,ae=>cases ae;exact r.range e 1 _ F
 rw[aT cN.p 3 B F,dp F fJ.u fk.i r C,aW fk.p F,bN (cs:=[y.szv]) bD.p bD.i F Y];refine(BO X.ls (K.ext z) G).mono ?_;rintro _ ab _ ⟨rfl,Z⟩;have E:=z.trans Z;unfold mq ia;rw[af];simp only[if_pos M];cases hi:cn f.al tl 0 with
 |none=>
  simp only[Option.map_none];rw[bq,br,bA,am];exact⟨λ_=>⟨trivial,E⟩,λh=>absurd (show(3:Int)≠0 by decide) h⟩
 |some m=>
  simp only[Y1];rw[bq,br,bA,am];refine⟨λh=>absurd F h,λ_=>?_⟩;have ah:=pd G.2 hi;have ai:=yH af;have aj:=qS h.2.1 h.2.2.1;obtain⟨N,O,P,Q,ba,H,L,S,B,U,V,W,r,x⟩:=(h.ext E).1.parts;obtain⟨y,e⟩:∃y,L[j]?=σ y:=⟨_,x6 (by rw[x.1];exact(x4.1 af).1)⟩;have C:=(x4.1 e).1;obtain⟨_,_,I⟩:=x.2 j y f e af;rw[aT cN.p 3 B F,dp F fJ.u fk.i r C,aW fk.p F,ax Ψ (r.range e 2 _ F),I,aM,wrap_i64 Ω Ω,aM,wrap_i64 Ω Ω];refine⟨?_,E⟩;congr 1;omega
def yL{p:Nat}(a:bk k sizes s)(h:ia s j tl=σ p):s.cells[p]?=σ (nz s j tl)/\∃f,s.funs[j]?=σ f/\f.live≠0/\∃m:Nat,cn f.al tl 0=σ (m:Int)/\m<f.cs.length/\p=eZ s j+(m+1):=by
 unfold ia at h;cases af:s.funs[j]? with
 |none=>rw[af]at h;cases h
 |some f=>
  rw[af]at h;simp only at h;split at h
  .rename_i e;obtain⟨m,hm,rfl⟩:=X7.1 h;obtain⟨r,w,x⟩:=Fm a (x5 af);have:=pd r.2 hm;obtain⟨q,rfl⟩:∃q:Nat,m=q:=⟨m.toNat,Ω⟩;refine⟨?_,f,F,e,q,hm,Ω,Ω⟩;rw[show eZ s j+1+(q:Int).toNat=eZ s j+(q+1) by omega,yk af Ω];unfold nz bo;rw[af];simp only[hm];show f.cs[q]?=_;rw[u7,u4,x6 Ω];rfl
  .cases h
def yM(h:bz w ag gT A R n s t)(e:aK .i64 w aN tl):an x7 AX [Γ ag,Δ (j:Int),aN] w λv J=>v=(if(ia s j tl).isSome then .tuple #[Δ (nz s j tl),Δ 0]else .tuple #[Δ 0,Δ 1])/\Ext w J:=by
 refine aA func51 ?_;rw[dh dm.u];simp only[Y0,a8];refine(Fo h e).mono ?_;rintro _ aa _ ⟨rfl,a⟩;cases f:ia s j tl with
 |none=>
  simp only;rw[aP,am];exact⟨λ_=>⟨F,a⟩,λh=>Ω⟩
 |some p=>
  simp only;refine ca Ω ?_;obtain⟨y,z,B,C,ba,E,L,G,q,H,r,I,K,M⟩:=(h.ext a).1.parts;rw[aT cN.p 1 q F];refine(pz r F (by rw[h.2.1];exact(yL h.2.2.2.1 f).1)).mono ?_;rintro _ ab _ ⟨rfl,x⟩;exact⟨F,a.trans x⟩
end
def eP.parts{a:Nat}{e f r:x1}{A R:ak}{n:aH}{s:aq}{t:aD}(h:eP w ag gT a e f r A R n s t):∃ba p L q,ah w ag cN [Γ a,Γ gT,e,f,r]/\gn w a n/\dx w gT q t/\ay .i64 aj w ba e (jN s)/\bm qO 3 fk w p f L/\mF R w L s:=by
 obtain⟨_,ba,p,ge,L,E,q,w0,x,⟨y,z,H⟩,⟨B,I,J,K⟩,C,⟨F,G⟩,M,N⟩:=h;exact⟨ba,p,L,q,x,y.ext z,B,C,F,G⟩
def Fp{a b:Int}(e:0<=a/\a<=k)(f:0<=b/\b<=k)(hk:1<=k/\k<=2147483648):an x7 AZ [Δ a,Δ b,Δ k] w λv J=>v= .tuple #[Δ (min (a+b) k),Δ 0]/\Ext w J:=by
 refine xw.mono ?_;rintro _ aa _ ⟨rfl,U⟩;refine⟨?_,U⟩;unfold pp;rw[if_pos ⟨⟨hk,e.1,e.2⟩,hk,f.1,f.2⟩]
def Room(t:aD):Prop:=t.marks=[]\/t.olds.length<100000000
def eu(s:aq)(i v:Nat):aq:=match s.vars[i]? with
 |some x=>{s with vars:=s.vars.set i {x with mask:=((x.mask.toNat ||| 2 ^ v:Nat):Int)}}
 |none=>s
def bk.vu{s:aq}{i:Nat}{x y:bC}(h:bk k sizes s)(U:s.vars[i]?=σ x)(r:y.un.length=x.un.length)(w:∀c∈y.un,0<=c/\c<=k)(hm:0<=y.mask/\y.mask<4294967296):bk k sizes {s with vars:=s.vars.set i y}:=
 ⟨h.en,h.fT,h.zero,by show(s.vars.set i y).length=_;rw[Z0];exact h.vars,λp z q a e=>by
  have a:(s.vars.set i y)[p]?=σ z:=a;rw[X4]at a;by_cases f:i=p
  .subst f;rw[if_pos F,if_pos (x4.1 U).1]at a;cases a;exact⟨r.trans (h.var i x q U e).1,w,hm⟩
  .rw[if_neg f]at a;exact h.var p z q a e,h.funs⟩
def bk.Fq{s:aq}{f g:bS}(h:bk k sizes s)(af:s.funs[j]?=σ f)(h1:g.sc=f.sc)(a:g.al=f.al)(e:g.cs.length=f.cs.length)(p:∀c∈g.cs,0<=c/\c<=k):bk k sizes {s with funs:=s.funs.set j g}:=
 ⟨h.en,h.fT,h.zero,h.vars,h.var,λx U=>by
  rcases V4 U with U|rfl
  .exact h.funs x U
  .obtain⟨⟨q,r,w,y,z,C⟩,A,B⟩:=h.funs f (x5 af);refine⟨⟨?_,?_,?_,?_,?_,p⟩,?_,?_⟩
   .show lh x.sc;rw[h1];exact q
   .show x.sc.Pairwise _;rw[h1];exact r
   .show ∀v∈x.sc,_;rw[h1];exact w
   .show x.cs.length=(aR (b2 sizes x.sc)).toNat;rw[h1,e];exact y
   .show aR (b2 sizes x.sc)<=_;rw[h1];exact z
   .rw[h1,a];exact A
   .rw[h1];exact B⟩
def QD{r:Nat}{c:List x1}(a:ah w r e c)(he:¬(e=gx\/e=eS\/e=nd\/e=gO\/e=cN\/e=fk\/e=wU)):¬eA w r:=by
 rintro (⟨q,s,f,h⟩|p)
 .rw[eG a f]at he;exact he h
 .exact p _ a F
section
variable{w:x3}{ag gT:Nat}{A R:ak}{n:aH}{s:aq}{t:aD}
def oi.set(h:oi t)(a:Room t)(p:Nat)(x:Int):oi (t.set p x):=by
 refine⟨by rw[aD.EJ];exact h.1,?_,by rw[aD.ym];exact h.2.2⟩;rcases a with a|a
 .rw[aD.yn a];exact h.2.1
 .have:=aD.EK t p x;omega
def Fr{s':aq}{p:Nat}{x:Int}(h:bz w ag gT A R n s t)(z:y=(p:Int))(a:p<s.cells.length)(B:s.cells.set p x=s'.cells)(V:pA s s')(C:bk n.k n.sizes s')(E:Room t):
  an x7 A6 [Γ gT,Δ y,Δ x] w λr J=>r=Δ 0/\ai (eA w) w J/\∃aU,Grow A w aU J/\bz J ag gT aU R n s' (t.set p x):=by
 obtain⟨G,ae,q,_,H⟩:=id h;obtain⟨I,K,L⟩:=G.sD;have M:p<t.cells.length:=by rw[<-ae]at a;unfold aD.bY at a;rw[r9]at a;exact a
 refine(vi K.min z M q).mono ?_;rintro _ aa _ ⟨rfl,N,e,O⟩;obtain⟨aU,P,Q⟩:=L (λr=>I r\/N r) aa _ ⟨e.1.mono λr _ h=>h.1,λr f=>f.elim .inl λh=>(e.2.1 r h).imp (λh=>h.1) id,λr f=>.inl f⟩ (O.mono λr h=>.inr h);exact⟨F,e.1.mono λr _ h=>.inl h.2,aU,P,Q.same V,by rw[aD.rF,ae,B],q.set E p x,C,H⟩
def yN{i v:Int}(h:bz w ag gT A R n s t)(M:Room t):an x7 Im [Γ ag,Δ i,Δ v] w λr J=>(¬fz n i v->r=Δ 1/\Ext w J)/\
  (fz n i v->r=Δ 0/\ai (eA w) w J/\∃aU x,Grow A w aU J/\bz J ag gT aU R n (eu s i.toNat v.toNat) (t.set (gX s i.toNat+1) x)):=by
 refine aA func61 ?_;rw[dh dm.u];simp only[Y0,a8];refine(yK h).mono ?_;rintro _ aa _ ⟨rfl,f⟩;by_cases e:fz n i v
 rotate_left
 .rw[if_neg e,aP,am];exact⟨λ_=>⟨λ_=>⟨by trivial,f⟩,λh=>absurd h e⟩,λh=>Ω⟩
 rw[if_pos e];refine ca Ω ?_;obtain⟨x,a,N,ad,ae⟩:=e.var h.2.2.2.1;obtain⟨h1,af,ah,ak⟩:=id e;have:=h.2.2.2.1.vars;obtain⟨z,O⟩:=aI (l:=n.sizes) (i:=i.toNat) Ω;obtain⟨_,P,ap,aq⟩:=h.2.2.2.1.var i.toNat x z a O;have:=vq a;have:=qS h.2.1 h.2.2.1;obtain⟨aw,ax,ay,az,Q⟩:=(h.ext f).1;obtain⟨ba,aB,L,aC,G,aD,S,U,aE,aF⟩:=Q.parts;rw[aT cN.p 2 G F,gf (y:=i) (i:=i.toNat) Ω ao.u aj.i Ψ U.ls (vp Ω),aM,wrap_i64 Ω Ω];intro ab B _ _;have V:=f.trans B;have H:=G.ext B;have W:=S.ext B;obtain⟨q,rfl⟩:∃q:Nat,v=q:=⟨v.toNat,Ω⟩;obtain⟨mk,I⟩:∃mk:Nat,x.mask=mk:=⟨x.mask.toNat,Ω⟩;rw[u7]at N;rw[aT cN.p 1 H F,aT cN.p 1 H F,QB Ω];have X:t.bY[gX s i.toNat+1]?=σ x.mask:=by rw[h.2.1,sx a Ω];rfl
 refine(pz (i:=gX s i.toNat+1) W Ω X).mono ?_;rintro _ aG _ ⟨rfl,K⟩;refine⟨.inl K,?_⟩;have aH:(2:Nat) ^ q<=2 ^ 31:=S7 Ω Ω;rw[I,QA Ω Ω];have C:=V.trans K;have:mk ||| 2 ^ q<2 ^ 32:=Nat.or_lt_two_pow Ω Ω;have E:eu s i.toNat (q:Int).toNat={s with vars:=s.vars.set i.toNat {x with mask:=((mk ||| 2 ^ q:Nat):Int)}}:=by
  unfold eu;rw[a];simp only[I,u7]
 refine(Fr (p:=gX s i.toNat+1) (s':=eu s i.toNat (q:Int).toNat) (h.ext C) Ω Ω ?_ ?_ ?_ M).mono ?_
 .rw[E,EB a Ω];rfl
 .rw[E];exact EH a F
 .rw[E];exact h.2.2.2.1.vu a F P ⟨by simp only;omega,by simp only;omega⟩
 rintro _ aK _ ⟨rfl,Y,aU,Z,ac⟩;exact⟨λh=>absurd e h,λ_=>⟨F,lk C Y,aU,_,(Grow.ext C).trans Z,ac⟩⟩
end
def yO{cR:x1}{v:Int}(h:aK .i64 w cR l):an x7 Ja [cR,Δ v] w λr J=>r= .bool (decide (v∈l))/\Ext w J:=by
 refine aA func137 ?_;rw[aX ao.u h];refine bV.range l.length (λi _ aa=>Ext w aa/\v∉l.take i) h.le ⟨Ext.refl _,Ξ⟩ ?_ ?_
 .rintro i _ aa k hi ⟨U,a⟩ hk;obtain⟨x,e⟩:=aI (l:=l) hi;refine bB Ω ?_;rw[be ao.u aj.i Ψ (h.ext U) e,bf,am];refine⟨λhe=>⟨by rw[decide_eq_true];rw[<-he];exact x5 e,U⟩,λf=>?_⟩;rw[aM];refine hk _ _ ⟨U,λhm=>?_⟩;rw[u9,e,j4,p9,j5]at hm;rcases hm with hm|hm
  .exact a hm
  .exact f hm.symm
 .rintro _ aa k ⟨U,a⟩;rw[o9]at a;rw[aP,am];exact⟨λh=>Ω,λ_=>⟨by rw[decide_eq_false a],U⟩⟩
def QE{x:bC}{v:Int}(h:0<=v/\v<x.un.length):v∈aE x↔dropped x.mask v=false:=by
 unfold aE;rw[T2,c7];constructor
 .rintro⟨_,a⟩;simpa using a
 .intro a;exact⟨⟨v.toNat,W8.2 Ω,Ω⟩,by simp[a]⟩
def dg(s:aq):Prop:=∀f∈s.funs,f.live≠0->∀v∈f.sc,∀x,s.vars[v.toNat]?=σ x->x.gone=0
def gn.put{g y:Nat}{c:List x1}{n:aH}(h:gn w y n)(a:ah w g aY c)(f:ai (λr=>r=g) w J):gn J y n:=by
 have q:=Fg a;have z:∀r,r=g->∃e c,ah w r e c/\e≠iF/\e≠cX/\e≠aj/\e≠av/\e≠az:=λr p=>by
  subst p;exact⟨_,c,a,Φ,Φ,Φ,Φ,Φ⟩
 obtain⟨A,B,C,E,gr,aZ,L,nm,szv,gz,fv2,h1,F,G,H,I,K,M⟩:=h;refine⟨A,B,C,E,gr,aZ,L,nm,szv,gz,fv2,yF h1 f q Φ,yF F f q Φ,yE G f q Φ,H.ac f λr p=>?_,I,K.ac f λr p=>?_,M⟩
 .obtain⟨e,c,a,_,_,_,s,x⟩:=z r p;exact⟨e,c,a,s,x⟩
 .obtain⟨e,c,a,s,x,N,O,_⟩:=z r p;exact⟨e,c,a,s,x,N,O⟩
def StateM.put{g:Nat}{A R:ak}{n:aH}{s:aq}{t:aD}{c:List x1}(h:StateM w ag gT A R n s t)(y:ah w g aY c)(p:ai (λr=>r=g) w J)(Q:¬A g):∃R',(∀r,R' r->R r/\r≠g)/\StateM J ag gT A R' n s t:=by
 obtain⟨S,W,X,Y,⟨h1,Z,aa,ab⟩,ba,ad,ge,L,E,ae,w0,aj,⟨I,C,al⟩,⟨am,K,an,ao⟩,ap,⟨au,M⟩,av,N⟩:=h;obtain⟨cv,O⟩:=Eu;have z:=p.size;have q:=Fg y;have B:∀r,(w0.heap.setIfInBounds g cv)[r]?=if g=r then(if g<w0.heap.size then σ cv else ν)else w0.heap[r]?:=λr=>Array.getElem?_setIfInBounds;have aw:∀r,A r->r≠g:=λr a he=>Q (he▸a);have int:∀{v:x1}{l:Λ},kh R w v l->kh (λr=>R r/\r≠g) J v l:=λ⟨⟨ax,hm⟩,ay⟩=>⟨⟨ax,yE hm p q Φ⟩,λr a=>⟨ay r a,cc hm y Φ a⟩⟩;refine⟨λr=>R r/\r≠g,λr h=>h,S,W,X,Y,⟨h1,λr a az=>Z r a az.1,λr a=>by have:=aa r a.1;omega,λr a=>by have:=ab r a;omega⟩,ba,ad,ge,L,E,ae,{w0 with heap:=w0.heap.setIfInBounds g cv},yF aj p q Φ,⟨?_,?_,?_⟩,
  ⟨am.ac p λr a=>aw r (K r a),K,an,ao⟩,yE ap p q Φ,⟨Ff au p q Φ,M.1,λj x f U af=>?_⟩,Ff av p q Φ,N.1,λj x e U he=>?_⟩
 .by_cases V:∃o,w0.heap[g]?=σ o/\fF o=true
  .obtain⟨o,P,aA⟩:=V;have aB:ah w0 g aY c:=by
    unfold ah at y ⊢;have:=C.a6 g o P aA;rw[y]at this;rw[P,this]
   refine I.put aB ⟨Ξ,λr o a V aC=>?_⟩;show(w0.heap.setIfInBounds g cv)[r]?=σ o;rw[B,if_neg λhe=>aC he.symm];exact a
  .refine I.ext ⟨Ξ,λr o a aE=>?_⟩;show(w0.heap.setIfInBounds g cv)[r]?=σ o;rw[B,if_neg λhe=>V ⟨o,by rw[he];exact a,aE⟩];exact a
 .refine⟨by show(w0.heap.setIfInBounds g cv).size<=_;rw[Array.size_setIfInBounds];exact X3 C.size z,λr o a V=>?_⟩;have a:(w0.heap.setIfInBounds g cv)[r]?=σ o:=a;rw[B]at a;by_cases he:g=r
  .rw[if_pos he]at a;split at a
   .cases a;rw[O]at V;cases V
   .cases a
  .rw[if_neg he]at a;exact p.a6 r o (C.a6 r o a V) V λh=>he h.symm
 .intro r o a V;have a:(w0.heap.setIfInBounds g cv)[r]?=σ o:=a;rw[B]at a;by_cases he:g=r
  .rw[if_pos he]at a;split at a
   .cases a;rw[O]at V;cases V
   .cases a
  .rw[if_neg he]at a;exact⟨al r o a V,λh=>he h.symm⟩
 .obtain⟨F,G,H⟩:=M.2 j x f U af;exact⟨int F,int G,H⟩
 .obtain⟨F,G,H⟩:=N.2 j x e U he;exact⟨F,int G,int H⟩
def QF{a:Λ}{f:b3}(r:a.length<=60000)(h:fR a=σ f):∃N,N<=60000/\e9 N f/\f.name≠[]/\∀b∈f.name,bQ b=true:=by
 unfold fR at h;rw[if_neg Ω]at h;cases e:iI ⟨(lex a).1,0,false,[]⟩with
 |none=>rw[e]at h;cases h
 |some q=>
  obtain⟨w,s⟩:=q;rw[e]at h;simp only at h;split at h
  .rename_i aC;cases h;obtain⟨h1,p⟩:=CU F e aC.2.2;have:=ql a.length a (o4 _);obtain⟨aa,ab,_⟩:=ud a.length a (o4 _) f.name p;exact⟨_,by show(lex a).1.length<=60000;omega,h1,aa,ab⟩
  .cases h
def QG:an x7 AY [.pointer ν] w λv J=>v= .pointer ν/\Ext w J:=by
 refine aA func58 ?_;rw[dh nU.u];simp only[Option.isNone_none,bX];exact⟨by trivial,Ext.refl _⟩
def QH(h:aK .u8 w v l)(C:l.length<=100000):an x7 Ig [v] w λf J=>Ext w J/\∃g,ay .u8 cI J g f l:=by
 have e:=h;obtain⟨E,b,o,base,cap,rfl,G,hm,s,x⟩:=h;refine aA func54 ?_;rw[nX cM.u,cd];refine⟨λy=>⟨Ext.refl _,0,?_⟩,λ_=>?_⟩
 .have:l=[]:=by
   cases base with
   |none=>
        by_cases e:0<l.length
        .have:=s e;cases this
        .exact b6 Ω
   |some a=>cases y
  subst this;exact ay.nil _ _ _ _
 .refine yG (k:=.u8) cM.u cI.i λH g1 aa I p q=>?_;refine iU cM.u cI.i F q (e.ext p) Θ Θ λf z ab A K B=>?_;exact⟨p.then B (λr x he=>by have:=(bR q he).1;omega),z,by simpa using A⟩
def QI(sv:x1):Prop:=∃cs:List x1,sv= .agg cs.toArray/\cs.length=8/\∀u∈cs,u.oneCell'=true
def Fs:QI (.agg z12.toArray):=⟨z12,F,F,by intro u hu;simp[z12]at hu;rcases hu with rfl|rfl|rfl|rfl<;>rfl⟩
def yP{f:b3}(a:e9 N f):(c4 f).funs.length<=256:=by
 have:=(qI a).2.length_eq;have:=(lY a).2.2;have:=Q2 fp (fq f);have:=a.mv;have e:=(py f (fs f).length).2.2.2;rw[su]at e;omega
def QJ{n:aH}{t:aD}(e:lj n)(af:n.funs.length<=256)(ae:t.bY=(df n).cells)(a:Plain t):oi t:=by
 have h1:=vm e af n.unary.length n.funs.length;rw[yt,<-ae]at h1;unfold aD.bY at h1;rw[r9]at h1;refine⟨Ω,?_,?_⟩
 .rw[a.2.1];exact X8 _
 .rw[a.1];exact X8 _
section
variable{w:x3}{ag gT:Nat}{A R:ak}{n:aH}{s:aq}{t:aD}
def Ft{j:Int}(h:bz w ag gT A R n s t)(p:¬(0<=j/\j<s.funs.length)):an x7 rq [Γ ag,Δ j] w λr J=>r= .slice ν 0 0/\Ext w J:=by
 refine aA func76 ?_;refine aV (λv aa=>v= .bool true/\Ext w aa) ?_ ?_
 .rintro _ aa ⟨rfl,e⟩;rw[bX];exact⟨F,e⟩
 intro aB a;rw[aP,am];refine⟨λ_=>a _ _ ⟨F,Ext.refl _⟩,λq=>?_⟩;refine(sH h).mono ?_;rintro _ x _ ⟨rfl,f⟩;rw[cO];exact a _ _ ⟨by rw[decide_eq_true Ω],f⟩
end
section
variable{w:x3}{B:Nat}{sv:x1}{k:Int}{sizes:Λ}{s:aq}
end
def gG:List (Λ)->List (Λ)
 |[]=>[[]]
 |d::a=>d.flatMap λv=>(gG a).map (v:: ·)
theorem vv:∀{e:List (Λ)}{t:Λ},t∈gG e↔t.length=e.length/\∀(p:Nat)d v,e[p]?=σ d->t[p]?=σ v->v∈d
 |[],t=>by
  simp only[gG,j5];exact⟨λh=>by subst h;exact⟨F,λp d v h=>by simp at h⟩,λh=>b6 h.1⟩
 |d::e,t=>by
  simp only[gG,X9,c7];constructor
  .rintro⟨v,ae,bt,r,rfl⟩;obtain⟨h1,f⟩:=vv.1 r;refine⟨by simp[h1],λp q u a hu=>?_⟩;cases p with
   |zero=>simp at a hu;subst a hu;exact ae
   |succ p=>exact f p q u (by simpa using a) (by simpa using hu)
  .rintro⟨h1,f⟩;cases t with
   |nil=>simp at h1
   |cons v bt=>exact⟨v,f 0 d v F rfl,bt,vv.2 ⟨by simpa using h1,λp q u a hu=>f (p+1) q u (by simpa using a) (by simpa using hu)⟩,F⟩
def ou:List (Int->Bool)->Λ->Bool
 |q::a,v::t=>q v&&ou a t
 |_,_=>true
theorem Fu:∀(r:List (Λ))(a:List (Int->Bool)),a.length=r.length->gG ((r.zip a).map λp=>p.1.filter p.2)=(gG r).filter (ou a)
 |[],[],_=>rfl
 |d::r,q::a,h=>by
  have s:=Fu r a (by simpa using h);simp only[List.zip_cons_cons,T3,gG];rw[s];clear s h;induction d with
  |nil=>rfl
  |cons v d w=>
   rw[V0,List.filter_append,<-w];have e:((gG r).map (v:: ·)).filter (ou (q::a))=if q v then((gG r).filter (ou a)).map (v:: ·)else[]:=by
    rw[List.filter_map];by_cases f:q v=true
    .rw[if_pos f];congr 1;apply List.filter_congr;intro t _;show(q v&&ou a t)=_;rw[f,T9]
    .rw[if_neg f];rw[List.filter_eq_nil_iff.2 λt _=>by show¬(q v&&ou a t)=true;simp[f]];rfl
   rw[e];by_cases f:q v=true
   .rw[if_pos f,List.filter_cons_of_pos f,V0]
   .rw[if_neg f,List.filter_cons_of_neg f];rfl
def iX(k:Int):Λ:=(Z4 k.toNat).map λv:Nat=>(v:Int)
theorem yQ:∀(s:Λ),bn s=gG (s.map iX)
 |[]=>rfl
 |k::s=>by
  simp only[bn,T3,gG,iX,List.flatMap_map,<-yQ s]
def vw{v:Int}:v∈iX k↔0<=v/\v<k:=by
 unfold iX;rw[c7];constructor
 .rintro⟨n,a,rfl⟩;have:=W8.1 a;omega
 .intro h;exact⟨v.toNat,W8.2 Ω,Ω⟩
def dF(f:Int->Int)(L:List (Λ))(al cs:Λ):Λ:=((bn al).zip cs).map λp=>if p.1∈L then f p.2 else p.2
def pF(f:Int->Int)(L:List (Λ))(al cs:Λ)(h:cs.length<=(bn al).length):(dF f L al cs).length=cs.length:=by
 unfold dF;rw[r9,List.length_zip];omega
def qU{f:Int->Int}{L:List (Λ)}{i:Nat}(a:(bn al)[i]?=σ t)(e:cs[i]?=σ c):(dF f L al cs)[i]?=σ (if t∈L then f c else c):=by
 unfold dF;have h:((bn al).zip cs)[i]?=σ (t,c):=List.getElem?_zip_eq_some.2 ⟨a,e⟩;rw[x8,h];rfl
def QK{f:Int->Int}{L:List (Λ)}{i:Nat}(V:dL al)(q:cs.length<=(bn al).length)(p:(bn al)[i]?=σ t)(r:cs[i]?=σ c)(x:t∉L):(dF f L al cs)[i]?=σ c/\(dF f L al cs).set i (f c)=dF f (L++[t]) al cs:=by
 have h1:=qU (f:=f) (L:=L) p r;rw[if_neg x]at h1;refine⟨h1,?_⟩;apply Y9;intro j;rw[X4];by_cases s:i=j
 .subst s;rw[if_pos F,if_pos (x4.1 h1).1,qU p r,if_pos Ξ]
 .rw[if_neg s];cases a:cs[j]? with
  |none=>
   have:=List.getElem?_eq_none_iff.1 a;rw[Z7 (by rw[pF _ _ _ _ q];exact this),Z7 (by rw[pF _ _ _ _ q];exact this)]
  |some A=>
   obtain⟨u,hu⟩:∃u,(bn al)[j]?=σ u:=⟨_,x6 (by have:=(x4.1 a).1;omega)⟩;rw[qU hu a,qU hu a];have y:u≠t:=λhe=>by
    subst he;have z:=kI V p;have w:=kI V hu;rw[z]at w;have:=Z3 w;omega
   have:u∈L++[t]↔u∈L:=by simp[y]
   by_cases e:u∈L
   .rw[if_pos e,if_pos (this.2 e)]
   .rw[if_neg e,if_neg λh=>e (this.1 h)]
def l5(s:aq)(i v:Nat)(c:Int):aq:=match s.vars[i]? with
 |some x=>{s with vars:=s.vars.set i {x with un:=x.un.set v c}}
 |none=>s
def l6(s:aq)(j m:Nat)(c:Int):aq:=match s.funs[j]? with
 |some f=>{s with funs:=s.funs.set j {f with cs:=f.cs.set m c}}
 |none=>s
def sJ{i:Nat}(h:∀x∈l,0<=x/\x<=k)(a:0<=c/\c<=k):∀x∈l.set i c,0<=x/\x<=k:=λx U=>by
 rcases V4 U with U|rfl
 .exact h x U
 .exact a
def ov(w:x3)(ag gT:Nat)(A R:ak)(n:aH)(s':aq)(t:aD)(v:x1)(J:x3):Prop:=v=Δ 0/\ai (eA w) w J/\∃aU p x,Grow A w aU J/\bz J ag gT aU R n s' (t.set p x)
def ov.ext{aa:x3}{A R:ak}{n:aH}{s':aq}{t:aD}(U:Ext w aa)(h:ov aa ag gT A R n s' t v J):ov w ag gT A R n s' t v J:=by
 obtain⟨h1,a,aU,p,x,e,f⟩:=h;exact⟨h1,lk U a,aU,p,x,(Grow.ext U).trans e,f⟩
section
variable{w:x3}{ag gT:Nat}{A R:ak}{n:aH}{s:aq}{t:aD}
def sK(h:bz w ag gT A R n s t)(f:y<0\/¬(0<=c/\c<=n.k)):an x7 Bn [Γ ag,Δ y,Δ c] w λv J=>v=Δ (if y<0 then 1 else 3)/\Ext w J:=by
 refine aA func269 ?_;rw[dh dm.u];simp only[Y0,a8];rw[aP,am];refine⟨λe=>⟨by rw[if_pos e],Ext.refl _⟩,λe=>?_⟩;refine(lp h).mono ?_;rintro _ aa _ ⟨rfl,p⟩;refine(k7 (a:=c) (k:=n.k)).mono ?_;rintro _ ab _ ⟨rfl,q⟩;have r:=f.resolve_left e;rw[decide_eq_false (λh=>r h.2),bM,V8,bX,if_neg e];exact⟨F,p.trans q⟩
def yR{s':aq}{p:Nat}(h:bz w ag gT A R n s t)(f:Room t)(q:y=(p:Int))(r:p<s.cells.length)(x:s.cells.set p c=s'.cells)(V:pA s s')(z:bk n.k n.sizes s')(B:0<=c/\c<=n.k):
  an x7 Bn [Γ ag,Δ y,Δ c] w (ov w ag gT A R n s' t):=by
 refine aA func269 ?_;rw[dh dm.u];simp only[Y0,a8];refine ca Ω ?_;refine(lp h).mono ?_;rintro _ aa _ ⟨rfl,C⟩;refine(k7 (a:=c) (k:=n.k)).mono ?_;rintro _ ab _ ⟨rfl,E⟩;have e:=C.trans E;rw[decide_eq_true (show ct c n.k from⟨h.2.2.2.1.en,B⟩),bM,X2,a8];obtain⟨K,M,N,O,ba,P,L,Q,G,S,U,W,X,Y⟩:=(h.ext e).1.parts;rw[aT cN.p 1 G F];refine(Fr (h.ext e) q r x V z f).mono ?_;rintro _ Z _ ⟨rfl,H,aU,I,J⟩;exact ov.ext e ⟨F,H,aU,_,_,I,J⟩
def QL(h:bz w ag gT A R n s t)(e:Room t):an x7 J7 [Γ ag,Δ c] w λv J=>(¬(0<=c/\c<=n.k)->v=Δ 3/\Ext w J)/\((0<=c/\c<=n.k)->ov w ag gT A R n {s with zero:=c} t v J):=by
 refine aA func222 ?_;by_cases a:0<=c/\c<=n.k
 .refine (yR (p:=0) h e F (by unfold aq.cells kg;simp) (PG s c) (EG s c) ⟨h.2.2.2.1.en,h.2.2.2.1.fT,a,h.2.2.2.1.vars,h.2.2.2.1.var,h.2.2.2.1.funs⟩ a).mono ?_;rintro v aa _ f;exact⟨λh=>absurd a h,λ_=>f⟩
 .refine (sK h (.inr a)).mono ?_;rintro v aa _ ⟨rfl,q⟩;exact⟨λ_=>⟨F,q⟩,λh=>absurd h a⟩
def Fv{i v:Int}(h:bz w ag gT A R n s t)(C:Room t):an x7 J6 [Γ ag,Δ i,Δ v,Δ c] w λr J=>
  (¬fz n i v->r=Δ 1/\Ext w J)/\(fz n i v->¬(0<=c/\c<=n.k)->r=Δ 3/\Ext w J)/\(fz n i v->(0<=c/\c<=n.k)->ov w ag gT A R n (l5 s i.toNat v.toNat c) t r J):=by
 refine aA func221 ?_;refine(yK h).mono ?_;rintro _ aa _ ⟨rfl,e⟩;by_cases a:fz n i v
 .rw[if_pos a];by_cases q:0<=c/\c<=n.k
  .obtain⟨x,f,I,K,_⟩:=a.var h.2.2.2.1;have:=h.2.2.2.1.vars;obtain⟨z,E⟩:∃z,n.sizes[i.toNat]?=σ z:=⟨_,x6 (by have:=a.1;have:=a.2.1;omega)⟩;obtain⟨_,G,hm⟩:=h.2.2.2.1.var i.toNat x z f E;have:=vq f;have y:l5 s i.toNat v.toNat c={s with vars:=s.vars.set i.toNat {x with un:=x.un.set v.toNat c}}:=by unfold l5;rw[f]
   refine(yR (p:=gX s i.toNat+(2+v.toNat)) (s':=l5 s i.toNat v.toNat c) (h.ext e) C Ω Ω ?_ ?_ ?_ q).mono ?_
   .rw[y];refine EB f Ω ?_;rw[show 2+v.toNat=v.toNat+1+1 by omega];rfl
   .rw[y];exact EH f Ξ
   .rw[y];exact h.2.2.2.1.vu f Ξ (sJ G q) hm
   .rintro r ab _ H;exact⟨λh=>absurd a h,λ_ h=>absurd q h,λ_ _=>H.ext e⟩
  .refine (sK (h.ext e) (.inr q)).mono ?_;rintro r ab _ ⟨rfl,B⟩;rw[if_neg Ω];exact⟨λh=>absurd a h,λ_ _=>⟨F,e.trans B⟩,λ_ h=>absurd h q⟩
 .rw[if_neg a];refine(sK (h.ext e) (.inl Ω)).mono ?_;rintro r ab _ ⟨rfl,B⟩;rw[if_pos Ω];exact⟨λ_=>⟨F,e.trans B⟩,λh=>absurd h a,λh=>absurd h a⟩
def QM(h:bz w ag gT A R n s t)(B:Room t)(C:aK .i64 w aN tl):an x7 J5 [Γ ag,Δ (j:Int),aN,Δ c] w λr J=>
  (ia s j tl=ν->r=Δ 1/\Ext w J)/\((ia s j tl).isSome=true->¬(0<=c/\c<=n.k)->r=Δ 3/\Ext w J)/\
  ((ia s j tl).isSome=true->(0<=c/\c<=n.k)->∀f (m:Nat),s.funs[j]?=σ f->cn f.al tl 0=σ (m:Int)->ov w ag gT A R n (l6 s j m c) t r J):=by
 refine aA func220 ?_;refine(Fo h C).mono ?_;rintro _ aa _ ⟨rfl,a⟩;cases E:ia s j tl with
 |none=>
  simp only;refine(sK (h.ext a) (.inl Ω)).mono ?_;rintro r ab _ ⟨rfl,q⟩;rw[if_pos Ω];exact⟨λ_=>⟨F,a.trans q⟩,λh=>by simp at h,λh=>by simp at h⟩
 |some p=>
  simp only;by_cases e:0<=c/\c<=n.k
  .obtain⟨I,f,af,K,m,hm,L,rfl⟩:=yL h.2.2.2.1 E;have M:=yH af;have x:l6 s j m c={s with funs:=s.funs.set j {f with cs:=f.cs.set m c}}:=by unfold l6;rw[af]
   obtain⟨G,_⟩:=h.2.2.2.1.funs f (x5 af);refine(yR (p:=eZ s j+(m+1)) (s':=l6 s j m c) (h.ext a) B F Ω ?_ ?_ ?_ e).mono ?_
   .rw[x];exact PH af Ω F
   .rw[x];exact PQ af Ξ F rfl
   .rw[x];exact h.2.2.2.1.Fq af F rfl Ξ (sJ G.jp e)
   .rintro r ab _ H;refine⟨(λh=>by cases h),λ_ h=>absurd e h,λ_ _ N cm y z=>?_⟩;rw[af]at y;cases y;rw[hm]at z;have:cm=m:=by have:=Z3 z;omega
    subst this;exact H.ext a
  .refine (sK (h.ext a) (.inr e)).mono ?_;rintro r ab _ ⟨rfl,q⟩;rw[if_neg Ω];exact⟨(λh=>by cases h),λ_ _=>⟨F,a.trans q⟩,λ_ h=>absurd h e⟩
end
def ix(of:Int->Int)(p:Int×Int)(v:Int):Int×Int:=if p.2= -1\/of v<p.1 then(of v,v)else p
def cp(k:Int)(l:Λ)(of:Int->Int):Int×Int:=l.foldl (ix of) (k,-1)
def nA{s:aq}{n:aH}{i:Int}{b m:Nat}{x:bC}(h:vt s n i b m)(e:0<=i)(U:s.vars[i.toNat]?=σ x):(fS b m).map (λv:Nat=>(v:Int))=aE x:=by
 obtain⟨_,_,f⟩:=h;obtain⟨rfl,p⟩:=f x e U;unfold fS aE;rw[List.filter_map];congr 1;refine List.filter_congr λq a=>?_;have a:=W8.1 a;rw[p,decide_eq_true a,T9];rfl
section
variable{w:x3}{ag gT:Nat}{A R:ak}{n:aH}{s:aq}{t:aD}
def Fw{a b:Int}(h:bz w ag gT A R n s t)(f:0<=a/\a<=n.k)(p:0<=b/\b<=n.k):an x7 Js [Γ ag,Δ a,Δ b] w λv J=>v=Δ (min (a+b) n.k)/\Ext w J:=by
 refine aA func158 ?_;refine(lp h).mono ?_;rintro _ aa _ ⟨rfl,q⟩;refine(xw).mono ?_;rintro _ ab _ ⟨rfl,r⟩;have hk:=h.2.2.2.1.en;have e:pp a b n.k= .tuple #[Δ (min (a+b) n.k),Δ 0]:=by
  unfold pp;rw[if_pos (show ct a n.k/\ct b n.k from⟨⟨hk,f⟩,⟨hk,p⟩⟩)]
 rw[e,bq,br];exact⟨F,q.trans r⟩
def fW(n:aH)(s:aq)(i:Int):Bool:=decide (0<=i/\i<n.sizes.length)&& !jO s i.toNat
def Fx{i:Int}(h:bz w ag gT A R n s t):an x7 Jk [Γ ag,Δ i] w λv J=>v=Δ (if fW n s i=true then 0 else 1)/\Ext w J:=by
 refine aA func149 ?_;rw[dh dm.u];simp only[Y0,a8];refine aV (λv aa=>v= .bool (!fW n s i)/\Ext w aa) ?_ ?_
 .rintro _ aa ⟨rfl,a⟩;rw[cd];refine⟨λp=>⟨by rw[if_neg (by simpa using p)],a⟩,λp=>⟨by rw[if_pos (by simpa using p)],a⟩⟩
 intro aB q;refine(yJ h).mono ?_;rintro _ aa _ ⟨rfl,a⟩;rw[cd];refine⟨λe=>q _ _ ⟨?_,a⟩,λe=>?_⟩
 .rw[V9]at e;unfold fW;rw[e.2,X2,Bool.and_false];rfl
 refine(kN (i:=i) (h.ext a)).mono ?_;rintro _ ab _ ⟨⟨b,m,rfl,H,B,C⟩,E⟩;refine(xk).mono ?_;rintro _ I _ ⟨rfl,G⟩;rw[bf];refine q _ _ ⟨?_,(a.trans E).trans G⟩;congr 1;have:=h.2.2.2.1.vars;unfold fW;by_cases f:0<=i/\i<n.sizes.length
 .obtain⟨x,r⟩:=aI (l:=s.vars) (i:=i.toNat) Ω;obtain⟨z,y⟩:=aI (l:=n.sizes) (i:=i.toNat) Ω;have:=(h.2.2.2.1.var i.toNat x z r y).1;have:=h.2.2.2.1.fT.2.2 z (x5 y);have:=(C x f.1 r).1;rw[decide_eq_true f.1,T9]at e;rw[decide_eq_true f,e,decide_eq_false Ω];rfl
 .rw[decide_eq_false f,(B f).2];rfl
def qV(w:x3)(fX:Nat)(cap:Array x1)(l:Λ)(of:Int->Int):Prop:=∀(J:x3)(v:Int),Ext w J->v∈l->an x7 fX (Δ v::cap.toList) J λr a=>r=Δ (of v)/\Ext J a
def yS{i:Int}{x:bC}{of:Int->Int}{fX:Nat}{cap:Array x1}(h:bz w ag gT A R n s t)(L:Laid w)(aL:0<=i)(U:s.vars[i.toNat]?=σ x)(aM:qV w fX cap (aE x) of):
  an x7 Jl [Γ ag,Δ i,.func (.func fX) #[] cap] w λr J=>Ext w J/\r= .tuple #[Δ (cp n.k (aE x) of).1,Δ (cp n.k (aE x) of).2]:=by
 refine iG func150 ?_;refine bh λaN aa bc M C=>?_;have C:=C;refine(lp (h.ext M)).mono ?_;rintro _ ab _ ⟨rfl,E⟩;refine bu av.i λN bd be al ao=>?_;refine bu aj.i λga bg bi O ap=>?_;have:=(M.trans E).size;have:=al.size;have:=O.size;refine bp av.i F rfl (ao.ext O) Φ λbk aq bl aO=>?_;have:=ao.lt;have:=ap.lt;refine bp aj.i F rfl (ap.ac aq Ω) Φ λbo au bq aQ=>?_;have aR:=aO.ac au Ω;have aw:=((al.trans O).then aq λr a he=>by have he:r=N:=he;omega).put au Ω;have ay:=(M.trans E).trans aw;refine(kN (i:=i) (h.ext ay)).mono ?_;rintro _ br _ ⟨⟨b,m,rfl,P⟩,az⟩;refine(oa).mono ?_;rintro _ Q _ ⟨aS,ba,rfl,bs,V⟩;have:=P.1;have aA:=nA P aL U;have z:=az.trans aS;have q:=ay.trans z;have:=q.size;have:=z.size;have:=C.lt;have:=az.size;have:=E.size;obtain⟨S,G⟩:∃S:ak,S=λr=>r=N\/r=ga:=⟨_,F⟩;have H:∀r,S r->w.heap.size<=r:=λr a=>by rw[G]at a;rcases a with rfl|rfl<;>omega
 have W:∀r,S r->r≠aN/\r≠ba:=λr a=>by rw[G]at a;rcases a with rfl|rfl<;>omega
 let st:Nat->Int×Int:=λj=>((aE x).take j).foldl (ix of) (n.k,-1);have aT:=C.ext (E.trans (aw.trans z));refine k0.old ⟨_,false,jW,#[Γ ba],_,_,_,_,λj J=>ai S Q J/\ah J N av [Δ (st j).1]/\ah J ga aj [Δ (st j).2],λ_ _ _=>False,F,(n8 (g:=ba) P.1).s,?_,
  λ_ _ U h=>⟨h.1.ext U,h.2.ext U⟩,λ_ _ _ U h=>⟨h.1.trans (U.ac S),h.2.1.ext U,h.2.2.ext U⟩,λ_ _ _ _ _ h=>h,⟨V,L.ext q⟩,⟨ai.refl _ _,aR.ext z,aQ.ext z⟩,?_,?_,λ_ _ h=>h.elim,λ_ _ _ h=>h.elim⟩
 .rintro _ _ _ _ ⟨_,_,_,_,rfl⟩;rfl
 .rintro _ j _ aU ⟨_,_⟩ ⟨bD,rfl,v,ae,aW⟩ ⟨y,I,K⟩;cases aW;intro aC f _ _;have aD:(aE x)[j]?=σ (v:Int):=by rw[<-aA,x8,ae];rfl
  have aF:st (j+1)=ix of (st j) v:=by
   show((aE x).take (j+1)).foldl _ _=_;rw[u9,aD,R3];rfl
  have aX:=((q.then y λr a h=>by have:=H r h;omega)).trans f;have aY:=(aT.ac y λh=>(W _ h).1 F).ext f;rw[ax Ψ (aY.cell F)];refine an.mono (aM aC v aX (x5 aD)) ?_;rintro _ aG _ ⟨rfl,X⟩;have Y:=f.trans X;have Z:=I.ext Y;have ad:=K.ext Y;refine aV (λr af=>r= .bool (decide ((st j).2= -1\/of v<(st j).1))/\Ext aG af) ?_ ?_
  .rintro _ af ⟨rfl,B⟩;have aH:=Y.trans B;rw[am];refine⟨λaZ=>?_,λa1=>?_⟩
   .refine bp av.i F rfl (Z.ext B) Ξ λbE aI bF a2=>?_;refine bp aj.i F rfl ((ad.ext B).ac aI Ω) Ξ λa6 aJ bG a7=>?_;have a8:=a2.ac aJ Ω;have p:ai S Q a6:=((y.trans (aH.ac S)).trans (aI.mono λr _ h=>by rw[G];exact .inl h)).trans (aJ.mono λr _ h=>by rw[G];exact .inr h);have e:st (j+1)=(of v,(v:Int)):=by rw[aF];unfold ix;rw[if_pos aZ]
    refine⟨⟨V.ac p λh=>(W _ h).2 F,(L.ext (q.then p λr a h=>by have:=H r h;omega))⟩,⟨p,?_,?_⟩,λh=>by cases h⟩
    .rw[e];exact a8
    .rw[e];exact a7
   .have e:st (j+1)=st j:=by rw[aF];unfold ix;rw[if_neg a1]
    have p:ai S Q af:=y.trans (aH.ac S);refine⟨⟨V.ac p λh=>(W _ h).2 F,(L.ext (q.then p λr a h=>by have:=H r h;omega))⟩,⟨p,?_,?_⟩,λh=>by cases h⟩
    .rw[e];exact Z.ext B
    .rw[e];exact ad.ext B
  .intro aB aK;rw[ax Ψ (ad.cell F),bf,am];refine⟨λh1=>aK _ _ ⟨by rw[decide_eq_true (.inl h1)],Ext.refl _⟩,λh1=>?_⟩;rw[ax Ψ (Z.cell F),aP];refine aK _ _ ⟨?_,Ext.refl _⟩;congr 1;exact decide_eq_decide.2 ⟨.inr,λh=>h.resolve_left h1⟩
 .rintro k aU rfl ⟨y,I,K⟩;intro aC f _ _;have bb:st (fS b m).length=cp n.k (aE x) of:=by
   show((aE x).take _).foldl _ _=_;rw[Z2 (by rw[<-aA,r9];exact o4 _)];rfl
  rw[bb]at I K;rw[ax Ψ ((I.ext f).cell F),ax Ψ ((K.ext f).cell F)];intro aG X _;exact⟨((q.then y λr a h=>by have:=H r h;omega).trans f).trans X,F⟩
end
end Go.Proofs.YtikkpokkcdocoabGreatDoor
