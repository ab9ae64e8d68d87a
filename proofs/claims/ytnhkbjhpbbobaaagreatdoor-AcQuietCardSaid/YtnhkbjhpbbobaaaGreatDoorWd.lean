/- own texts, made small by a tool (wip/ holds them as they were written): no statement of the seat. -/
import Derived.Test.YtnhkbjhpbbobaaaGreatDoorWc
set_option linter.unusedVariables false
set_option linter.unusedSimpArgs false
set_option linter.unnecessarySimpa false
open Array renaming getElem?_eq_some_iff→j9
open BitVec renaming ofInt→T9
open Bool renaming false→rs,true→ro,not_true→X1,not_false→W7,or_eq_false_iff→U4,eq_iff_iff→U9,and_eq_true→T1,true_and→S0
open Decidable renaming not_not→X5
open Go renaming Value→x1,World→x4,TypeId→p9,IntKind→o7,Program→V5
open Go.Builtin renaming append_→Y0,len_→V7
open Go.Instr renaming loadAt→u5,fieldAt→u7,storeAt→n9,indexAt→Z0,extract→Y8,buildSlice→X2,sliceAt→U5,alloc→P7
open Go.IntKind renaming i64→W6
open Go.Proofs.Tryz renaming prog→x8
open Int renaming toNat_natCast→u6,le_refl→S8
open List renaming getElem?_eq_some_iff→x5,mem_of_getElem?→x6,getElem?_eq_getElem→x7,getElem?_map→v8,getD_eq_getElem?_getD→u4,length_map→u9,take_add_one→r8,length_append→r9,replicate→o4,length_set→o5,take_length→o6,length_take→o8,mem_map→j0,mem_append→j4,take_of_length_le→j5,mem_singleton→j6,eq_nil_of_length_eq_zero→c9,length_cons→Z4,map_append→Z5,getElem?_append_right→Z7,getElem?_append_left→Y2,getElem?_eq_none→Y4,getElem?_set→Y6,getElem?_take_of_lt→Y7,ext_getElem?→X3,mem_iff_getElem?→X6,drop_eq_getElem_cons→X8,append_assoc→X9,range→W3,append_nil→W5,flatMap_cons→W9,mem_or_eq_of_mem_set→V0,length_eq_one_iff→V6,length_singleton→U2,mem_of_mem_take→U3,map_set→T2,map_cons→T3,set_append_right→T4,mem_range→T6,mem_filter→S1,map_map→S5,length→R6,foldl_append→Q0,getElem_mem→Q4,length_nil→Q7,length_filter_le→Q8
open Nat renaming le_refl→p8,mul_le_mul_right→Y5,le_trans→Y9,zero_le→X7,sub_self→W8,add_mul→U7,mul_one→T5,pow_le_pow_right→S4,add_assoc→R5,min_eq_left→Q6,eq_zero_or_pos→P8
open Option renaming toList_some→o9,isNone_some→Z3,map_some→Y3,map_eq_some_iff→X0,getD_some→V9,map→T0,isSome_some→S9,isSome_none→Q5
open Option.some renaming inj→Z6,injEq→X4
open Prod.mk renaming injEq→S7
set_option maxHeartbeats 16000000
open Option renaming some→σ,none→ν
variable{ai all cs l pl co t tl:Λ}{I w:x4}{B N ad ae gs gz j:Nat}{c k n y:Int}{a e:p9}{aS sv d9 v z:x1}{K:x1->Prop}{S:Nat->Prop}
namespace Go.Proofs.YtnhkbjhpbbobaaaGreatDoor
open Go Go.Vc Go.RowKit Go.Proofs Go.Proofs.Tryz
set_option maxRecDepth 100000
def kj(s:am)(sc ai cs:Λ):am:={s with d7:=s.d7++[⟨sc,ai,1,cs⟩]}
def pF(s:am)(t:aw)(cs:Λ):aw:=(oj t (1::cs)).set 1 ((s.d7.length+1:Nat):Int)
theorem PT{s:am}{t:aw}{sc:Λ}(h:t.bM=s.cells):(pF s t cs).bM=(kj s sc ai cs).cells:=by
 unfold pF kj;rw[aw.rx,EF,h,<-PL];rfl
theorem PU{bn:Nat}{bo aL bp:x1}{A R:ah}{n:aI}{s:am}{t:aw}{aU:x1}{sc:Λ}{g bO:Nat}{Z:x1}(h:eP w ad ae bn bo aL bp A R n s t)(cd:t.bM=s.cells)(ce:aM .i64 w aU sc)(dm:∀r,lc aU r->¬A r)(br:dj w g bO Z ai k cs)(bP:¬A g/\¬A bO/\∀r,lc Z r->¬A r)(dn:sc.length<=1000)(aS:t.cells.length+cs.length+1<=100000000)(bd:t.olds.length+cs.length+1<=100000000)(hm:t.marks.length<=100000000)(dq:s.d7.length<=1000000):
  al x8 Ja [Γ ad,aU,Γ g] w λv I=>v=Δ (s.d7.length:Int)/\af (er w) w I/\∃aK R' bt,Grow A w aK I/\eP I ad ae bn bo bt bp aK R' n (kj s sc ai cs) (pF s t cs)/\(∀r,R r->R' r)/\∀r,R' r->R r\/lc Z r\/w.heap.size<=r:=by
 have ds:t.cells.length=s.cells.length:=by rw[<-cd];simp[aw.bM]
 have dt:=x2 s;have cf:eW (kj s sc ai cs) s.d7.length=t.cells.length:=by
  unfold eW kj;simp only[List.take_left];omega
 have cg:∀j,j<s.d7.length->eW (kj s sc ai cs) j=eW s j:=λj bu=>by
  unfold eW kj;simp only[List.take_append_of_le_length (show j<=s.d7.length by omega)]
 have ch:ix (kj s sc ai cs)=ix s:=rfl;refine aB func134 ?_;refine cW (λU=>af (er w) w U/\∃aK R' bt,Grow A w aK U/\eP U ad ae bn bo bt bp aK R' n (kj s sc ai cs) (oj t (1::cs))/\(∀r,R r->R' r)/\∀r,R' r->R r\/lc Z r\/w.heap.size<=r) ?_ ?_
 .rintro U ⟨ci,du,cj,ck,cl,cm,cp,cq⟩;intro aa bw _ _;have bQ:=cm.W bw;obtain⟨_,bc,bx,ge,L,E,_,w0,ak,_,_,_,⟨aZ,be⟩,_⟩:=id bQ;have bf:L.length=s.d7.length+1:=by rw[be.1];simp[kj]
  rw[aG b9.p 1 ak rfl,aG b9.p 3 ak rfl,dE fa.u aZ];obtain⟨bS,cr,ct⟩:=bQ.pE;have cu:=yc t (1::cs) (1::cs).length;have cw:=yd t (1::cs) (1::cs).length;have cz:=ss t (1::cs) (1::cs).length;simp only[Z4]at cu cw;refine(uZ cr rfl (by show 1<(fX _ _ _).cells.length;simp only[Z4];omega) ⟨by show(fX _ _ _).cells.length<=_;simp only[Z4];omega,by show(fX _ _ _).olds.length<=_;simp only[Z4];omega,by show(fX _ _ _).marks.length<=_;rw[cz];exact hm⟩).Y ?_;rintro _ cA _ ⟨rfl,cB,cC,cD⟩;obtain⟨cF,cG,cH,bT⟩:=ct cB cA _ cC cD;obtain⟨_,bc,bx,ge,cI,E,_,w0,ak,_,_,_,⟨aZ,cJ⟩,_⟩:=id bT;have dv:cI.length=s.d7.length+1:=by rw[cJ.1];simp[kj]
  rw[aG b9.p 3 ak rfl,dE fa.u aZ,dp,li Ω Ω];refine⟨by congr 1;omega,u3 ci (jp bw cF),cG,cj,ck,cl.F ((Grow.W bw).F cH),?_,cp,cq⟩;have e:pF s t cs=(oj t (1::cs)).set 1 (L.length:Int):=by unfold pF;rw[bf]
  rw[e];exact bT
 intro ay cK;intro aN aO _ _;have bU:=h.W aO;obtain⟨_,bc,bx,ge,L,E,_,w0,ak,_⟩:=id bU;rw[aG b9.p 3 ak rfl];have z4:=aO.size;have bg:∀{C:x4}{ac Q:x1}{a1 W:Nat},Ext aN C->w.heap.size<=a1->w.heap.size<=W->aA .i64 aj C a1 ac sc->aA .i64 au C W Q (1::cs)->(∀r,lc ac r\/lc Q r->¬A r)->
   al x8 AR [Γ ad,Q] C λcL az=>
    (Ext aN az\/cE x8 (u5 fa (.pointer (σ ⟨ad,0+3,ν⟩))) aL az/\cE x8 (u7 b9 (Γ ad) 3) (.pointer (σ ⟨ad,0+3,ν⟩)) az/\cE x8 (bR (Γ ad)) (Γ ad) az/\True)/\
    ab x8 (Instr.build dU #[(0,ac),(1,.agg #[Z]),(2,cL)]) az λt22=>
    aH x8 (X2 fa 1 #[(0,t22)]) az λcM an=>
     (Ext aN an\/cE x8 (u5 fa (.pointer (σ ⟨ad,0+3,ν⟩))) aL an/\cE x8 (u7 b9 (Γ ad) 3) (.pointer (σ ⟨ad,0+3,ν⟩)) an/\cE x8 (bR (Γ ad)) (Γ ad) an/\True)/\
    aH x8 (Y0 #[fa,fa] fa #[aL,cM]) an λcN bh=>
     ab x8 (bR (Γ ad)) bh λt25=>
     ab x8 (u7 b9 t25 3) bh λcO=>
     aH x8 (n9 fa cO cN) bh λ(_:Unit)aV=>
      ay aV:=by
  intro C ac Q a1 W B bW S G M bz;have cP:=bU.W B;refine(EH cP M.ls (λr y=>bz r (.inr y)) (by simp only[Z4];omega) (by simp only[Z4];omega) hm).Y ?_;rintro _ az _ ⟨rfl,cQ,a2,aW,cR⟩;obtain⟨⟨bX,bY,cS,bZ⟩,bc,bx,ge,L,E,bS,w0,ak,⟨cT,cU,b0⟩,⟨cV,b1,b2,aE⟩,bA,⟨aZ,be⟩,bB,cX⟩:=id cR;have aC:=bs G aW.1 λr y=>bz r (.inl y);have bi:=((Classical.choose_spec (show∃gs,aA .i64 aj w gs Z ai from by obtain⟨⟨_,gs,_,q,_⟩,_⟩:=br;exact⟨gs,q⟩)).W aO).W B;have cY:=bs bi aW.1 bP.2.2;refine⟨.inr (u2 ak (λK=>by rw[aT b9.p rfl]) Ψ rfl),?_⟩;rw[di (cs:=#[ac,Z,Δ (t.cells.length:Int)]) (by obtain⟨_,_,_,rfl⟩:=dr G.ls;obtain⟨_,_,_,rfl⟩:=dr bi.ls;kernel_rfl)];let a:qM:=⟨ac,Z,t.cells.length⟩;have cZ:∀u∈oi a,u.oneCell'=ro:=by
   intro u hu;simp[oi]at hu;rcases hu with rfl|rfl|rfl
   .exact G.ls.cells.2
   .exact bi.ls.cells.2
   .rfl
  refine iS (f:=oi) (a:=a) fa.u dU.i Ω rfl rfl λdw dx an dy H c0=>?_;refine⟨.inr (u2 (ak.W H) (λK=>by rw[aT b9.p rfl]) Ψ rfl),?_⟩;have a6:=aZ.W H;have bf:=be.1;refine jo fa.u dU.i rfl a6 (by simpa using c0.sl) cZ Ω Ω λc1 c2 bh a7 c3 b3=>?_;have a8:=ak.W H;have b4:=a8.V b3 λhe=>cn a6 a8 Φ he;rw[bL,aT b9.p rfl];refine bq fa.i (dg a7.sl).1 (dg a7.sl).2 b4 Ξ λaV bC dz bD=>?_;have bD:=bD;have ao:af (λr=>hp aL r\/r=ad) an aV:=(b3.Y λr _ h=>.inl h).F (bC.Y λr _ h=>.inr h);have z9:=B.size;have dA:=aW.1.size;have dC:=H.size;have dD:=ao.size;have bE:∀r,(hp aL r\/r=ad)->a2 r:=λr y=>y.elim (λy=>(aE r (.inr (.inl y))).1) λy=>y▸bX;have bF:∀r,(hp aL r\/r=ad)->¬R r:=λr y=>bY r (bE r y);have c4:af (er w) w aV:=u3 (jp (aO.F B) cQ) (jp H (ao.Y λr _ y=>by
   rcases y with y|rfl
   .obtain⟨_,c,aS⟩:=eb a6 y;exact .inl ⟨_,c,‹r=_› ▸aS,Φ⟩
   .exact .inl ⟨_,_,a8,Φ⟩))
  let c5:ah:=λr=>a2 r\/(an.heap.size<=r/\r<aV.heap.size);let bG:ah:=λr=>R r\/(lc Z r/\r<az.heap.size)\/(lc ac r/\r<az.heap.size);have dF:∀r,r<w.heap.size->a2 r->A r:=λr y h=>(aW.2.1 r h).elim id λh=>Ω
  have bH:∀r,lc ac r->w.heap.size<=r/\r<C.heap.size:=λr y=>by obtain⟨h1,aX⟩:=bV G y;omega
  have b5:∀r,lc Z r->r<C.heap.size:=λr y=>by obtain⟨h1,aX⟩:=bV bi y;omega
  have bj:∀r,lc ac r\/lc Z r->¬a2 r:=λr y c6=>by
   rcases aW.2.1 r c6 with h|h
   .rcases y with y|y
    .exact bz r (.inl y) h
    .exact bP.2.2 r y h
   .rcases y with y|y
    .have:=bH r y;omega
    .have:=b5 r y;omega
  refine cK _ ⟨c4,c5,bG,c1,(Grow.W (aO.F B)).F (aW.F ((Grow.W H).F ⟨ao.Y λr _ y=>bE r y,λr y=>y.imp id And.left,λr y=>.inl y⟩)),?_,λr y=>.inl y,λr y=>?_⟩
  rotate_left
  .rcases y with y|y|y
   .exact .inl y
   .exact .inr (.inl y.1)
   .exact .inr (.inr (bH r y.1).1)
  have b6:∀{v:x1}{ba:Nat}{l:Λ},aA .i64 aj an ba v l->(∀r,lc v r->¬a2 r)->aA .i64 aj aV ba v l:=λhm c7=>bs hm ao λr y J=>c7 r y (bE r J);have b7:∀r,bG r->r<an.heap.size:=λr y=>by
   rcases y with y|y|y
   .have:=cS r y;omega
   .omega
   .omega
  refine⟨⟨.inl bX,λr y aF=>?_,λr y=>by have:=b7 r y;omega,λr y=>y.elim (λy=>by have:=bZ r y;omega) And.right⟩,bc,c2,ge,L++[a],E,bS,w0,bD,⟨cT,sq (cU.F H) ao λr o y bd J=>bF r J (b0 r o y bd),λr o y bd=>.inl (b0 r o y bd)⟩,⟨(cV.W H).V ao λr y J=>?_,λr y=>.inl (b1 r y),b2,λr y=>?_⟩,?_,⟨a7.V bC λr y he=>?_,?_⟩,(bB.W H).V ao λr y J=>?_,?_⟩
  .have:=b7 r aF;rcases y with y|y
   .rcases aF with aF|aF|aF
    .exact bY r y aF
    .exact bj r (.inr aF.1) y
    .exact bj r (.inl aF.1) y
   .omega
  .rcases J with J|rfl
   .exact (aE r (.inr (.inl J))).2 y
   .exact b2 y
  .rcases y with y|y|y
   .exact⟨.inl (aE r (.inl y)).1,(aE r (.inl y)).2⟩
   .obtain⟨h1,aX⟩:=a7.lc y;rcases c3 r y with h|h
    .exact⟨.inl (aE r (.inr (.inl h))).1,(aE r (.inr (.inl h))).2⟩
    .refine⟨.inr ⟨h,by have:=bC.size;omega⟩,λc8=>?_⟩;have:=bZ r (b1 r c8);omega
   .exact⟨.inl (aE r (.inr (.inr y))).1,(aE r (.inr (.inr y))).2⟩
  .rw[ch];exact bs (bA.W H) ao λr y J=>by
    rcases J with J|rfl
    .obtain⟨rfl,c,aS⟩:=eb a6 J;exact b8 (bA.W H) aS Φ y rfl
    .exact b8 (bA.W H) a8 Φ y rfl
  .have he:r=ad:=he;subst he;exact cn a7 b4 Φ y
  .refine⟨by rw[r9,bf];simp[kj],λj x f bk aP=>?_⟩;have aP:(s.d7++[⟨sc,ai,1,cs⟩])[j]?=σ f:=aP;by_cases bu:j<s.d7.length
   .rw[Y2 Ω]at bk;rw[Y2 bu]at aP;obtain⟨c9,da,db⟩:=((((mH.V be (H.V λ_=>False) λ_ _ _ h=>h).V ao λr _ y J=>bF r J y).Y (R':=bG) λr y=>.inl y)).2 j x f bk aP;exact⟨c9,da,by rw[cg j bu];exact db⟩
   .have bI:j=s.d7.length:=by have:=(x5.1 aP).1;simp at this;omega
    rw[Z7 Ω,bf,bI,W8]at bk;rw[Z7 Ω,bI,W8]at aP;cases bk;cases aP;refine⟨⟨⟨_,b6 (aC.W H) λr y=>bj r (.inl y)⟩,λr y=>.inr (.inr ⟨y,?_⟩)⟩,⟨⟨_,b6 (cY.W H) λr y=>bj r (.inr y)⟩,λr y=>.inr (.inl ⟨y,?_⟩)⟩,?_⟩
    .have:=bH r y;omega
    .have:=b5 r y;omega
    .rw[bI,cf]
  .rcases J with J|rfl
   .obtain⟨rfl,c,aS⟩:=eb a6 J;exact cn (bB.W H) aS Φ y
   .exact cn (bB.W H) a8 Φ y
  .exact ((nC.V cX (H.V λ_=>False) λ_ _ _ h=>h).V ao λr _ y J=>bF r J y).Y λr y=>.inl y
 have aY:=br.W aO;have ca:=ce.W aO;have dc:∀r,A r->r<w.heap.size:=h.1.2.2.2;obtain⟨_,⟨_,_,dG⟩,dH,dI⟩:=id br;have dJ:cs.length<=4096:=Ω
 have bl:∀{ap:x4}{aQ aR:x1}{X:Nat}{K:x1->x4->Prop},Ext aN ap->aN.heap.size<=X->aA .i64 au ap X aQ [1]->aM .i64 ap aR cs->
   (∀Q W C,Ext aN C->af (λr=>r=X) ap C->w.heap.size<=W->aA .i64 au C W Q (1::cs)->(Ext aN C->K Q C))->aH x8 (Y0 #[ax,ax] ax #[aQ,aR]) ap K:=by
  intro ap aQ aR X K z bm aq aD dd;refine kx ax.u au.i rfl aq aD Θ Θ λQ W C S M av=>?_;have B:=z.put av Ω;have de:=z.size;exact dd Q W C B av Ω M B
 have aJ:∀{v:x1}{ba:Nat}{df:o7}{e:p9}{dh:x4}{l:Λ},aA df e dh ba v l->w.heap.size<=ba->∀r,lc v r->¬A r:=λhm dK r y dk=>by
  obtain⟨h1,_⟩:=bV hm y;have:=dc r dk;omega
 refine⟨?_,?_⟩
 .refine (mr ca Ω).Y ?_;rintro ac dl _ ⟨N,a1,bW,G⟩;have z5:=N.size;refine⟨.inl N,?_,?_⟩
  .refine (qz (aY.W N)).Y ?_;rintro _ cb _ ⟨rfl,O⟩;have Y:=N.F O;have dL:=Y.size;have dM:=O.size;have cc:=(aY.W N).W O;refine⟨.inl Y,?_,?_⟩
   .refine eB ax.u au.i rfl λaQ X ap bm z aq=>?_;refine⟨.inl (Y.F z),?_⟩;refine(oc (cc.W z)).Y ?_;rintro aR bJ _ ⟨P,bK,bN,aD⟩;have ag:=(Y.F z).F P;refine⟨.inl ag,?_⟩;refine bl ag Ω (aq.W P) aD.ls λQ W C B av S M _=>⟨.inl B,?_⟩;have aC:=bs (((G.W O).W z).W P) av λr y he=>by have he:r=X:=he;obtain⟨h1,aX⟩:=bV G y;omega
    exact bg B Ω S aC M λr y=>y.elim (aJ G Ω r) (aJ M S r)
   .refine (oc cc).Y ?_;rintro aR ap _ ⟨z,bK,bN,aD⟩;refine⟨.inl (Y.F z),?_⟩;have de:=z.size;refine eB ax.u au.i rfl λaQ X bJ bm P aq=>?_;have ag:=(Y.F z).F P;refine⟨.inl ag,?_⟩;refine bl ag Ω aq (aD.ls.W P) λQ W C B av S M _=>⟨.inl B,?_⟩;have aC:=bs (((G.W O).W z).W P) av λr y he=>by have he:r=X:=he;obtain⟨h1,aX⟩:=bV G y;omega
    exact bg B Ω S aC M λr y=>y.elim (aJ G Ω r) (aJ M S r)
  .refine eB ax.u au.i rfl λaQ X cb bm O aq=>?_;have Y:=N.F O;refine⟨.inl Y,?_⟩;refine(qz ((aY.W N).W O)).Y ?_;rintro _ ap _ ⟨rfl,z⟩;have bb:=Y.F z;refine⟨.inl bb,?_⟩;refine(oc (((aY.W N).W O).W z)).Y ?_;rintro aR bJ _ ⟨P,bK,bN,aD⟩;have ag:=bb.F P;refine⟨.inl ag,?_⟩;refine bl ag Ω ((aq.W z).W P) aD.ls λQ W C B av S M _=>⟨.inl B,?_⟩;have aC:=bs (((G.W O).W z).W P) av λr y he=>by have he:r=X:=he;obtain⟨h1,aX⟩:=bV G y;omega
   exact bg B Ω S aC M λr y=>y.elim (aJ G Ω r) (aJ M S r)
 .refine eB ax.u au.i rfl λaQ X dl bm N aq=>?_;refine⟨.inl N,?_⟩;have z5:=N.size;have dN:=uK aq Ξ;refine(mr (ca.W N) Ω).Y ?_;rintro ac cb _ ⟨O,a1,bW,G⟩;have Y:=N.F O;refine⟨.inl Y,?_⟩;refine(qz ((aY.W N).W O)).Y ?_;rintro _ ap _ ⟨rfl,z⟩;have bb:=Y.F z;refine⟨.inl bb,?_⟩;refine(oc (((aY.W N).W O).W z)).Y ?_;rintro aR bJ _ ⟨P,bK,bN,aD⟩;have ag:=bb.F P;refine⟨.inl ag,?_⟩;refine bl ag Ω (((aq.W O).W z).W P) aD.ls λQ W C B av S M _=>⟨.inl B,?_⟩;have aC:=bs ((G.W z).W P) av λr y he=>by have he:r=X:=he;obtain⟨h1,aX⟩:=bV G y;omega
  exact bg B Ω S aC M λr y=>y.elim (aJ G Ω r) (aJ M S r)
theorem ii{P:V5}{t G:p9}{k:o7}{b g:Nat}{x:x1}{m:Λ}{K:x1->x4->Prop}(y:P.underlying t=σ (.slice e))(hi:aP P e 1 b z)(A:z.cells.size=1)(h:aA k e w g v l)(B:aM k w x m)(C:(l.length+m.length)*b<=140737488355328)(E:l.length+m.length<=9223372036854775807)(F:∀a f I,aA k e I f a (l++m)->(∀r,lc a r->lc v r\/w.heap.size<=r)->af (λr=>lc v r) w I->K a I):aH P (Y0 #[t,t] G #[v,x]) w K:=by
 rcases h.2 with⟨p,H⟩|⟨cap,cs,p,M,N⟩
 .have J:=c9 H;subst J;have aW:aA k e w w.heap.size v []:=by rw[p];exact aA.nil _ _ _ _
  refine kx y hi A aW B C E λa f I q hm s=>F a f I hm (λr j=>.inr ?_) (s.Y λr j he=>by have he:r=w.heap.size:=he;omega);obtain⟨L,_⟩:=bV hm j;omega
 .refine kx y hi A h B C E λa f I q hm s=>F a f I hm (λr j=>?_) (s.Y λr j he=>⟨_,_,_,p,he.symm⟩);obtain⟨L,_⟩:=bV hm j;rcases q with q|q
  .exact .inl ⟨_,_,_,p,by show g=r;omega⟩
  .exact .inr Ω
def addVar(s:am)(u:Λ):am:={s with d6:=s.d6++[newVar u]}
theorem PV(s:am)(u:Λ):ix (addVar s u)=ix s++[((3+(s.d6.flatMap gP).length:Nat):Int)]:=by
 unfold ix addVar;rw[r9,U2,List.range_succ,Z5];congr 1
 .apply List.map_congr_left;intro i hi;have:=T6.1 hi;unfold gv;simp only[List.take_append_of_le_length (show i<=s.d6.length by omega)]
 .simp[gv]
theorem PW{s:am}{u:Λ}(a:s.d7=[]):(addVar s u).cells=s.cells++(0::0::u):=by
 unfold am.cells addVar jN;simp only[a,List.flatMap_nil,W5,List.flatMap_append,List.flatMap_singleton,X9];rfl
def e6(n:aI)(i j:Nat):am:=⟨n.zero,(n.unary.take i).map newVar,(n.d7.take j).map (lX n.co),[]⟩
theorem EI{n:aI}{i:Nat}{u:Λ}(h:n.unary[i]?=σ u):e6 n (i+1) 0=addVar (e6 n i 0) u:=by
 unfold e6 addVar;simp only[r8,h,o9,Z5,List.map_singleton]
theorem PX{n:aI}{i:Nat}{g:cO}(h:n.d7[j]?=σ g):e6 n i (j+1)=kj (e6 n i j) g.1 (b1 n.co g.1) g.2:=by
 unfold e6 kj;simp only[r8,h,o9,Z5,List.map_singleton];rfl
theorem ye(n:aI):e6 n n.unary.length n.d7.length=dh n:=by
 unfold e6 dh;rw[o6,o6]
theorem yf{α β:Type}{f:α->List β}{b:Nat}:∀{L:List α},(∀x∈L,(f x).length<=b)->(L.flatMap f).length<=L.length*b
 |[],_=>Ξ
 |x::L,h=>by
  rw[W9,r9,Z4,U7];have:=yf λy a=>h y (.tail _ a);have:=h x (.head _);omega
theorem va{n:aI}(a:lg n)(A:n.d7.length<=256)(i j:Nat):(e6 n i j).cells.length<=2000000:=by
 rw[x2];have h1:=yf (f:=gP) (b:=34) (L:=(e6 n i j).d6) λx h=>by
  obtain⟨u,hu,rfl⟩:=j0.1 (show x∈(n.unary.take i).map newVar from h);obtain⟨p,ac⟩:=X6.1 (U3 hu);have B:=a.lW;have C:=(x5.1 ac).1;obtain⟨z,q⟩:=aF (l:=n.co) (i:=p) Ω;have s:=(a.unary p z u q ac).1;have e:=a.co.2.2 z (x6 q);show u.length+2<=34;omega
 have s:=yf (f:=ih) (b:=4097) (L:=(e6 n i j).d7) λx h=>by
  obtain⟨g,w,rfl⟩:=j0.1 (show x∈(n.d7.take j).map (lX n.co)from h);have e:=(a.d7 g (U3 w)).1;have r:=e.len;have y:=e.small;show g.2.length+1<=4097;omega
 have e:(e6 n i j).d6.length<=64:=by
  show((n.unary.take i).map newVar).length<=64;rw[u9,o8];have:=a.lW;have:=a.co.2.1;omega
 have r:(e6 n i j).d7.length<=256:=by
  show((n.d7.take j).map (lX n.co)).length<=256;rw[u9,o8];omega
 have y:=Y5 34 e;have E:=Y5 4097 r;omega
def Plain(t:aw):Prop:=t.marks=[]/\t.olds=[]/\eJ t []/\t.ever=0
theorem Plain.set{t:aw}(h:Plain t)(i:Nat)(x:Int):Plain (t.set i x):=⟨(aw.ya _ _ _).F h.1,(aw.yb h.1 _ _).F h.2.1,h.2.2.1.set,(aw.Ez _ _ _).F h.2.2.2⟩
theorem Plain.lay{t:aw}(h:Plain t)(l:Λ):Plain (oj t l):=⟨(ss _ _ _).F h.1,(ED h.1 _ _).F h.2.1,h.2.2.1.fX l _,(EC _ _ _).F h.2.2.2⟩
theorem Plain.put{s:am}{t:aw}(h:Plain t)(cs:Λ):Plain (pF s t cs):=(h.lay _).set _ _
def PY(w:x4)(R0:ah)(n:aI)(v:x1)(I:x4):Prop:=Ext w I/\∃ad ae A R t,v=Γ ad/\StateM I ad ae A R n (dh n) t/\t.bM=(dh n).cells/\Plain t/\(∀r,A r->w.heap.size<=r)/\∀r,R r->R0 r\/w.heap.size<=r
theorem PZ{w0:x4}{R0:ah}{C:Nat}{n:aI}(aL:gu w0 C n)(an:Ext w0 w)(ba:∀r o,w0.heap[r]?=σ o->fL o=ro->R0 r)(aM:∀r,R0 r->r<w.heap.size)(y:lg n)(bb:n.d7.length<=256):al x8 AI [Γ C] w (PY w R0 n):=by
 have h:=aL.W an;have bQ:=y.lW;have cV:=y.co.2.1;refine aB func62 ?_;rw[cR nX.u];simp only[Z3,aX];refine(PF (n:=3) Ω).Y ?_;rintro _ U _ ⟨ao,ae,rfl,bR⟩;rw[di (cs:=#[Γ C,Γ ae,.slice ν 0 0,.slice ν 0 0,.slice ν 0 0]) Ψ];refine bo λad aa cW O P=>?_;have P:=P;have cX:=ao.size;have cY:=O.size;have cZ:=P.lt;have bS:eP aa ad ae C (.slice ν 0 0) (.slice ν 0 0) (.slice ν 0 0) (λr=>r=ad\/(w.heap.size<=r/\r<U.heap.size)) R0 n ⟨0,[],[],[]⟩ ⟨o4 3 ⟨0,0⟩,[],[],0⟩:=by
  refine⟨⟨.inl rfl,λr q I=>?_,λr q=>?_,λr q=>?_⟩,0,0,0,[],[],λr=>w.heap.size<=r/\r<U.heap.size,w0,P,⟨aL,an.F (ao.F O),ba⟩,⟨(bR.cut).W O,λr q=>.inr q,λq=>?_,λr q=>?_⟩,aA.nil _ _ _ _,⟨bh.nil _ _ _ _ _,rfl,λj x f Q=>by simp at Q⟩,bh.nil _ _ _ _ _,rfl,λj x f Q=>by simp at Q⟩
  .have I:=aM r I;rcases q with q|q<;>omega
  .have q:=aM r q;omega
  .rcases q with q|q<;>omega
  .omega
  .rcases q with q|q|q
   .obtain⟨a,c0,c,aN,c1⟩:=q;cases aN
   .exact (fq q).elim
   .exact (fq q).elim
 intro c2 S _ _;have bT:=bS.W S;rw[aG b9.p 1 (P.W S) rfl];refine(PO (h.W ((ao.F O).F S))).Y ?_;rintro _ c3 _ ⟨rfl,ap⟩;refine⟨.inl ap,?_⟩;have bU:=bT.W ap;obtain⟨aP,bW,bX⟩:=bU.sr;refine(uZ bW rfl Φ ⟨Ξ,Ξ,Ξ⟩).Y ?_;rintro _ bY _ ⟨_,b0,b1,b2⟩;obtain⟨b3,bd,aQ⟩:=bX b0 bY _ b1 b2;have aQ:=aQ.same (Ex ⟨0,[],[],[]⟩ n.zero);have z3:=S.size;have z4:=ap.size;have b4:=((ao.F O).F S).F ap;have be:=b4.then bd.1 λr q he=>by rcases he with he|he<;>omega
 refine(x3 (h.W be)).Y ?_;rintro _ c4 _ ⟨rfl,bf⟩;refine bZ.range n.co.length (λi av=>∃A G t,Ext w av/\eP av ad ae C G (.slice ν 0 0) (.slice ν 0 0) A R0 n (e6 n i 0) t/\t.bM=(e6 n i 0).cells/\Plain t/\∀r,A r->w.heap.size<=r) Ω
  ⟨b3,_,_,be.F bf,aQ.W bf,?_,?_,λr q=>?_⟩ ?_ ?_
 .rw[aw.rx];rfl
 .exact Plain.set ⟨rfl,rfl,⟨rfl,rfl,λc z=>by rw[(List.mem_replicate.1 z).2];exact p8 _,X7 _⟩,rfl⟩ _ _
 .rcases bd.2.1 r q with he|he
  .rcases he with he|he<;>omega
  .omega
 .rintro i av b5 hi ⟨A,G,t,M,aR,W,X,ay⟩ b6;obtain⟨u,hu⟩:=aF (l:=n.unary) (i:=i) Ω;obtain⟨bg,bi⟩:=aF (l:=n.co) (i:=i) Ω;have c5:u.length<=32:=by
   have c6:=(y.unary i bg u bi hu).1;have c7:=y.co.2.2 bg (x6 bi);omega
  refine bI Ω ?_;refine(Eu (h.W M) y).Y ?_;rintro c8 c9 _ ⟨b7,_,ca⟩;obtain⟨da,db,cb⟩:=ca u Ω (by rw[u6];exact hu);intro bj bk _ _;have aS:=b7.F bk;have bl:=aR.W aS;obtain⟨⟨_,_,_,Y⟩,bc,bm,ge,L,E,aP,w0,az,_⟩:=id bl;have dc:=aS.size;have dd:=M.size;rw[aG b9.p 2 az rfl];refine w5 (l:=[0,0]) ax.u au.i Ω rfl Ψ λcd de df dg aC bn=>?_;refine⟨.inl aC,?_⟩;refine ii ax.u au.i rfl bn ((cb.W bk).ls.W aC) Θ Θ λce dj dk cf cg ch=>?_;have bp:∀r,lc cd r->bj.heap.size<=r:=λr q=>by obtain⟨aN,_⟩:=bV bn q;omega
  have aD:=aC.then ch λr q he=>by have:=bp r he;omega
  refine⟨.inl aD,?_⟩;have ci:=bl.W aD;have cj:∀r,lc ce r->bj.heap.size<=r:=λr q=>by
   rcases cg r q with h|h
   .exact bp r h
   .have:=aC.size;omega
  have ck:t.cells.length<=2000000:=by
   have h1:=va y bb i 0;rw[<-W]at h1;unfold aw.bM at h1;rwa [u9]at h1
  have cl:t.olds.length=0:=by rw[X.2.1];rfl
  have cm:t.marks.length=0:=by rw[X.1];rfl
  refine(EH ci cf.ls (λr q s=>by have:=Y r s;have:=cj r q;omega) Θ Θ Ω).Y ?_;rintro _ dl _ ⟨rfl,_,aV,aW,cn⟩;obtain⟨⟨br,bt,cp,bu⟩,bc,bm,ge,L,E,aP,w0,az,⟨cq,cr,bw⟩,⟨ct,bx,bz,aE⟩,cu,⟨cw,cz⟩,cA,cB⟩:=id cn;refine⟨.inr (u2 az (λK=>by rw[aT b9.p rfl]) Ψ rfl),?_⟩;refine eB aq.u aj.i rfl λdm dn bA dp B cC=>?_;have aY:=az.W B;refine⟨.inr (u2 aY (λK=>by rw[aT b9.p rfl]) Ψ rfl),?_⟩;have bB:(ix (e6 n i 0)).length=i:=by
   unfold ix e6;simp only[u9,List.length_range,o8];omega
  have bC:=cu.W B;refine ii aq.u aj.i rfl bC cC.ls (by rw[bB];simp;omega) (by rw[bB];simp;omega) λcD cE dq Z cF bD=>?_;have bE:=aY.V bD λhe=>b8 bC aY Φ he rfl;rw[bL,aT b9.p rfl];refine bq aq.i Z.ls.cells.1 Z.ls.cells.2 bE Ξ λbF aZ dr a1=>?_;have a1:=a1;rw[aO];have z:af (λr=>lc G r\/r=ad) bA bF:=(bD.Y λr _ h=>.inl h).F (aZ.Y λr _ h=>.inr h);have ds:=aD.size;have z12:=aW.1.size;have dt:=B.size;have du:=z.size;have bG:∀r,aV r->w.heap.size<=r:=λr q=>(aW.2.1 r q).elim (ay r) λh=>Ω
  have bH:∀r,(lc G r\/r=ad)->aV r:=λr q=>q.elim (λq=>(aE r (.inl q)).1) λq=>q▸br;have cG:(e6 n (i+1) 0).cells=(e6 n i 0).cells++(0::0::u):=by rw[EI hu];exact PW rfl
  have cH:t.cells.length=3+((e6 n i 0).d6.flatMap gP).length:=by
   have h1:=congrArg R6 W;rw[x2]at h1;unfold aw.bM at h1;rw[u9]at h1;have:((e6 n i 0).d7.flatMap ih).length=0:=by simp[e6]
   omega
  refine b6 _ ⟨λr=>aV r\/(bA.heap.size<=r/\r<bF.heap.size),cD,oj t ([0,0]++u),?_,⟨⟨.inl br,λr q I=>?_,λr q=>by have:=cp r q;omega,λr q=>?_⟩,cE,bm,ge,L,E,aP,w0,a1,⟨cq,sq (cr.F B) z λr o q cI J=>bt r (bH r J) (bw r o q cI),bw⟩,⟨(ct.W B).V z λr q J=>?_,λr q=>.inl (bx r q),bz,λr q=>?_⟩,?_,⟨(cw.W B).V z λr q J=>?_,?_⟩,(cA.W B).V z λr q J=>?_,?_⟩,?_,X.lay _,λr q=>?_⟩
  .exact ((M.F (aS.F aD)).then aW.1 λr q he=>by have:=ay r he;omega).F B |>.then z λr q J=>by have:=bG r (bH r J);omega
  .rcases q with q|q
   .exact bt r q I
   .have I:=aM r I;omega
  .rcases q with q|q
   .have:=bu r q;omega
   .exact q.2
  .rcases J with J|rfl
   .exact (aE r (.inl J)).2 q
   .exact bz q
  .rcases q with q|q|q
   .have dv:=(bV Z q);rcases cF r q with h|h
    .exact⟨.inl (aE r (.inl h)).1,(aE r (.inl h)).2⟩
    .refine⟨.inr ⟨h,by have:=aZ.size;omega⟩,λcJ=>by have:=bu r (bx r cJ);omega⟩
   .exact (fq q).elim
   .exact (fq q).elim
  .rw[EI hu,PV,<-cH];exact bs Z aZ λr q he=>by
    have he:r=ad:=he;subst he;exact b8 Z bE Φ q rfl
  .exact (fq q).elim
  .refine⟨cz.1,λj x f Q a2=>?_⟩;have a2:((n.d7.take 0).map (lX n.co))[j]?=σ f:=a2;simp at a2
  .exact (fq q).elim
  .refine⟨cB.1,λj x e Q he=>?_⟩;have he:([]:List u0)[j]?=σ e:=he;simp at he
  .rw[EF,cG,W];rfl
  .rcases q with q|q
   .exact bG r q
   .omega
 .rintro av b5 ⟨A,G,t,M,aR,W,X,ay⟩;refine cc Ω ?_;refine(Et (h.W M)).Y ?_;rintro _ dw _ ⟨rfl,bJ⟩;refine bZ.range n.d7.length (λj ab=>∃A R aH t,Ext w ab/\eP ab ad ae C G aH (.slice ν 0 0) A R n (e6 n n.co.length j) t/\t.bM=(e6 n n.co.length j).cells/\Plain t/\(∀r,A r->w.heap.size<=r)/\∀r,R r->R0 r\/w.heap.size<=r) Ω
   ⟨A,_,_,t,M.F bJ,aR.W bJ,W,X,ay,λ_ h=>.inl h⟩ ?_ ?_
  .rintro j ab cK cL ⟨A,R,aH,t,H,ac,N,ag,ai,a6⟩ cM;obtain⟨g,aJ⟩:=aF (l:=n.d7) cL;have a7:=(y.d7 g (x6 aJ)).1;refine bI Ω ?_;refine(PP (h.W H) y aJ).Y ?_;rintro aU dx _ ⟨ak,gs,dy,bK⟩;refine(PR aL (an.F (H.F ak)) aJ).Y ?_;rintro _ dz _ ⟨am,gt,dA,cN,rfl,dC,dD,cO,bN⟩;have z0:=an.size;have cP:∀r,lc cN r->r<w.heap.size:=λr q=>by obtain⟨c,a8⟩:=bN r q;have:=a8.lt;omega
   have cQ:=(ac.W ak).W am;have Y:∀r,A r->r<ab.heap.size:=ac.1.2.2.2;have dE:=ak.size;have ck:t.cells.length<=2000000:=by
    have h1:=va y bb n.co.length j;rw[<-N]at h1;unfold aw.bM at h1;rwa [u9]at h1
   have cl:t.olds.length=0:=by rw[ag.2.1];rfl
   have cm:t.marks.length=0:=by rw[ag.1];rfl
   have dF:g.2.length<=4096:=by have:=a7.len;have:=a7.small;omega
   have dG:=a7.scope.2;refine(PU (sc:=g.1) cQ N (bK.ls.W am) (λr q s=>by have:=Y r s;obtain⟨aN,_⟩:=bV bK q;omega) cO ⟨λs=>by have:=Y _ s;omega,λs=>by have:=Y _ s;omega,λr q s=>by have:=ai r s;have:=cP r q;omega⟩ Ω Ω Ω Ω ?_).Y ?_
   .show ((n.d7.take j).map (lX n.co)).length<=_;rw[u9,o8];omega
   rintro _ dH _ ⟨rfl,_,aK,R',cS,bO,cT,dI,cU⟩;rw[aO];have bP:=PX (i:=n.co.length) aJ;refine cM _ ⟨aK,R',cS,pF (e6 n n.co.length j) t g.2,((H.F ak).F am).then bO.1 (λr q s=>by have:=ai r s;omega),?_,?_,ag.put _,λr q=>?_,λr q=>?_⟩
   .rw[bP];exact cT
   .rw[bP];exact PT N
   .rcases bO.2.1 r q with h|h
    .exact ai r h
    .have:=H.size;have:=am.size;omega
   .rcases cU r q with h|h|h
    .exact a6 r h
    .exact .inl (by obtain⟨c,a8⟩:=bN r h;exact ba r _ a8 rfl)
    .exact .inr (by have:=H.size;have:=ak.size;have:=am.size;omega)
  .rintro ab cK ⟨A,R,aH,t,H,ac,N,ag,ai,a6⟩;refine cc Ω ?_;have e:e6 n n.co.length n.d7.length=dh n:=by rw[<-bQ];exact ye n
   rw[e]at ac N;exact⟨H,ad,ae,A,R,t,rfl,⟨C,G,aH,_,ac⟩,N,ag,ai,a6⟩
theorem P0(L:Bytes l)(V:l.length<=100000):al x8 JM [b6 l] w λv I=>v=lQ l/\Ext w I:=by
 refine aB func180 ?_;refine jv (λad ae U=>Ext w U/\∃(m:Λ)(s:Int),ad=b6 m/\ae=Δ s/\Bytes m/\m.length<=100000/\qu l m s) ?_ ?_
 .rintro _ _ U ⟨M,m,s,rfl,rfl,H,ax,J⟩;rw[po c6.u,bk,ak];refine⟨λN=>?_,λN=>?_⟩
  .have O:m=[]:=c9 Ω;exact⟨by rw[ud J (by rw[O];rfl)],M⟩
  have O:m≠[]:=λh=>N (by rw[h];rfl);refine rb.range m.length (λi _ _ P Q f=>Ext U f/\∃(n:Int)(a:Bool),P= .int .u64 n/\Q= .bool a/\n4 n a ((m.take i).foldl fe 0)/\(m.take i).all gJ=ro) Ω ⟨Ext.refl _,0,rs,rfl,rfl,Ls,rfl⟩ ?_ ?_
  .rintro i af t3 _ _ f ag hi ⟨B,n,a,rfl,rfl,p,C⟩ ah;obtain⟨b,q⟩:=aF (l:=m) hi;have az:=H b (x6 q);rw[po c6.u];refine bI Ω ?_;refine BL (λ_ _ P Q j=>Ext U j/\∃(n:Int)(a:Bool),P= .int .u64 n/\Q= .bool a/\n4 n a ((m.take (i+1)).foldl fe 0)/\(m.take (i+1)).all gJ=ro) ?_ ?_
   .rintro aA aC a3 a4 j ai;rw[aO];exact ah _ _ _ _ _ ai
   intro ay z;refine aV (λv j=>f=j/\v= .bool (!gJ b)) ?_ ?_
   rotate_left
   .intro R e;rw[ry rfl c6.u H q,aR,ak];refine⟨λh=>e _ _ ⟨rfl,by unfold gJ;rw[ms Ω];rfl⟩,λh=>?_⟩;rw[ry rfl c6.u H q,bO];refine e _ _ ⟨rfl,?_⟩;unfold gJ;congr 1;by_cases W:57<b
    .rw[m7 W,ms Ω];rfl
    .rw[ms W,m7 Ω];rfl
   rintro _ _ ⟨rfl,rfl⟩;cases S:gJ b with
   |false=>
    rw[W7,bH];exact⟨by rw[ud J (Cz q S)],M.F B⟩
   |true=>
    rw[X1,aX];have aj:=rc S;have K:=Lr p aj;rw[Cx q,Cw q,C,S]at z;have am:=p.1;have an:=p.2.1;refine aV (λv j=>f=j/\v= .bool (a||decide (461168601842738790<n))) ?_ ?_
    rotate_left
    .intro R e;rw[bO,ak];refine⟨λh=>e _ _ ⟨rfl,by rw[m7 h,Bool.or_true]⟩,λh=>e _ _ ⟨rfl,by rw[ms h,Bool.or_false]⟩⟩
    rintro _ _ ⟨rfl,rfl⟩;by_cases E:a=ro\/461168601842738790<n
    .have r:(a||decide (461168601842738790<n))=ro:=by rcases E with h|h<;>simp[h]
     rw[m3 E,r]at K;rw[r,bC,X1,aX];exact z _ _ _ _ _ ⟨B,n,ro,rfl,rfl,K,rfl⟩
    .have r:(a||decide (461168601842738790<n))=rs:=by
      cases a with
      |true=>exact m6 (.inl rfl) E
      |false=>simp;omega
     rw[m5 E,r]at K;have aD:¬461168601842738790<n:=λh=>E (.inr h);rw[r,bC,W7,bH,gW,ry rfl c6.u H q,dp,wrap_u8 Ω Ω,fB cK.u fz.u,lm Ω Ω,lm Ω Ω,aO,lm Ω Ω];exact z _ _ _ _ _ ⟨B,_,rs,rfl,rfl,K,rfl⟩
  .rintro af t3 _ _ f ag ⟨B,n,a,rfl,rfl,p,C⟩;rw[o6]at C p;rw[po c6.u];refine cc Ω ?_;have X:=Lt p;have am:=p.1;have an:=p.2.1;have ao:∀{x:Int},x=m.foldl fe 0->0<=x->x<=4611686018427387904->(ab x8 (convert fz au (.int .u64 x)) f λap=>
     ab x8 (aN .mul au rs rs (Δ s) ap) f λaq=>(λv I=>v=lQ l/\Ext w I) (.tuple #[aq,(Δ 0)]) f):=by
    intro x av N h1;rw[fB fz.u au.u,li Ω Ω,gW];have hw:W6.wrap (s*x)=s*x:=by
     rcases J.1 with rfl|rfl<;>exact li Ω Ω
    rw[hw];refine⟨?_,M.F B⟩;rw[CC J (Cy O C),av]
   refine aV (λv j=>f=j/\v= .int .u64 (m.foldl fe 0)) ?_ ?_
   .rintro _ _ ⟨rfl,rfl⟩;have Y:=tT C ⟨S8 _,Φ⟩;exact ao rfl Y.1 Y.2
   intro R e;refine aV (λv j=>f=j/\v= .bool (a||decide (4611686018427387904<n))) ?_ ?_
   .rintro _ _ ⟨rfl,rfl⟩;rw[bY];refine⟨λh=>e _ _ ⟨rfl,?_⟩,λh=>e _ _ ⟨rfl,?_⟩⟩
    .have aW:a=ro\/4611686018427387904<n:=by simpa using h
     rw[X,m3 aW]
    .have aW:¬(a=ro\/4611686018427387904<n):=by
      intro G;rcases G with G|G
      .simp[G]at h
      .simp[G]at h
     rw[X,m5 aW]
   .intro aE Z;cases a with
    |true=>rw[bH];exact Z _ _ ⟨rfl,rfl⟩
    |false=>rw[aX,bO];exact Z _ _ ⟨rfl,by rw[Bool.false_or]⟩
 .intro ay z;refine aV (λv aa=>w=aa/\∃c:Bool,v= .bool c/\(c=ro↔l[0]?=σ 45)) ?_ ?_
  .rintro _ _ ⟨rfl,c,rfl,ac⟩;rw[bY];refine⟨λaw=>?_,λr=>?_⟩
   .obtain⟨m,rfl⟩:∃m,l=45::m:=by
     have:=ac.1 aw;cases l with
     |nil=>simp at this
     |cons x m=>exact⟨m,by simp at this;rw[this]⟩
    rw[BP (y:=1) (i:=1) rfl c6.u Ξ];exact z _ _ _ ⟨Ext.refl _,m,-1,rfl,rfl,λb A=>L b (.tail _ A),by simp at V;omega,CA⟩
   .refine z _ _ _ ⟨Ext.refl _,l,1,rfl,rfl,L,V,CB λb A he=>?_⟩;subst he;have:=ac.2 A;rw[r]at this;cases this
  .intro R e;rw[po c6.u,bO,ak];refine⟨λh=>?_,λh=>e _ _ ⟨rfl,rs,rfl,?_⟩⟩
   .obtain⟨b,A⟩:=aF (l:=l) (i:=0) Ω;rw[ry (y:=0) rfl c6.u L A,bk];refine e _ _ ⟨rfl,_,rfl,?_⟩;rw[ne,A];exact⟨λh=>by rw[h],λh=>Z6 h⟩
   .have:l=[]:=c9 Ω;subst this;simp
theorem P1{s:Go.Sem x1}(h:ab x8 s w λu=>u=v)(hk:K v):ab x8 s w K:=by
 obtain⟨u,h1,rfl⟩:=h;exact⟨u,h1,hk⟩
abbrev iZ:Type:=Λ×Int
def ij(x:iZ):List x1:=[b6 x.1,Δ x.2]
theorem yg(x:iZ):∀u∈ij x,u.oneCell'=ro:=by
 intro u hu;simp[ij]at hu;rcases hu with rfl|rfl<;>rfl
def kk(w:x4)(v:x1)(L:List iZ):Prop:=cg w 2 v L.length (L.flatMap ij)
theorem yh{g:Nat}{L:List iZ}(h:bh ij 2 cw w g v L):kk w v L:=h.sl
theorem EJ{L:List iZ}(h:kk w v L):ab x8 (V7 #[fA] a #[v]) w K=K (Δ (L.length:Int)):=by
 obtain⟨_,_,_,_,_,rfl,_⟩:=h;exact iL fA.u
theorem P2{k n:Nat}{cs:List x1}(h:cg w k v n cs)(f:af S w I)(p:∀r,hp v r->¬S r):cg I k v n cs:=by
 obtain⟨h1,b,o,base,cap,rfl,q,s,e,x⟩:=h;refine⟨h1,b,o,base,cap,rfl,q,s,e,?_⟩;rcases P8 n with a|a
 .have:cs=[]:=c9 (by rw[h1,a,Nat.zero_mul]);subst this;intro j v y;simp at y
 .have z:=e a;exact iu f (p b ⟨⟨b,o,ν⟩,n,cap,by rw[z],rfl⟩) x
theorem kk.V{L:List iZ}(h:kk w v L)(a:af S w I)(e:∀r,hp v r->¬S r):kk I v L:=P2 h a e
theorem EK{x:iZ}{L:List iZ}(h:kk w v (x::L))(a:∀b o,w.rangeAt b o (ij x)->K (.pointer (σ ⟨b,o,ν⟩))):ab x8 (Z0 fA v (Δ 0)) w K:=by
 obtain⟨_,b,o,base,cap,rfl,_,_,e,f⟩:=h;have:=fd (P:=x8) (w:=w) (K:=K) (k:=.i64) (c:=cap) fA.u cw.i (show 0<(x::L).length by simp) e;rw[show((0:Nat):Int)=0 from rfl]at this;rw[this];refine a _ _ λj u hu=>?_;have p:=(x5.1 hu).1;rw[Nat.zero_mul,Nat.add_zero];exact f j u (by rw[W9,Y2 p];exact hu)
theorem P3{x:iZ}{L:List iZ}(h:kk w v (x::L))(s:∀j,(∀I,kk I v (x::L)->kk I j L)->(∀r,hp j r->hp v r)->K j):ab x8 (U5 fA v (σ (Δ 1)) ν ν) w K:=by
 have B:=h;obtain⟨_,b,o,base,cap,rfl,C,_⟩:=h;rw[gH fA.u cw.i (o3 1 1 rfl) j8 e2 Ξ Ω (p8 _)];refine s _ (λI y=>?_) λr z=>?_
 .have:=cg.part (l:=1) (h:=(x::L).length) (m:=cap) y Ξ (p8 _) Ω (p8 _);have e:(((x::L).flatMap ij).drop (1*2)).take (((x::L).length-1)*2)=L.flatMap ij:=by
   rw[W9];have A:(L.flatMap ij).length=L.length*2:=gN λ_ _=>rfl;show(L.flatMap ij).take _=_;rw[j5 (by rw[A,Z4,Nat.add_sub_cancel];exact p8 _)]
  rw[e]at this;exact this
 .obtain⟨a,n,c,f,p⟩:=z;split at f
  .cases f;exact⟨_,_,_,rfl,p⟩
  .cases base with
   |none=>cases f
   |some q=>cases f;exact⟨_,_,_,rfl,p⟩
theorem P4{g n:Nat}{L:List iZ}(x:y=(n:Int))(h:bh ij 2 cw w g v L)(z:n<=L.length)(A:∀p,kk w p (L.take n)->(∀r,hp p r->hp v r)->K p):ab x8 (U5 fA v ν (σ (Δ y)) ν) w K:=by
 have B:=yh h;obtain⟨_,b,o,base,cap,rfl,F,_⟩:=h.sl;rw[gH fA.u cw.i j7 (pa n y x) e2 (X7 _) Ω (p8 _)];refine A _ ?_ λr C=>?_
 .have:=cg.part (l:=0) (h:=n) (m:=cap) B (X7 _) z Ω (p8 _);have e:((L.flatMap ij).drop (0*2)).take ((n-0)*2)=(L.take n).flatMap ij:=by
   rw[Nat.zero_mul,List.drop_zero,Nat.sub_zero,rU (f:=ij) n λ_ _=>rfl]
  rw[e]at this;have E:(L.take n).length=n-0:=by rw[o8];omega
  unfold kk;rw[E];exact this
 .obtain⟨a,n,c,j,s⟩:=C;split at j
  .cases j;exact⟨_,_,_,rfl,s⟩
  .cases base with
   |none=>cases j
   |some q=>cases j;exact⟨_,_,_,rfl,s⟩
def P5(w:x4)(pl:Λ)(v:x1)(I:x4):Prop:=Ext w I/\∃a L,∃bad:Int,v= .tuple #[a,Δ bad]/\kk I a L/\L.map (·.1)=(lex pl).1/\(0<=bad↔(lex pl).2=rs)/\(∀r,hp a r->w.heap.size<=r)/\∀r,hp a r->∃c,ag I r cw c
theorem P9{p:x1}(ac:aM .u8 w p pl)(ax:Bytes pl)(ba:pl.length<=65536):al x8 I2 [p] w (P5 w pl):=by
 refine aB func119 ?_;rw[aY cQ.u ac];refine rb.range pl.length (λi _ _ z H U=>Ext w U/\∃g L,∃(j:List (Λ))(A:Λ)(op:Bool),H= .bool op/\bh ij 2 cw U g z L/\L.map (·.1)=(if op then j++[A]else j)/\(op=ro->A.length<=i)/\L.length<=i/\jD (pl.drop i) j A op=lex pl/\∀r,hp z r->w.heap.size<=r) ac.le
  ⟨Ext.refl _,0,[],[],[],rs,rfl,bh.nil _ _ _ _ _,rfl,(λh=>by cases h),p8 _,LO pl,λr B=>(fq B).elim⟩ ?_ ?_
 rotate_left
 .rintro az t3 z H U aA ⟨E,g,L,j,A,op,rfl,C,y,_,_,q,G⟩;refine cc Ω ?_;rw[List.drop_length]at q;have q:(if op then j++[A]else j,ro)=lex pl:=q;exact⟨E,z,L,-1,rfl,yh C,by rw[y,<-q],by rw[<-q];simp,G,λr B=>by obtain⟨rfl,c,V⟩:=eb C B;exact⟨c,V⟩⟩
 rintro i az t3 z H U aA hi ⟨E,g,L,j,A,op,rfl,C,y,aj,bb,q,G⟩ aC;obtain⟨b,W⟩:=aF (l:=pl) hi;have bc:=ax b (x6 W);have am:pl.drop i=b::pl.drop (i+1):=by rw[X8 hi,(x5.1 W).2]
 rw[am]at q;unfold jD at q;refine bI Ω ?_;refine BL (λ_ _ z H X=>Ext w X/\∃g L,∃(j:List (Λ))(A:Λ)(op:Bool),H= .bool op/\bh ij 2 cw X g z L/\L.map (·.1)=(if op then j++[A]else j)/\(op=ro->A.length<=i+1)/\L.length<=i+1/\jD (pl.drop (i+1)) j A op=lex pl/\∀r,hp z r->w.heap.size<=r) ?_ ?_
 .rintro bd be a3 a4 X aE;rw[aO];exact aC _ _ _ _ _ aE
 intro ay an;rw[bi cQ.u cK.i Ψ (ac.W E) W];refine aV (λv I=>U=I/\v= .bool (cD b)) ?_ ?_
 rotate_left
 .intro Y s;unfold cD at s;rw[bk,ak];refine⟨λh=>s _ _ ⟨rfl,by rw[m7 (.inl h)]⟩,λh1=>?_⟩;rw[bk,ak];refine⟨λh=>s _ _ ⟨rfl,by rw[m7 (.inr (.inl h))]⟩,λQ=>?_⟩;rw[bk,ak];refine⟨λh=>s _ _ ⟨rfl,by rw[m7 (.inr (.inr (.inl h)))]⟩,λaG=>?_⟩;rw[bk];refine s _ _ ⟨rfl,?_⟩;congr 1;rw[U9,ne,ne];exact⟨λh=>.inr (.inr (.inr h)),λh=>by rcases h with h|h|h|h;exact m6 h h1;exact m6 h Q;exact m6 h aG;exact h⟩
 rintro _ _ ⟨rfl,rfl⟩;cases J:cD b with
 |true=>
  rw[bH];rw[m3 J]at q;exact an _ _ _ _ _ ⟨E,g,L,_,[],rs,rfl,C,y,(λh=>by cases h),Ω,q,G⟩
 |false=>
  rw[aX];rw[m5 (by rw[J];simp)]at q;refine aV (λv I=>U=I/\v= .bool (!bT b)) ?_ ?_
  rotate_left
  .intro Y s;unfold bT at s;rw[aR,ak];refine⟨λh=>s _ _ ⟨rfl,by rw[ms Ω];rfl⟩,λh=>?_⟩;rw[bO];refine s _ _ ⟨rfl,?_⟩;by_cases Q:126<b
   .rw[m7 Q,ms Ω];rfl
   .rw[ms Q,m7 Ω];rfl
  rintro _ _ ⟨rfl,rfl⟩;cases hw:bT b with
  |false=>
   rw[W7,bH];rw[m5 (by rw[hw];simp)]at q;refine aV (λv I=>U=I/\∃R,kk U v R/\R.map (·.1)=j/\(∀r,hp v r->w.heap.size<=r)/\∀r,hp v r->hp z r) ?_ ?_
   .rintro v _ ⟨rfl,R,Z,aH,S,aI⟩;exact⟨E,v,R,(i:Int),rfl,Z,by rw[aH,<-q],by rw[<-q];simp,S,λr B=>by obtain⟨rfl,c,V⟩:=eb C (aI r B);exact⟨c,V⟩⟩
   .intro Y s;cases op with
    |false=>
     rw[aX];rw[m5 Ξ]at y;exact s _ _ ⟨rfl,L,yh C,y,G,λ_ h=>h⟩
    |true=>
     rw[bH];rw[m3 rfl]at y;have aa:L.length=j.length+1:=by have:=congrArg R6 y;simpa using this
     rw[dE fA.u C,dp,li Ω Ω];refine P4 (n:=j.length) Ω C Ω λN Z S=>s _ _ ⟨rfl,_,Z,?_,λr B=>G r (S r B),S⟩;rw[List.map_take,y,List.take_left]
  |true=>
   rw[X1,aX];rw[m3 hw]at q;refine aV (λz ad=>Ext w ad/\∃g M,∃x:iZ,bh ij 2 cw ad g z (M++[x])/\M.map (·.1)=j/\x.1=(if op then A else[])/\(M++[x]).length<=i+1/\∀r,hp z r->w.heap.size<=r) ?_ ?_
   .rintro bf ad ⟨ao,aJ,M,x,aK,aL,ae,aN,ap⟩;intro af ag _ _;have O:=aK.W ag;have aq:(M++[x])[M.length]?=σ x:=Ξ
    have bg:(M++[x]).length=M.length+1:=Ξ
    rw[dE fA.u O,dp,li Ω Ω,b7 (i:=M.length) Ω fA.u cw.i O Ω,aT cw.p rfl,aD (o:=M.length*2+0) Ψ (O.range aq 0 _ rfl),aO,li Ω Ω];obtain⟨bj,au⟩:∃N,aM .u8 af N [b]/\ab x8 (U5 cQ p (σ (Δ (i:Int))) (σ (Δ ((i:Int)+1))) ν) af (λv=>v=N):=by
     have aP:=ac.W (ao.F ag);have:=tU (P:=x8) (low:=σ (Δ (i:Int))) (high:=σ (Δ ((i:Int)+1))) (K:=λv=>aM .u8 af v [b]) cQ.u cK.i aP (o3 i _ rfl) (pa (i+1) ((i:Int)+1) Ω) Ω Ω λN av=>by
      have e:((ints .u8 pl).drop (i*1)).take ((i+1-i)*1)=ints .u8 [b]:=by
       simp only[T5,show i+1-i=1 by omega];rw[ints,<-List.map_drop,<-List.map_take,am];rfl
      rw[e]at av;exact aM.of av
     obtain⟨v,aQ,aS⟩:=this;exact⟨v,aS,v,aQ,rfl⟩
    refine P1 au.2 ?_;have bl:x.1.length<=65536:=by
     rw[ae];cases op with
     |true=>rw[m3 rfl];have:=aj rfl;omega
     |false=>simp
    rw[w7 cQ.u cK.u c6.u au.1,w6 Θ,b7 (i:=M.length) Ω fA.u cw.i O Ω,aT cw.p rfl];refine k9 (a':=(x.1++[b],x.2)) c6.i rfl rfl O aq rfl Ω λbm aU bn aw=>?_;have e:(M++[x]).set M.length (x.1++[b],x.2)=M++[(x.1++[b],x.2)]:=by
     rw[T4 _ _ (p8 _),W8];rfl
    rw[e]at aw;refine an _ _ _ _ _ ⟨(ao.F ag).then aU (λr B he=>by have:=ap r he;omega),aJ,_,j,x.1++[b],ro,rfl,aw,by rw[Z5,aL];rfl,λ_=>?_,by simp at aN ⊢;omega,?_,ap⟩
    .rw[r9,ae];cases op with
     |true=>rw[m3 rfl];have:=aj rfl;simp;omega
     |false=>simp
    .rw[<-q,ae];cases op with
     |true=>rfl
     |false=>rfl
   .intro Y s;cases op with
    |true=>
     rw[bC,X1,aX];rw[m3 rfl]at y;have aa:L.length=j.length+1:=by have:=congrArg R6 y;simpa using this
     obtain⟨M,x,rfl⟩:∃M x,L=M++[x]:=by
      have:L≠[]:=λh=>by rw[h]at aa;simp at aa
      exact⟨L.dropLast,L.getLast this,(List.dropLast_concat_getLast this).symm⟩
     rw[Z5]at y;obtain⟨aW,ah⟩:=List.append_inj' y Ξ;refine s _ _ ⟨E,g,M,x,C,aW,?_,Ω,G⟩;rw[m3 rfl];have ah:[x.1]=[A]:=ah;exact(List.cons.inj ah).1
    |false=>
     rw[bC,W7,bH];rw[m5 Ξ]at y;rw[di (cs:=#[b6 [],Δ (i:Int)]) Ψ];refine iS (f:=ij) (a:=(([],(i:Int)):iZ)) fA.u cw.i Ω rfl rfl λv9 bo bp bq ai aZ=>?_;have a1:=C.W ai;refine jo fA.u cw.i rfl a1 (by simpa using aZ.sl) (yg _) Ω Ω λN a2 br a6 a7 a8=>?_;have bs:=E.size;have z9:=ai.size;refine s _ _ ⟨(E.F ai).then a8 (λr B he=>by have:=G r he;omega),a2,L,_,a6,y,rfl,Θ,λr B=>?_⟩;rcases a7 r B with h|h
     .exact G r h
     .omega
structure yi where
 v:x1
 t:Λ
 c:Int
def pG(y:yi):List x1:=[y.v,Δ y.c]
def lY(w:x4)(g:Nat)(v:x1)(l:List (Λ×Int)):Prop:=∃L:List yi,bh pG 2 cj w g v L/\(∀y∈L,∃gy,aA .i64 au w gy y.v y.t)/\L.map (λy=>(y.t,y.c))=l
structure kl where
 aU:x1
 d9:x1
 o:Int
 ck:x1
def fE(h:kl):List x1:=[h.aU,h.d9,Δ h.o,h.ck]
def ik(w:x4)(h:kl)(x:cA):Prop:=(∃g,aA .i64 au w g h.aU x.scope)/\(∃g,aA .i64 au w g h.d9 x.co)/\h.o=x.other/\∃g,lY w g h.ck x.lines
def iy(w:x4)(r:Nat):Prop:=∃e c,ag w r e c/\e≠au/\e≠cj
theorem eQ{g:Nat}(h:aA .i64 au w g v l)(f:af S w I)(j:∀r,S r->iy w r\/w.heap.size<=r):aA .i64 au I g v l:=bs h f λr a J=>by
 rcases j r J with⟨e,c,p,q,_⟩|s
 .exact b8 h p (λhe=>q he.symm) a rfl
 .obtain⟨x,y⟩:=bV h a;omega
theorem yj{α:Type}{f:α->List x1}{k:Nat}{g:Nat}{L:List α}(h:bh f k e w g v L)(p:af S w I)(q:∀r,S r->(∃a c,ag w r a c/\a≠e)\/w.heap.size<=r):bh f k e I g v L:=h.V p λr j J=>by
 rcases q r J with⟨a,c,s,x⟩|y
 .exact cn h s (λhe=>x he.symm) j
 .obtain⟨z,A⟩:=h.lc j;omega
theorem lY.dR{g:Nat}{l:List (Λ×Int)}(h:lY w g v l)(a:af S w I)(f:∀r,S r->iy w r\/w.heap.size<=r):lY I g v l:=by
 obtain⟨L,h1,j,p⟩:=h;refine⟨L,yj h1 a λr q=>(f r q).imp (λ⟨e,c,s,_,x⟩=>⟨e,c,s,x⟩) id,λy z=>?_,p⟩;obtain⟨gy,hm⟩:=j y z;exact⟨gy,eQ hm a f⟩
theorem ik.dR{h:kl}{x:cA}(ao:ik w h x)(a:af S w I)(e:∀r,S r->iy w r\/w.heap.size<=r):ik I h x:=by
 obtain⟨⟨g1,h1⟩,⟨f,j⟩,p,q,s⟩:=ao;exact⟨⟨g1,eQ h1 a e⟩,⟨f,eQ j a e⟩,p,q,s.dR a e⟩
theorem ik.W{h:kl}{x:cA}(ao:ik w h x)(a:Ext w I):ik I h x:=ao.dR (a.V λ_=>False) λ_ h=>h.elim
theorem ik.one{h:kl}{x:cA}(ao:ik w h x):∀u∈fE h,u.oneCell'=ro:=by
 obtain⟨⟨g1,h1⟩,⟨f,a⟩,j,p,L,e,_⟩:=ao;intro u hu;simp[fE]at hu;rcases hu with rfl|rfl|rfl|rfl
 .exact h1.ls.cells.2
 .exact a.ls.cells.2
 .rfl
 .exact (dg e.sl).2
def om(w:x4)(a:x1)(e:List iZ)(gs:Nat)(sv:x1)(L:List kl)(X:List cA):Prop:=(kk w a e/\∀r,hp a r->∃c,ag w r cw c)/\bh fE 4 be w gs sv L/\X.length=L.length/\∀(i:Nat)h x,L[i]?=σ h->X[i]?=σ x->ik w h x
theorem om.dR{p:x1}{y:List iZ}{L:List kl}{X:List cA}(h:om w p y gs sv L X)(j:af S w I)(q:∀r,S r->(∃e c,ag w r e c/\e≠au/\e≠cj/\e≠cw/\¬hp sv r)\/w.heap.size<=r):om I p y gs sv L X:=by
 obtain⟨⟨h1,z⟩,A,C,E⟩:=h;have hw:∀r,hp p r->¬S r:=λr a J=>by
  obtain⟨c,f⟩:=z r a;rcases q r J with⟨e,F,B,_,_,s,_⟩|G
  .exact s (eC B f)
  .have:=f.lt;omega
 refine⟨⟨h1.V j hw,λr a=>?_⟩,A.V j λr a J=>?_,C,λi ao x hi H=>(E i ao x hi H).dR j λr a=>(q r a).imp (λ⟨e,c,f,K,M,_⟩=>⟨e,c,f,K,M⟩) id⟩
 .obtain⟨c,f⟩:=z r a;exact⟨c,f.V j (hw r a)⟩
 .rcases q r J with⟨e,F,B,_,_,_,s⟩|G
  .exact s a
  .obtain⟨N,O⟩:=A.lc a;omega
def i7(a:x1)(e f bad h big j m1:Int)(sv:x1):List x1:=[a,Δ e,Δ f,Δ bad,Δ h,Δ big,Δ j,Δ m1,sv]
def Qa(N:Nat)(so:Option aJ)(a:List iZ)(e bad big m1:Int)(L:List kl)(X:List cA):Prop:=match so with
 |some s=>bad=0/\e≠0/\(big≠0↔s.big=ro)/\(s.big=rs->m1=s.m1)/\True/\a.map (·.1)=s.d8/\(∀t∈s.d8,Bytes t/\t.length<=65536)/\X.map (λx=>(x.co,x.lines))=s.m2/\L.length+a.length<=100000
 |none=>bad≠0/\L.length<=N
def bQ(w:x4)(g B:Nat)(H:ah)(N:Nat)(so:Option aJ):Prop:=100000<=N/\∃w0 a e gs sv L X,∃(h f bad j big p m1:Int),w0.heap.size=B/\af (λr=>r=g) w0 w/\(∃c,ag w0 g bG c)/\ag w g bG (i7 a h f bad j big p m1 sv)/\om w0 a e gs sv L X/\(∀r,hp sv r->H r)/\Qa N so e f bad big m1 L X
theorem om.g{g:Nat}{e:x1}{f:List iZ}{L:List kl}{X:List cA}(h:om w e f gs sv L X)(p:af (λr=>r=g) w I)(q:∃c,ag w g bG c):om I e f gs sv L X:=
 h.dR p λr a=>.inl (by
  have a:r=g:=a;subst a;obtain⟨c,j⟩:=q;exact⟨_,c,j,Φ,Φ,Φ,λs=>cn h.2.1 j Φ s⟩)
theorem bQ.new{g:Nat}{H:ah}{so:Option aJ}(h:bQ w g B H N so)(a:af S w I)(e:∀r,S r->B<=r):bQ I g B H N so:=by
 obtain⟨s,w0,x,y,gs,sv,L,X,z,A,bad,C,big,E,m1,h1,f,j,F,G,K,M⟩:=h;have p:g<w0.heap.size:=by obtain⟨c,O⟩:=j;exact O.lt
 exact⟨s,w0,x,y,gs,sv,L,X,z,A,bad,C,big,E,m1,h1,⟨Y9 f.size a.size,λr o q J p=>a.aZ r o (f.aZ r o q J p) J λP=>by
  have:=e r P;have:=(j9.1 q).1;omega⟩,j,F.V a λJ=>by have:=e g J;omega,G,K,M⟩
theorem bQ.W{g:Nat}{H:ah}{so:Option aJ}(h:bQ w g B H N so)(a:Ext w I):bQ I g B H N so:=h.new (a.V λ_=>False) λ_ h=>h.elim
theorem bQ.base{g:Nat}{H:ah}{so:Option aJ}(h:bQ w g B H N so):bQ w g w.heap.size H N so:=by
 obtain⟨e,w0,f,j,gs,sv,L,X,p,q,bad,r,big,s,m1,h1,x,y,a,z,A,C⟩:=h;exact⟨e,w,f,j,gs,sv,L,X,p,q,bad,r,big,s,m1,rfl,af.refl _ _,⟨_,a⟩,a,z.g x y,A,C⟩
theorem bQ.dR{g:Nat}{H:ah}{so:Option aJ}(h:bQ w g B H N so)(j:af S w I)(p:∀r,S r->(∃e c,ag w r e c/\e≠au/\e≠cj/\e≠cw/\e≠bG/\¬H r)\/w.heap.size<=r):bQ I g I.heap.size H N so:=by
 obtain⟨s,w0,x,y,gs,sv,L,X,z,A,bad,C,big,E,m1,h1,F,G,f,K,q,M⟩:=h.base;have O:=K.g F G;have a:=f.V j λJ=>by
  rcases p g J with⟨e,c,a,_,_,_,P,_⟩|aa
  .exact P (eC a f)
  .have:=f.lt;omega
 refine⟨s,I,x,y,gs,sv,L,X,z,A,bad,C,big,E,m1,rfl,af.refl _ _,⟨_,a⟩,a,O.dR j λr Q=>(p r Q).imp (λ⟨e,c,a,R,U,W,_,Y⟩=>⟨e,c,a,R,U,W,λZ=>Y (q r Z)⟩) id,q,M⟩
theorem bQ.lt{g:Nat}{H:ah}{so:Option aJ}(h:bQ w g B H N so):g<B/\B<=w.heap.size:=by
 obtain⟨f,w0,j,p,gs,sv,L,X,q,r,bad,s,big,x,m1,h1,a,⟨c,e⟩,_⟩:=h;have:=e.lt;have:=a.size;omega
theorem jq{g:Nat}{H:ah}{so:Option aJ}(h:bQ w g B H N so):∃a,∃(e f bad j big p m1:Int),∃sv,ag w g bG (i7 a e f bad j big p m1 sv)/\(so.isSome=ro↔bad=0):=by
 obtain⟨x,w0,a,y,gs,sv,L,X,e,f,bad,j,big,p,m1,h1,z,A,r,C,E,q⟩:=h;refine⟨a,e,f,bad,j,big,p,m1,sv,r,?_⟩;cases so with
 |none=>exact⟨(λh=>by cases h),λh=>m6 h q.1⟩
 |some s=>exact⟨λ_=>q.1,λ_=>rfl⟩
theorem mJ{g:Nat}{H:ah}{so:Option aJ}(h:bQ w g B H N so):ab x8 (bR (Γ g)) w (λa=>ab x8 (u7 bG a 3) w λt45=>ab x8 (u5 aj t45) w λt46=>ab x8 (aN .eql aj rs ro t46 (Δ 0)) w K)=K (.bool so.isSome):=by
 obtain⟨f,j,q,bad,r,big,s,m1,sv,e,hi⟩:=jq h;rw[aG bG.p 3 e rfl,bk];congr 2;rw[U9,ne];exact hi.symm
theorem su{g:Nat}{H:ah}{so:Option aJ}(h:bQ w g B H N so):ab x8 (bR (Γ g)) w (λf=>ab x8 (u7 bG f 3) w λt45=>ab x8 (u5 aj t45) w λt46=>ab x8 (aN .neq aj rs ro t46 (Δ 0)) w K)=K (.bool (!so.isSome)):=by
 obtain⟨q,r,s,bad,x,big,y,m1,sv,j,hi⟩:=jq h;rw[aG bG.p 3 j rfl,bF];congr 2;cases e:so.isSome with
 |true=>have a:=hi.1 e;simp[a]
 |false=>
  have a:bad≠0:=λa=>by rw[hi.2 a]at e;cases e
  simp[a]
def qN(w:x4)(g B:Nat)(H:ah)(N:Nat)(so:Option aJ)(I:x4):Prop:=af (λr=>r=g) w I/\bQ I g B H N so
theorem pH{g:Nat}{H:ah}{so:Option aJ}{e at_:Int}(h:bQ w g B H N so)(he:e≠0):al x8 oV [Γ g,Δ e,Δ at_] w λ_ I=>qN w g B H N ν I:=by
 refine aB func124 ?_;rw[mJ h];cases so with
 |none=>rw[Q5,aX];exact⟨af.refl _ _,h⟩
 |some s=>
  rw[S9,bH];obtain⟨j,w0,q,r,gs,sv,L,X,x,y,bad,Q,big,z,m1,h1,A,C,E,G,J,K⟩:=h;rw[bL,aT bG.p rfl];refine bq (g:=g) (o:=3) aj.i rfl rfl E (by simp[i7]) λU M R O=>?_;rw[bL,aT bG.p rfl];refine bq (g:=g) (o:=4) aj.i rfl rfl O (by simp[i7]) λaa P S a=>?_;have a:=a;have f:=M.F P;obtain⟨_,_,_,_,_,_,_,_,V⟩:=K;exact⟨f,j,w0,q,r,gs,sv,L,X,x,y,e,at_,big,z,m1,h1,A.F f,C,a,G,J,he,Ω⟩
theorem oo{g:Nat}{H:ah}{so:Option aJ}{b:Bool}{at_:Int}(h:bQ w g B H N so):al x8 tz [Γ g,.bool b,Δ at_] w λ_ I=>qN w g B H N (so.map (bj b)) I:=by
 refine aB func121 ?_;obtain⟨A,w0,C,E,gs,sv,L,X,G,J,bad,K,big,W,m1,h1,M,O,e,P,Q,f⟩:=id h;refine aV (λv U=>w=U/\v= .bool (b&&decide (big=0)&&so.isSome)) ?_ ?_
 .rintro _ _ ⟨rfl,rfl⟩;rw[bY];refine⟨λR=>?_,λY=>⟨af.refl _ _,A,w0,C,E,gs,sv,L,X,G,J,bad,K,big,W,m1,h1,M,O,e,P,Q,?_⟩⟩
  .rw[T1,T1]at R;obtain⟨⟨Z,ag⟩,ab⟩:=R;rw[bL,aT bG.p rfl];refine bq (g:=g) (o:=5) aj.i rfl rfl e (by simp[i7]) λU ac ai ad=>?_;rw[bL,aT bG.p rfl];refine bq (g:=g) (o:=6) aj.i rfl rfl ad (by simp[i7]) λaa ae am j=>?_;have j:=j;have S:=ac.F ae;refine⟨S,A,w0,C,E,gs,sv,L,X,G,J,bad,K,5,at_,m1,h1,M.F S,O,j,P,Q,?_⟩;cases so with
   |none=>cases ab
   |some s=>
    obtain⟨q,r,V,x,y⟩:=f;exact⟨q,r,⟨λ_=>by show(s.big||b)=ro;rw[Z,Bool.or_true],λ_=>Ω⟩,λao=>x (U4.1 ao).1,y⟩
  .cases so with
   |none=>exact f
   |some s=>
    obtain⟨q,r,V,x,y⟩:=f;refine⟨q,r,?_,λao=>x (U4.1 ao).1,y⟩;show big≠0↔(s.big||b)=ro;cases b with
    |false=>rw[Bool.or_false];exact V
    |true=>
     have a:big≠0:=by simpa using Y
     simp[a]
 .intro ay z;cases b with
  |false=>rw[aX];exact z _ _ ⟨rfl,Ξ⟩
  |true=>
   rw[bH,aG bG.p 5 e rfl,bk,ak];refine⟨λa=>?_,λa=>z _ _ ⟨rfl,by rw[ms a];simp⟩⟩;rw[mJ h];exact z _ _ ⟨rfl,by rw[m7 a];simp⟩
def kJ(so:Option aJ):Option (Λ×aJ):=so.bind dY
theorem EL{g:Nat}{H:ah}{so:Option aJ}(h:bQ w g B H N so):al x8 I3 [Γ g] w λv I=>qN w g B H N ((kJ so).map (·.2)) I/\∃(t:Λ)(n:Int),v= .agg #[b6 t,Δ n]/\Bytes t/\t.length<=65536/\∀q,kJ so=σ q->t=q.1:=by
 have az:=h.lt;refine aB func120 ?_;refine bB cw.i λe U bj y z=>?_;have h1:=h.W y;have zero:∀{f:x4},qN U g B H N ν f->ag f e cw [.string ⟨#[]⟩,Δ 0]->kJ so=ν->(ab x8 (Instr.build cw #[]) f λt9=>
   aH x8 (n9 cw (Γ e) t9) f λ(_:Unit)aa=>
   ab x8 (do loadVar cw (<-asAddr (Γ e))) aa λaA=>(λv I=>qN w g B H N ((kJ so).map (·.2)) I/\∃(t:Λ)(n:Int),v= .agg #[b6 t,Δ n]/\Bytes t/\t.length<=65536/\∀q,kJ so=σ q->t=q.1) aA aa):=by
  intro f j G P;rw[di (cs:=#[.string ⟨#[]⟩,Δ 0]) Ψ];refine b4 (vs:=[.string ⟨#[]⟩,Δ 0]) cw.i rfl rfl (by intro v Y;simp at Y;rcases Y with rfl|rfl<;>rfl) G λaC Z bl aD=>?_;rw[fP cw.p cw.i rfl aD.range,P];have aE:=y.size;have bm:=az;refine⟨⟨iO ((y.V _).F j.1) Z λr a he=>?_,j.2.new Z λr a=>?_⟩,[],0,rfl,(λb aF=>by cases aF),Ξ,λq Q=>by cases Q⟩
  .have he:r=e:=he;omega
  .have a:r=e:=a;omega
 rw[su h1];cases so with
 |none=>
  rw[Q5,W7,bH];exact zero ⟨af.refl _ _,h1⟩ z rfl
 |some s=>
 rw[S9,X1,aX];obtain⟨aI,w0,bn,R,gs,sv,L,X,aK,aL,bad,aM,big,aN,m1,aO,ac,ad,A,J,aP,aQ⟩:=id h1;have aR:=J.g ac ad;obtain⟨⟨K,bo⟩,_⟩:=id aR;obtain⟨aS,ae,aU,aV,aW,ai,aj,aY,aZ⟩:=id aQ;rw[aG bG.p 0 A rfl,EJ K,bk,ak];refine⟨λam=>?_,λam=>?_⟩
 .have a1:R=[]:=c9 Ω;have C:s.d8=[]:=by rw[<-ai,a1];rfl
  have P:kJ (σ s)=ν:=by show dY s=ν;unfold dY;rw[C]
  intro f M _ _;have G:=A.W M;rw[aG bG.p 2 G rfl,aG bG.p 1 G rfl];refine(pH (h1.W M) ae).Y ?_;rintro _ aC _ j;have a2:=z.lt;exact zero ⟨(M.V _).F j.1,j.2⟩ ((z.W M).V j.1 λhe=>by have he:=he;omega) P
 .obtain⟨x,E,rfl⟩:∃x l,R=x::l:=by
   cases R with
   |nil=>exact m6 rfl am
   |cons x l=>exact⟨x,l,rfl⟩
  have C:s.d8=x.1::E.map (·.1):=by rw[<-ai];rfl
  have a6:kJ (σ s)=σ (x.1,{s with d8:=E.map (·.1)}):=by show dY s=_;unfold dY;rw[C]
  have an:=aj x.1 (by rw[C];exact .head _);rw[aG bG.p 0 A rfl];refine EK K λb o a7=>?_;rw[bA cw.p cw.i rfl a7];refine bB cw.i λbp br bs a8 ba=>?_;refine b4 (vs:=ij x) cw.i rfl rfl (yg x) ba λbt bb bu ao=>?_;have O:=a8.put bb Ω;have ap:=A.W O;rw[aG bG.p 0 ap rfl];refine P3 (K.V (O.V λ_=>False) λ_ _ h=>h) λaq au bc=>?_;have av:=au U K;rw[bL,aT bG.p rfl];refine bq (g:=g) (o:=0) fA.i (dg av).1 (dg av).2 ap (by simp[i7]) λaw S bw W=>?_;have W:=W;have a2:=A.lt;have bx:=ao.lt;have bz:=z.lt;have aE:=y.size;have bd:=ao.V S λhe=>by have he:=he;omega
  rw[bA cw.p cw.i rfl bd.range];have be:ag aw e cw [.string ⟨#[]⟩,Δ 0]:=(ag.W z O).V S λhe=>by have he:=he;omega
  refine b4 (vs:=ij x) cw.i rfl rfl (yg x) be λbC ax bD bf=>?_;rw[fP cw.p cw.i rfl bf.range];have ay:=(O.V _).F S;rw[a6];refine⟨⟨iO ((y.V _).F ay) ax λr a he=>?_,?_⟩,x.1,x.2,rfl,an.1,an.2,λq Q=>by cases Q;rfl⟩
  .have he:r=e:=he;omega
  .have bg:om w0 aq E gs sv L X:=⟨⟨au w0 J.1.1,λr a=>J.1.2 r (bc r a)⟩,J.2⟩;have bh:bQ aw g B H N (σ {s with d8:=E.map (·.1)}):=⟨aI,w0,aq,E,gs,sv,L,X,aK,aL,bad,aM,big,aN,m1,aO,ac.F ay,ad,W,bg,aP,aS,ae,aU,aV,aW,rfl,λt bi=>aj t (by rw[C];exact .tail _ bi),aY,by simp at aZ;omega⟩;refine bh.new ax λr a=>?_;have a:r=e:=a;omega
theorem Qb{lo hi:Int}{so:Option aJ}:bf lo hi so=match kJ so with
  |none=>ν
  |some (w,s)=>match gK w with
   |none=>ν
   |some n=>if lo<=n/\n<=hi then σ (n,s)else ν:=by
 cases so with
 |none=>rfl
 |some s=>rfl
theorem lZ{g:Nat}{H:ah}{so:Option aJ}{lo hi:Int}(h:bQ w g B H N so):al x8 nc [Γ g,Δ lo,Δ hi] w λv I=>qN w g B H N ((bf lo hi so).map (·.2)) I/\∃n at_:Int,v= .tuple #[Δ n,Δ at_]/\(∀q,bf lo hi so=σ q->n=q.1)/\(bf lo hi so=ν->n=0):=by
 have ax:=h.lt;refine aB func122 ?_;refine(EL h).Y ?_;rintro _ U _ ⟨⟨M,h1⟩,t,at_,rfl,Y,az,O⟩;have aA:=h1.lt;refine bB cw.i λaC aa aD Z ab=>?_;refine b4 (vs:=[b6 t,Δ at_]) cw.i rfl rfl (by intro v P;simp at P;rcases P with rfl|rfl<;>rfl) ab λac ad aE Q=>?_;have R:Ext U ac:=Z.put ad Ω;have ae:=h1.W R;rw[aL cw.p 0 Q rfl];refine(P0 Y Ω).Y ?_;rintro _ C _ ⟨rfl,E⟩;have G:=ae.W E;have S:=Q.W E;have ag:=R.F E;have aF:=M.size;obtain⟨n,e,ai,J,aj⟩:∃n e:Int,lQ t= .tuple #[Δ n,Δ e]/\(∀m,gK t=σ m->n=m/\e=0)/\(gK t=ν->e≠0):=by
  unfold lQ;cases gK t with
  |none=>exact⟨0,4,rfl,(λm hm=>by cases hm),λ_=>Ω⟩
  |some m=>exact⟨m,0,rfl,(λm hm=>by cases hm;exact⟨rfl,rfl⟩),λh=>by cases h⟩
 rw[ai,bu,bw];have a:=Qb (lo:=lo) (hi:=hi) (so:=so);have W:af (λr=>r=g) w C:=M.F (ag.V _);refine cW (λx=>af (λr=>r=g) C x/\bQ x g B H N ((bf lo hi so).map (·.2))) ?_ ?_
 .rintro x ⟨y,s⟩;rw[su s];cases z:bf lo hi so with
  |none=>
   rw[z]at s;rw[Option.map_none,Q5,W7,bH];exact⟨⟨W.F y,s⟩,0,0,rfl,(λq z=>by cases z),λ_=>rfl⟩
  |some q=>
   rw[z]at s a;rw[Y3,S9,X1,aX];intro aG K _ _;have am:=(S.V y λhe=>by have he:=he;omega).W K;rw[aL cw.p 1 am rfl];refine⟨⟨(W.F y).F (K.V _),s.W K⟩,n,at_,rfl,λaH an=>?_,λh=>by cases h⟩;cases an;cases j:kJ so with
   |none=>rw[j]at a;cases a
   |some p=>
    obtain⟨bn,s1⟩:=p;have L:=O (bn,s1) j;subst L;rw[j]at a;simp only at a;cases f:gK t with
    |none=>rw[f]at a;cases a
    |some m=>
     rw[f]at a;simp only at a;split at a
     .cases a;exact(J m f).1
     .cases a
 .intro ay X;refine aV (λv x=>C=x/\∃c:Bool,v= .bool c/\(c=ro->bf lo hi so=ν)/\(c=rs->(bf lo hi so).map (·.2)=(kJ so).map (·.2))) ?_ ?_
  .rintro _ _ ⟨rfl,c,rfl,ap,aq⟩;rw[bY];refine⟨λh=>?_,λh=>X _ ⟨af.refl _ _,by rw[aq h];exact G⟩⟩;rw[aL cw.p 1 S rfl];refine(pH G Ω).Y ?_;rintro _ x _ ⟨y,s⟩;exact X _ ⟨y,by rw[ap h];exact s⟩
  .intro aI A;rw[mJ G];cases j:kJ so with
   |none=>
    rw[j]at a;simp only at a;rw[Option.map_none,Q5,aX];exact A _ _ ⟨rfl,rs,rfl,(λh=>by cases h),λ_=>by rw[a,j];rfl⟩
   |some p=>
    obtain⟨bn,s1⟩:=p;have L:=O (bn,s1) j;subst L;rw[j]at a;simp only at a;rw[Y3,S9,bH,bF,ak];refine⟨λhe=>?_,λhe=>?_⟩
    .refine A _ _ ⟨rfl,ro,rfl,λ_=>?_,λh=>by cases h⟩;cases f:gK t with
     |none=>rw[a,f]
     |some m=>exact m6 (J m f).2 he
    .have au:=X5.1 he;cases f:gK t with
     |none=>exact m6 au (aj f)
     |some m=>
      rw[f]at a;simp only at a;have av:=(J m f).1;subst av;rw[aR,ak];refine⟨λaw=>A _ _ ⟨rfl,ro,rfl,λ_=>by rw[a,m5 Ω],λh=>by cases h⟩,λaw=>?_⟩;rw[bO];refine A _ _ ⟨rfl,_,rfl,λao=>?_,λao=>?_⟩
      .rw[a,m5 (by have:=rc ao;omega)]
      .rw[a,m3 (by have:=of_decide_eq_false ao;omega),j];rfl
theorem yk{bm bv:x1}{a b:Λ}(e:aM .i64 w bm a)(s:aM .i64 w bv b):al x8 tA [bm,bv] w λv I=>v= .bool (decide (a=b))/\Ext w I:=by
 refine aB func181 ?_;rw[aY ax.u e,aY ax.u s,bF,ak];refine⟨λh=>⟨by rw[ms];intro he;rw[he]at h;exact h rfl,Ext.refl _⟩,λh=>?_⟩;have z:a.length=b.length:=by have:=X5.1 h;omega
 rw[aY ax.u e];refine cb.range a.length (λi _ U=>Ext w U/\a.take i=b.take i) e.le ⟨Ext.refl _,rfl⟩ ?_ ?_
 .rintro i _ U k hi ⟨q,f⟩ hk;obtain⟨x,j⟩:=aF (l:=a) hi;obtain⟨y,r⟩:=aF (l:=b) (i:=i) Ω;refine bI Ω ?_;intro aa A _ _;have p:=q.F A;rw[bi ax.u au.i Ψ (e.W p) j,bi ax.u au.i Ψ (s.W p) r,bF,ak];refine⟨λB=>⟨by rw[ms];intro he;rw[he,r]at j;exact B (Z6 j).symm,p⟩,λhe=>?_⟩;rw[aO];refine hk _ _ ⟨p,?_⟩;rw[r8,r8,f,j,r,X5.1 he]
 .rintro _ U k ⟨q,f⟩;rw[aR,ak];refine⟨λh=>Ω,λ_=>⟨?_,q⟩⟩;rw[o6,z,o6]at f;rw[m7 f]
def iz(w:x4)(B a:Nat)(x:cA):Prop:=∃aU d9 ck g1 e f,ag w a be [aU,d9,Δ x.other,ck]/\aA .i64 au w g1 aU x.scope/\aA .i64 au w e d9 x.co/\lY w f ck x.lines/\(∀r,lc aU r\/lc d9 r->B<=r)/\(∀r,lc aU r->¬lc d9 r)/\B<=a
def EM(w:x4)(r:Nat):Prop:=(∃e c,ag w r e c/\e≠au/\e≠cj/\e≠be)\/w.heap.size<=r
theorem iz.dR{f:Nat}{x:cA}(h:iz w B f x)(a:af S w I)(q:∀r,S r->EM w r):iz I B f x:=by
 obtain⟨aU,d9,ck,g1,s,y,h1,z,A,C,E,F,G⟩:=h;have j:∀r,S r->iy w r\/w.heap.size<=r:=λr H=>(q r H).imp (λ⟨e,c,p,K,L,_⟩=>⟨e,c,p,K,L⟩) id;refine⟨aU,d9,ck,g1,s,y,h1.V a λJ=>?_,eQ z a j,eQ A a j,C.dR a j,E,F,G⟩;rcases q f J with⟨e,c,p,_,_,M⟩|N
 .exact M (eC p h1)
 .have:=h1.lt;omega
theorem iz.W{a:Nat}{x:cA}(h:iz w B a x)(e:Ext w I):iz I B a x:=h.dR (e.V λ_=>False) λ_ h=>h.elim
theorem l0{g:Nat}{H:ah}{so:Option aJ}(h:bQ w g B H N so):∀r,r=g->EM w r:=λr a=>by
 subst a;obtain⟨f,j,p,bad,q,big,s,m1,sv,e,_⟩:=jq h;exact .inl ⟨_,_,e,Φ,Φ,Φ⟩
def iA(g B:Nat):ah:=λr=>r=g\/B<=r
theorem Qc{k:Nat}{acc:Λ}{s:aJ}:cT (λacc s=>match bl 0 (n-1) s with
 |none=>ν
 |some (v,s)=>if v∈acc then ν else σ (v,s)) (k+1) acc s=match bl 0 (n-1) s with
  |none=>ν
  |some (v,s')=>if v∈acc then ν else cT (λacc s=>match bl 0 (n-1) s with
 |none=>ν
 |some (v,s)=>if v∈acc then ν else σ (v,s)) k (acc++[v]) s':=by
 rw[cT];cases bl 0 (n-1) s with
 |none=>rfl
 |some q=>
  obtain⟨v,s'⟩:=q;simp only;by_cases a:v∈acc
  .rw[m3 a,m3 a]
  .rw[m5 a,m5 a]
def EN(n:Int)(k:Nat)(acc:Λ)(s:aJ):Option (Λ×aJ):=cT (λacc s=>match bl 0 (n-1) s with
 |none=>ν
 |some (v,s)=>if v∈acc then ν else σ (v,s)) k acc s
theorem EO{g f ar:Nat}{H:ah}{s:aJ}{so:Option aJ}{Z:x1}{aM aP:x4->Prop}(ao:bQ w g B H N so)(b3:so=σ s\/(so=ν/\ar=0))(b4:iz w B f ⟨[],[],0,[]⟩)(b5:∀c,ag w f be c->c[3]?=σ (.slice ν 0 0))(bB:aA .i64 au w gz Z all)(b6:∀r,lc Z r->r<B)(dh:all.length<=100001)(di:ar<=4611686018427387904)(aQ:so=σ s->s.d8.length<=100000)(ap:so=σ s->∀I x,af (iA g B) w I->ff all.length ar s=ν->bQ I g B H N ν->iz I B f x->aM I)(b7:so=ν->aP w)(aS:so=σ s->∀I scope s',af (iA g B) w I->ff all.length ar s=σ (scope,s')->bQ I g B H N (σ s')->iz I B f ⟨scope,scope.map λv=>all.getD v.toNat 0,0,[]⟩->(∀c,ag I f be c->c[3]?=σ (.slice ν 0 0))->aP I):
  bZ (Δ 0) w λi z k=>
   cv (α:=x1->x4->Prop) (λ(b9:x1)(O:x4)=>
    Split b9 (ab x8 (V7 #[ax] aj #[Z]) O λt53=>
   ab x8 (aN .sub au rs ro t53 (Δ 1)) O λca=>
   al x8 nc [Γ g,(Δ 0),ca] O λt55 A=>
   ab x8 (Y8 t55 0) A λaW=>
   ab x8 (Y8 t55 1) A λcb=>
   ab x8 (bR (Γ g)) A λcc=>
   ab x8 (u7 bG cc 3) A λcd=>
   ab x8 (u5 aj cd) A λce=>
   ab x8 (aN .neq aj rs ro ce (Δ 0)) A λcf=>
   Split cf (aM A)
    (ab x8 (u7 be (Γ f) 0) A λcg=>
   ab x8 (u5 ax cg) A λbC=>
   ab x8 (V7 #[ax] aj #[bC]) A λt66=>
   bZ (Δ 0) A λaZ E ch=>
    ab x8 (aN .lss aj rs rs aZ t66) E λci=>
    Split ci (ab x8 (Z0 ax bC aZ) E λcj=>
    ab x8 (u5 au cj) E λt70=>
    ab x8 (aN .eql au rs rs t70 aW) E λcl=>
    Split cl (al x8 oV [Γ g,(Δ 4),cb] E λt76 a1=>aM a1)
     (ab x8 (aN .add aj rs ro aZ (Δ 1)) E λcm=>
    ch cm E))
     (ab x8 (u7 be (Γ f) 0) E λcp=>
   ab x8 (u5 ax cp) E λcq=>
   aH x8 (X2 ax 1 #[(0,aW)]) E λcr aa=>
   aH x8 (Y0 #[ax,ax] ax #[cq,cr]) aa λct a2=>
   ab x8 (u7 be (Γ f) 0) a2 λcu=>
   aH x8 (n9 ax cu ct) a2 λ(_:Unit)aq=>
   eH aq λS=>
   ab x8 (u7 be (Γ f) 1) S λa6=>
   ab x8 (u5 ax a6) S λbD=>
   ab x8 (Z0 ax Z aW) S λcw=>
   ab x8 (u5 au cw) S λcz=>
   aH x8 (X2 ax 1 #[(0,cz)]) S λcA Y=>
    (Ext S Y\/cE x8 (u5 ax a6) bD Y/\cE x8 (u7 be (Γ f) 1) a6 Y/\True)/\
   aH x8 (Y0 #[ax,ax] ax #[bD,cA]) Y λcB a7=>
    ab x8 (u7 be (Γ f) 1) a7 λcC=>
    aH x8 (n9 ax cC cB) a7 λ(_:Unit)ac=>
     ab x8 (aN .add au rs ro i (Δ 1)) ac λcD=>
   k cD ac)))
     (aP O)) λbE=>
   ab x8 (aN .lss au rs rs i (Δ (ar:Int))) z λcF=>
   Split cF (ab x8 (bR (Γ g)) z λcG=>
   ab x8 (u7 bG cG 3) z λcH=>
   ab x8 (u5 aj cH) z λt45=>
   ab x8 (aN .eql aj rs ro t45 (Δ 0)) z λt46=>
   bE t46 z)
    (bE (.bool rs) z):=by
 have dj:=ao.lt;rcases b3 with rfl|⟨rfl,rfl⟩
 rotate_left
 .refine bZ.range 0 (λ_ U=>w=U) Ω rfl (λi U k hi=>Ω) ?_;rintro _ k rfl;refine aV (λv O=>w=O/\v= .bool rs) ?_ ?_
  .rintro _ _ ⟨rfl,rfl⟩;rw[aX];exact b7 rfl
  .intro ay ad;rw[aR,ak];exact⟨λh=>Ω,λ_=>ad _ _ ⟨rfl,rfl⟩⟩
 have h:=ao;have aQ:=aQ rfl;have ap:=ap rfl;have aS:=aS rfl;refine bZ.range ar (λi z=>∃scope P,af (iA g B) w z/\bQ z g B H N (σ P)/\iz z B f ⟨scope,scope.map λv=>all.getD v.toNat 0,0,[]⟩/\scope.length=i/\scope.length+P.d8.length<=100000/\ff all.length ar s=EN all.length (ar-i) scope P/\∀c,ag z f be c->c[3]?=σ (.slice ν 0 0)) Ω ⟨[],s,af.refl _ _,h,b4,rfl,by simpa using aQ,rfl,b5⟩ ?_ ?_
 rotate_left
 .rintro z k ⟨scope,P,av,R,aw,bF,cI,C,a8⟩;refine aV (λv O=>z=O/\v= .bool rs) ?_ ?_
  .rintro _ _ ⟨rfl,rfl⟩;rw[aX];rw[W8]at C;exact aS z scope P av C R aw a8
  .intro ay ad;rw[aR,ak];exact⟨λh=>Ω,λ_=>ad _ _ ⟨rfl,rfl⟩⟩
 rintro i z k hi ⟨scope,P,av,R,aw,bF,cI,C,a8⟩ hk;refine aV (λv O=>z=O/\v= .bool ro) ?_ ?_
 rotate_left
 .intro ay ad;refine bI Ω ?_;rw[mJ R];exact ad _ _ ⟨rfl,rfl⟩
 rintro _ _ ⟨rfl,rfl⟩;rw[bH];have bJ:∀{I:x4},af (iA g B) w I->aA .i64 au I gz Z all:=λcJ=>bs bB cJ λr e J=>by
  rcases J with rfl|J
  .obtain⟨cK,G,ae,bad,cL,big,cM,m1,sv,K,_⟩:=jq h;exact b8 bB K Φ e rfl
  .have:=b6 r e;omega
 rw[aY ax.u (bJ av).ls,dp,li Ω Ω];refine(lZ R).Y ?_;rintro _ A _ ⟨⟨ba,M⟩,n,at_,rfl,bb,cN⟩;rw[bu,bw,su M];have bc:=aw.dR ba (l0 R);have bd:af (iA g B) w A:=av.F (ba.Y λr _ h=>.inl h);have cO:=Qc (n:=(all.length:Int)) (k:=ar-(i+1)) (acc:=scope) (s:=P);have cP:ar-i=(ar-(i+1))+1:=Ω
 rw[cP]at C;unfold EN at C;rw[cO]at C;have cQ:bf 0 ((all.length:Int)-1) (σ P)=bl 0 ((all.length:Int)-1) P:=rfl;rw[cQ]at M bb cN ⊢;cases az:bl 0 ((all.length:Int)-1) P with
 |none=>
  rw[az]at M C;rw[Option.map_none,Q5,W7,bH];exact ap A _ bd C M bc
 |some q=>
  obtain⟨v,bK⟩:=q;rw[az]at M C bb;have cR:=bb _ rfl;subst cR;have dk:=(jl az).1;have dl:=(dH az).1;simp only at C;rw[Y3,S9,X1,aX];have M:bQ A g B H N (σ bK):=M;obtain⟨aU,d9,ck,g1,dm,bg,f1,f2,f3,f4,f5,f6,f7⟩:=id bc;rw[aL be.p 0 f1 rfl,aY ax.u f2.ls];have dn:scope.length<=100000:=Ω
  refine bZ.range scope.length (λj E=>A=E/\n∉scope.take j) Ω ⟨rfl,Ξ⟩ ?_ ?_
  .rintro j _ cS cT ⟨rfl,aB⟩ cU;obtain⟨u,hu⟩:=aF (l:=scope) cT;rw[aR,ak];refine⟨λ_=>?_,λh=>by simp only at h;omega⟩;rw[bi ax.u au.i Ψ f2.ls hu,bk,ak];refine⟨λhe=>?_,λcV=>?_⟩
   .refine (pH M Ω).Y ?_;rintro _ a1 _ ⟨bL,cW⟩;rw[m3 (by rw[<-he];exact x6 hu)]at C;exact ap a1 _ (bd.F (bL.Y λr _ h=>.inl h)) C cW (bc.dR bL (l0 M))
   .rw[aO];refine cU _ ⟨rfl,?_⟩;rw[r8,hu];intro hm;rcases j4.1 hm with hm|hm
    .exact aB hm
    .simp at hm;exact cV hm.symm
  .rintro _ cS ⟨rfl,aB⟩;rw[o6]at aB;rw[aR,ak];refine⟨λh=>by simp only at h;omega,λ_=>?_⟩;rw[m5 aB]at C;rw[aL be.p 0 f1 rfl];refine eB ax.u au.i rfl λdq dr aa ds Q cX=>?_;have dt:=M.lt;refine ii ax.u au.i rfl (f2.W Q) cX.ls Θ Θ λbh cY a2 aC cZ bM=>?_;have aD:=f1.W Q;have f113:=aD.V bM λhe=>b8 (f2.W Q) aD Φ he rfl;rw[aT be.p rfl];refine bq (g:=f) (o:=0) ax.i aC.ls.cells.1 aC.ls.cells.2 f113 Ξ λaq bN du aE=>?_;have aE:=aE;intro S bj _ _;have ai:af (λr=>lc aU r\/r=f) aa aq:=(bM.Y λr _ h=>.inl h).F (bN.Y λr _ h=>.inr h);have bO:∀r,(lc aU r\/r=f)->iA g B r:=λr e=>.inr (e.elim (λe=>f5 r (.inl e)) λe=>e▸f7);have bP:=(bd.F (Q.V _)).F (ai.Y λr _ e=>bO r e);have c0:af (iA g B) w S:=bP.F (bj.V _);have c1:=bs (f3.W Q) ai λr e J=>by
    rcases J with J|rfl
    .exact f6 r J e
    .exact b8 (f3.W Q) aD Φ e rfl
   have c2:=bs aC bN λr e he=>by
    have he:r=f:=he;subst he;exact b8 aC f113 Φ e rfl
   have c3:∀r,(lc aU r\/r=f)->(∃c,ag aa r au c)\/∃c,ag aa r be c:=λr e=>by
    rcases e with e|rfl
    .obtain⟨G,_⟩:=bV f2 e;obtain⟨_,⟨am,_⟩|⟨_,cs,am,K,_⟩⟩:=f2.W Q
     .rw[am]at e;obtain⟨a,c4,c,G,ae⟩:=e;cases G
     .exact .inl ⟨cs,G▸K⟩
    .exact .inr ⟨_,aD⟩
   have c5:lY aq bg ck []:=by
    obtain⟨L,W,c6,bm⟩:=f4.dR (Q.V λ_=>False) λ_ h=>h.elim;have bn:=List.map_eq_nil_iff.1 bm;subst bn;refine⟨[],W.V ai λr e J=>?_,λy bo=>(by cases bo),rfl⟩;rcases c3 r J with⟨c,K⟩|⟨c,K⟩
    .exact cn W K Φ e
    .exact cn W K Φ e
   have c7:=(M.W Q).new ai λr e=>by
    rcases bO r e with rfl|h
    .rcases e with e|e
     .exact f5 _ (.inl e)
     .exact e▸f7
    .exact h
   rw[aL be.p 1 (aE.W bj) rfl];have c8:all[n.toNat]?=σ (all.getD n.toNat 0):=by rw[u4,x7 Ω];rfl
   rw[gI (y:=n) (i:=n.toNat) Ω ax.u au.i Ψ (bJ c0).ls c8];refine eB ax.u au.i rfl λdv dw Y dx bS c9=>?_;refine⟨.inl bS,?_⟩;have X:=bj.F bS;have f316:=c1.W X;have bT:(scope.map λv=>all.getD v.toNat 0).length=scope.length:=u9 _;refine ii ax.u au.i rfl f316 c9.ls (by simp at bT ⊢;omega) (by simp at bT ⊢;omega) λbU da a7 aG bW bX=>?_;have aI:=aE.W X;have bY:=aI.V bX λhe=>b8 f316 aI Φ he rfl;rw[aT be.p rfl];refine bq (g:=f) (o:=1) ax.i aG.ls.cells.1 aG.ls.cells.2 bY Ξ λac b0 dy an=>?_;have an:=an;rw[aO];have aK:af (λr=>lc d9 r\/r=f) Y ac:=(bX.Y λr _ h=>.inl h).F (b0.Y λr _ h=>.inr h);have b1:∀r,(lc d9 r\/r=f)->B<=r:=λr e=>e.elim (λe=>f5 r (.inr e)) λe=>e▸f7;have bp:=c2.W X;have dz:=Q.size;have dA:=ai.size;have br:∀r,lc bh r->B<=r/\¬lc d9 r:=λr e=>by
    rcases cZ r e with h|h
    .exact⟨f5 r (.inl h),f6 r h⟩
    .exact⟨Ω,λbt=>by obtain⟨G,ae⟩:=bV f3 bt;omega⟩
   have db:=bs bp aK λr e J=>by
    rcases J with J|rfl
    .exact (br r e).2 J
    .exact b8 bp aI Φ e rfl
   have dc:=bs aG b0 λr e he=>by
    have he:r=f:=he;subst he;exact b8 aG bY Φ e rfl
   have dd:lY ac bg ck []:=by
    obtain⟨L,W,c6,bm⟩:=c5.dR (X.V λ_=>False) λ_ h=>h.elim;have bn:=List.map_eq_nil_iff.1 bm;subst bn;refine⟨[],W.V aK λr e J=>?_,λy bo=>(by cases bo),rfl⟩;rcases J with J|rfl
    .obtain⟨G,_⟩:=bV f316 J;obtain⟨_,⟨am,_⟩|⟨_,cs,am,K,_⟩⟩:=f316
     .rw[am]at J;obtain⟨a,c4,c,G,ae⟩:=J;cases G
     .exact cn W (G▸K) Φ e
    .exact cn W aI Φ e
   refine hk _ ⟨scope++[n],bK,((bP.F (X.V _)).F (aK.Y λr _ e=>.inr (b1 r e))),(c7.W X).new aK b1,⟨bh,bU,ck,cY,da,bg,an,db,by rw[Z5];exact dc,dd,λr e=>?_,λr e bt=>?_,f7⟩,by rw[r9,bF];rfl,by rw[r9];simp;omega,C,λc bx=>?_⟩
   .rcases e with e|e
    .exact (br r e).1
    .rcases bW r e with h|h
     .exact f5 r (.inr h)
     .have:=X.size;omega
   .rcases bW r bt with h|h
    .exact (br r e).2 h
    .obtain⟨G,ae⟩:=bV bp e;omega
   .have de:c=[bh,bU,Δ 0,ck]:=by
     unfold ag at bx an;rw[an]at bx;have:=(Obj.cells.inj (Z6 bx)).1;exact(Array.toList_inj.2 this).symm
    have df:ck= .slice ν 0 0:=by
     obtain⟨dC,dD,dE,_,_,_,bz,_⟩:=aw;have b2:=a8 _ bz;have bA:=bz.V ba λhe=>by
      have he:=he;obtain⟨cK,G,ae,bad,cL,big,cM,m1,sv,K,_⟩:=jq R;subst he;exact m6 (eC K bz) Φ
     unfold ag at bA f1;rw[f1]at bA;have dg:=Array.toList_inj.2 (Obj.cells.inj (Z6 bA)).1;have R:=congrArg (λl=>l[3]?) dg;simp at R;simp at b2;rw[R,b2]
    rw[de,df];rfl
theorem Qd{s:x1->x4->Prop}(h:aM .i64 w sv l)(h1:∀z∈l,1<=z)(H:∀c:Int,(4096<c↔dy l=ro)->s (Δ c) w):
  cb (Δ 1) (Δ 0) w λx j a I=>
   ab x8 (aN .lss aj rs rs j (Δ (l.length:Int))) a λJ=>
   Split J (cv (α:=x1->x4->Prop) (λ(K:x1)(y:x4)=>
    ab x8 (aN .add aj rs ro j (Δ 1)) y λL=>
    I K L y) λA=>
   ab x8 (Z0 ax sv j) a λM=>
   ab x8 (u5 au M) a λB=>
   cv (α:=x1->x4->Prop) (λ(N:x1)(f:x4)=>
    ab x8 (aN .mul au rs rs x N) f λC=>
    ab x8 (aN .gtr au rs ro C (Δ 4096)) f λO=>
    Split O (A (Δ 4097) f)
     (A C f)) λE=>
   ab x8 (aN .gtr au rs ro B (Δ 4096)) a λP=>
   Split P (E (Δ 4097) a)
    (E B a))
    (s x a):=by
 refine cb.range l.length (λi c U=>w=U/\∃p:Int,p=aQ ((l.take i).map λk=>min k 4097)/\1<=p/\c=Δ (if 4096<p then 4097 else p)) h.le ⟨rfl,1,by simp[aQ],Ω,by rw[m5 Ω]⟩ ?_ ?_
 .rintro i _ _ Q hi ⟨rfl,p,ac,R,rfl⟩ S;obtain⟨z,q⟩:=aF (l:=l) hi;have W:=h1 z (x6 q);have e:aQ ((l.take (i+1)).map λk=>min k 4097)=p*min z 4097:=by
   rw[ac,r8,q,o9,Z5,T3,List.map_nil,CI]
  have X:p*1<=p*min z 4097:=Int.mul_le_mul_of_nonneg_left Ω Ω;refine bI Ω ?_;refine aV (λv aa=>w=aa/\v=Δ (if 4096<p*min z 4097 then 4097 else p*min z 4097)) ?_ ?_
  .rintro _ _ ⟨rfl,rfl⟩;rw[aO];exact S _ _ ⟨rfl,_,e.symm,Ω,rfl⟩
  intro ay r;rw[bi ax.u au.i Ψ h q];refine aV (λv aa=>w=aa/\v=Δ (min z 4097)) ?_ ?_
  .rintro _ _ ⟨rfl,rfl⟩;rw[gW];by_cases F:4096<p
   .rw[m3 F];have V:(4097:Int)*1<=4097*min z 4097:=Int.mul_le_mul_of_nonneg_left Ω Ω;rw[li Ω Ω,bO,ak];refine⟨λ_=>r _ _ ⟨rfl,by rw[m3 Ω]⟩,λY=>Ω⟩
   .rw[m5 F];have V:p*min z 4097<=4096*4097:=by
     have Z:=Int.mul_le_mul_of_nonneg_right (show p<=4096 by omega) (show 0<=min z 4097 by omega);have ad:=Int.mul_le_mul_of_nonneg_left (show min z 4097<=4097 by omega) (show(0:Int)<=4096 by omega);omega
    rw[li Ω Ω,bO,ak];exact⟨λao=>r _ _ ⟨rfl,by rw[m3 ao]⟩,λao=>r _ _ ⟨rfl,by rw[m5 ao]⟩⟩
  .intro ae G;rw[bO,ak];exact⟨λao=>G _ _ ⟨rfl,by congr 1;omega⟩,λao=>G _ _ ⟨rfl,by congr 1;omega⟩⟩
 .rintro _ _ Q ⟨rfl,p,ac,R,rfl⟩;rw[o6]at ac;rw[aR,ak];refine⟨λh=>Ω,λ_=>H _ ?_⟩;unfold dy;rw[<-ac,ne];split
  .exact⟨λ_=>Ω,λ_=>Ω⟩
  .exact Iff.rfl
theorem Qe{g an:Nat}{H:ah}{so:Option aJ}{ac:x4->Prop}(h:bQ w g B H N so)(C:aA .i64 au w gz d9 co)(aC:∀z∈co,1<=z/\z<=az)(bo:co.length<=100001)(S:ag w an cj [.slice ν 0 0,Δ 0])(aD:B<=an)(ad:∀t I aS gt,t.length=co.length->af (λr=>r=g\/r=an\/w.heap.size<=r) w I->ag I an cj [aS,Δ 0]->aA .i64 au I gt aS t->(∀r,lc aS r->w.heap.size<=r)->bQ I g B H N ((gl co [] so).map (·.2))->(∀q,gl co [] so=σ q->t=q.1)->ac I):
  bZ (Δ 0) w λW s aE=>
      ab x8 (aN .lss aj rs rs W (Δ (co.length:Int))) s λaG=>
      Split aG (ab x8 (Z0 ax d9 W) s λaI=>
      ab x8 (u5 au aI) s λaK=>
      ab x8 (aN .sub au rs ro aK (Δ 1)) s λaM=>
      al x8 nc [Γ g,(Δ 0),aM] s λae E=>
      ab x8 (Y8 ae 0) E λaP=>
      ab x8 (Y8 ae 1) E λbp=>
      ab x8 (u7 cj (Γ an) 0) E λaQ=>
      ab x8 (u5 ax aQ) E λaR=>
      aH x8 (X2 ax 1 #[(0,aP)]) E λaU aV=>
      aH x8 (Y0 #[ax,ax] ax #[aR,aU]) aV λaW ai=>
      ab x8 (u7 cj (Γ an) 0) ai λaX=>
      aH x8 (n9 ax aX aW) ai λ(_:Unit)ak=>
      ab x8 (aN .add aj rs ro W (Δ 1)) ak λaY=>
      aE aY ak)
       (ac s):=by
 have br:=S.lt;have bt:=h.lt;refine bZ.range co.length (λj U=>∃t aS gt s1,t.length=j/\af (λr=>r=g\/r=an\/w.heap.size<=r) w U/\ag U an cj [aS,Δ 0]/\aA .i64 au U gt aS t/\(∀r,lc aS r->w.heap.size<=r)/\bQ U g B H N s1/\gl co [] so=gl (co.drop j) t s1) C.ls.le
  ⟨[],_,0,so,rfl,af.refl _ _,S,aA.nil _ _ _ _,(λr e=>by obtain⟨a,n,c,M,X⟩:=e;cases M),h,rfl⟩ ?_ ?_
 rotate_left
 .rintro U aZ ⟨t,aS,gt,s1,O,x,P,G,y,K,he⟩;refine cc Ω ?_;rw[List.drop_length]at he;cases s1 with
  |none=>
   have he:=he;exact ad t U aS gt O x P G y (by rw[he];exact K) (λq f=>by rw[he]at f;cases f)
  |some s1=>
   have he:=he;exact ad t U aS gt O x P G y (by rw[he];exact K) (λq f=>by rw[he]at f;cases f;rfl)
 rintro j U aZ am ⟨t,aS,gt,s1,O,x,P,G,y,K,he⟩ a1;obtain⟨z,Y⟩:=aF (l:=co) am;have a2:=aC z (x6 Y);have bx:z<=4611686018427387904:=a2.2;have a6:=bs C x λr e J=>by
  rcases J with rfl|rfl|J
  .obtain⟨a7,M,X,bad,a8,big,ba,m1,sv,L,_⟩:=jq h;exact b8 C L Φ e rfl
  .exact b8 C S Φ e rfl
  .obtain⟨M,X⟩:=bV C e;omega
 refine bI Ω ?_;rw[bi ax.u au.i Ψ a6.ls Y,dp,li Ω Ω];refine(lZ K).Y ?_;rintro _ aa _ ⟨⟨Q,bb⟩,n,at_,rfl,bc,bz⟩;rw[bu,bw];have bd:an≠g:=Ω
 have ao:=P.V Q λhe=>bd he;have be:∃c,ag U g bG c:=by obtain⟨a7,M,X,bad,a8,big,ba,m1,sv,L,_⟩:=jq K;exact⟨_,L⟩
 have ap:=bs G Q λr e he=>by
  have he:r=g:=he;obtain⟨c,L⟩:=be;exact b8 G L Φ e he
 rw[aL cj.p 0 ao rfl];refine eB ax.u au.i rfl λa3 bA bg bB A bh=>?_;refine ii ax.u au.i rfl (ap.W A) bh.ls Θ Θ λbj bk bC R bl aq=>?_;have av:=ao.W A;have aw:=av.V aq λhe=>b8 (ap.W A) av Φ he rfl;rw[aT cj.p rfl];refine bq (g:=an) (o:=0) ax.i R.ls.cells.1 R.ls.cells.2 aw Ξ λbm ay bD Z=>?_;have Z:=Z;rw[aO];have aB:af (λr=>lc aS r\/r=an) bg bm:=(aq.Y λr _ h=>.inl h).F (ay.Y λr _ h=>.inr h);have bE:=x.size;have bF:=Q.size;have z3:=A.size;refine a1 _ ⟨t++[n],bj,bk,(bf 0 (z-1) s1).map (·.2),by simp[O],?_,Z,bs R ay λr e he=>?_,λr e=>?_,?_,?_⟩
 .refine (x.F (Q.Y λr _ h=>.inl h)).F ((A.V _).F (aB.Y λr _ h=>?_));exact h.elim (λh=>.inr (.inr (y r h))) λh=>.inr (.inl h)
 .have he:r=an:=he;subst he;exact b8 R aw Φ e rfl
 .rcases bl r e with h|h
  .exact y r h
  .omega
 .refine (bb.W A).new aB λr e=>?_;rcases e with e|rfl
  .have:=y r e;omega
  .exact aD
 .rw[he];have bn:co.drop j=z::co.drop (j+1):=by rw[X8 am,(x5.1 Y).2]
  rw[bn,Dk];cases f:bf 0 (z-1) s1 with
  |none=>rfl
  |some q=>
   obtain⟨v,bH⟩:=q;have:=bc _ f;subst this;rfl
theorem yl{g:Nat}(h:aA .i64 au w g v t):∀u∈pG ⟨v,t,c⟩,u.oneCell'=ro:=by
 intro u hu;simp[pG]at hu;rcases hu with rfl|rfl
 .exact h.ls.cells.2
 .rfl
def Qf(co:Λ)(cnt i:Nat)(s0:aJ)(A:List (Λ×Int))(so:Option aJ):Prop:=(∃s,so=σ s/\cT (eN co) cnt [] s0=cT (eN co) (cnt-i) A s/\A.length+s.d8.length<=100000)\/(so=ν/\cT (eN co) cnt [] s0=ν)
theorem Qg{g K g1 a8 X:Nat}{H:ah}{s0:aJ}{aU ck:x1}{scope:Λ}{o:Int}{aC:List (Λ×Int)}{bY:x4->Prop}(h:bQ w g B H N (σ s0))(f1:ag w K be [aU,d9,Δ o,ck])(f2:aA .i64 au w g1 aU scope)(f3:aA .i64 au w a8 d9 co)(f4:lY w X ck aC)(f5:∀r,lc aU r\/lc d9 r->B<=r)(f6:∀r,lc aU r->¬lc d9 r)(f7:B<=K)(cU:∀z∈co,1<=z/\z<=az)(cV:co.length<=100001)(eS:n<=4611686018427387904)(br:0<n->aC=[]/\∀r,¬hp ck r)(cX:s0.d8.length<=100000)(b0:∀I A bt,af (iA g B) w I->iz I B K ⟨scope,co,o,A⟩->bQ I g B H N bt->(n<=0->A=aC/\bt=σ s0)->(0<n->bt=(cT (eN co) n.toNat [] s0).map (·.2)/\∀q,cT (eN co) n.toNat [] s0=σ q->A=q.1)->bY I):
  bZ (Δ 0) w λb1 Z cY=>
     cv (α:=x1->x4->Prop) (λ(cZ:x1)(b2:x4)=>
      Split cZ (aH x8 (P7 cj ro (.tuple #[])) b2 λx Y=>
     ab x8 (u7 be (Γ K) 1) Y λc0=>
     ab x8 (u5 ax c0) Y λb3=>
     ab x8 (V7 #[ax] aj #[b3]) Y λc1=>
     bZ (Δ 0) Y λbx ad c2=>
      ab x8 (aN .lss aj rs rs bx c1) ad λc3=>
      Split c3 (ab x8 (Z0 ax b3 bx) ad λc4=>
      ab x8 (u5 au c4) ad λc5=>
      ab x8 (aN .sub au rs ro c5 (Δ 1)) ad λc6=>
      al x8 nc [Γ g,(Δ 0),c6] ad λb5 aE=>
      ab x8 (Y8 b5 0) aE λc7=>
      ab x8 (Y8 b5 1) aE λeU=>
      ab x8 (u7 cj x 0) aE λc8=>
      ab x8 (u5 ax c8) aE λc9=>
      aH x8 (X2 ax 1 #[(0,c7)]) aE λda db=>
      aH x8 (Y0 #[ax,ax] ax #[c9,da]) db λdc b6=>
      ab x8 (u7 cj x 0) b6 λdd=>
      aH x8 (n9 ax dd dc) b6 λ(_:Unit)b9=>
      ab x8 (aN .add aj rs ro bx (Δ 1)) b9 λde=>
      c2 de b9)
       (al x8 nc [Γ g,(Δ 0),(Δ 4611686018427387904)] ad λca G=>
     ab x8 (Y8 ca 0) G λdf=>
     ab x8 (Y8 ca 1) G λdh=>
     ab x8 (u7 be (Γ K) 3) G λdi=>
     ab x8 (u5 en di) G λcb=>
     ab x8 (V7 #[en] aj #[cb]) G λdj=>
     bZ (Δ 0) G λbz M dk=>
      ab x8 (aN .lss aj rs rs bz dj) M λdl=>
      Split dl (cv (α:=x4->Prop) (λ(av:x4)=>
       ab x8 (aN .add aj rs ro bz (Δ 1)) av λdm=>
       dk dm av) λcd=>
      ab x8 (Z0 en cb bz) M λdn=>
      ab x8 (u5 cj dn) M λdp=>
      aH x8 (P7 cj ro (.tuple #[])) M λy ce=>
      aH x8 (n9 cj y dp) ce λ(_:Unit)P=>
      cv (α:=x1->x4->Prop) (λ(dq:x1)(aG:x4)=>
       Split dq (al x8 oV [Γ g,(Δ 4),dh] aG λeV cf=>
        cd cf)
        (cd aG)) λcg=>
      ab x8 (bR (Γ g)) P λdr=>
      ab x8 (u7 bG dr 3) P λds=>
      ab x8 (u5 aj ds) P λdt=>
      ab x8 (aN .eql aj rs ro dt (Δ 0)) P λdu=>
      Split du (ab x8 (u7 cj x 0) P λdv=>
       ab x8 (u5 ax dv) P λdw=>
      ab x8 (u7 cj y 0) P λdx=>
      ab x8 (u5 ax dx) P λdy=>
      al x8 tA [dw,dy] P λdz ch=>
      cg dz ch)
       (cg (.bool rs) P))
       (ab x8 (u7 cj x 1) M λdA=>
     aH x8 (n9 au dA df) M λ(_:Unit)ae=>
     ab x8 (u7 be (Γ K) 3) ae λdC=>
     ab x8 (u5 en dC) ae λdD=>
     ab x8 (u5 cj x) ae λdF=>
     aH x8 (X2 en 1 #[(0,dF)]) ae λdG ba=>
     aH x8 (Y0 #[en,en] en #[dD,dG]) ba λdI bC=>
     ab x8 (u7 be (Γ K) 3) bC λdJ=>
     aH x8 (n9 en dJ dI) bC λ(_:Unit)ai=>
     ab x8 (aN .add au rs ro b1 (Δ 1)) ai λdK=>
     cY dK ai)))
       (bY b2)) λci=>
     ab x8 (aN .lss au rs rs b1 (Δ n)) Z λdL=>
     Split dL (ab x8 (bR (Γ g)) Z λdM=>
     ab x8 (u7 bG dM 3) Z λdN=>
     ab x8 (u5 aj dN) Z λdO=>
     ab x8 (aN .eql aj rs ro dO (Δ 0)) Z λdP=>
     ci dP Z)
      (ci (.bool rs) Z):=by
 have dQ:=h.lt;refine bZ.range n.toNat (λi U=>∃A so ck X,af (iA g B) w U/\ag U K be [aU,d9,Δ o,ck]/\aA .i64 au U g1 aU scope/\aA .i64 au U a8 d9 co/\lY U X ck A/\(0<n->∀r,hp ck r->B<=r)/\bQ U g B H N so/\(n<=0->A=aC/\so=σ s0)/\(0<n->Qf co n.toNat i s0 A so)) Ω
  ⟨aC,σ s0,ck,X,af.refl _ _,f1,f2,f3,f4,λac r C=>m6 C ((br ac).2 r),h,λ_=>⟨rfl,rfl⟩,λac=>.inl ⟨s0,rfl,by rw[(br ac).1];rfl,by rw[(br ac).1];simpa using cX⟩⟩ ?_ ?_
 rotate_left
 .rintro U k ⟨A,so,ck,X,aI,aw,bb,aK,aM,bD,am,cl,E⟩;refine aV (λv aa=>U=aa/\v= .bool rs) ?_ ?_
  .rintro _ _ ⟨rfl,rfl⟩;rw[aX];refine b0 U A so aI ⟨aU,d9,ck,g1,a8,X,aw,bb,aK,aM,f5,f6,f7⟩ am cl λac=>?_;rcases E ac with⟨s,rfl,he,_⟩|⟨rfl,he⟩
   .rw[W8]at he;rw[he];exact⟨rfl,λq O=>by cases O;rfl⟩
   .rw[he];exact⟨rfl,λq O=>by cases O⟩
  .intro ay bE;rw[aR,ak];exact⟨λh=>Ω,λ_=>bE _ _ ⟨rfl,rfl⟩⟩
 rintro i U k hi ⟨A,so,ck,X,aI,aw,bb,aK,aM,bD,am,cl,E⟩ hk;have ac:0<n:=Ω
 refine aV (λv aa=>U=aa/\v= .bool so.isSome) ?_ ?_
 rotate_left
 .intro ay bE;refine bI Ω ?_;rw[mJ am];exact bE _ _ ⟨rfl,rfl⟩
 rintro _ _ ⟨rfl,rfl⟩;rcases E ac with⟨eE,rfl,he,eW⟩|⟨rfl,he⟩
 rotate_left
 .rw[Q5,aX];refine b0 U A ν aI ⟨aU,d9,ck,g1,a8,X,aw,bb,aK,aM,f5,f6,f7⟩ am (λh=>Ω) λ_=>?_;rw[he];exact⟨rfl,λq O=>by cases O⟩
 rw[S9,bH];have eX:=am.lt;refine bB cj.i λan Y eY aP bF=>?_;have bF:ag Y an cj [.slice ν 0 0,Δ 0]:=bF;have dS:=aw.W aP;have cm:=aK.W aP;have eZ:=aP.size;have e0:=aw.lt;rw[aT be.p rfl,aD Ψ (dS.cell rfl),aY ax.u cm.ls];refine Qe (am.W aP) cm cU cV bF Ω λt ad aS gt e1 dT dU dV dW dX dY=>?_;refine(lZ dX).Y ?_;rintro _ G _ ⟨⟨bJ,bc⟩,c,at_,rfl,dZ,e2⟩;rw[bu,bw];have bK:an≠g:=Ω
 have cp:K≠g:=by have:=h.lt;omega
 have ea:af (λr=>r=g\/r=an\/Y.heap.size<=r) Y G:=dT.F (bJ.Y λr _ h=>.inl h);have cq:∀{S:Nat->Prop},(∀r,S r->r=g\/U.heap.size<=r)->∀r,S r->iy U r\/U.heap.size<=r:=λec r C=>(ec r C).imp (λhe=>by
  subst he;obtain⟨cr,aQ,aW,bad,ct,big,cu,m1,sv,E,_⟩:=jq am;exact⟨_,_,E,Φ,Φ⟩) id
 have bd:af (λr=>r=g\/U.heap.size<=r) U G:=(aP.V _).F (ea.Y λr _ h=>h.elim .inl λh=>h.elim (λh=>.inr Ω) λh=>.inr Ω);have cw:=aw.V bd λh=>h.elim cp λh=>Ω
 obtain⟨L,bg,cz,bL⟩:=aM.dR bd (cq λr C=>C);have cA:=dU.V bJ λhe=>bK he;have cB:=bs dV bJ λr C he=>by
  have he:r=g:=he;have:=dW r C;omega
 have e3:L.length=A.length:=by rw[<-bL,u9]
 rw[aL be.p 3 cw rfl,dE en.u bg];generalize cC:(bf 0 4611686018427387904 (T0 (λx=>x.snd) (gl co [] (σ eE)))).map (·.2)=ao at bc;have e4:=bd.size;refine bZ.range L.length (λj M=>af (λr=>r=g) G M/\bQ M g B H N (if t∈(L.take j).map (·.t)then ν else ao)) bg.le ⟨af.refl _ _,by simpa using bc⟩ ?_ ?_
 .rintro j M ed cD ⟨Q,aZ⟩ ee;obtain⟨y,R⟩:=aF (l:=L) cD;have bM:∃c,ag G g bG c:=by obtain⟨cr,aQ,aW,bad,ct,big,cu,m1,sv,E,_⟩:=jq bc;exact⟨_,E⟩
  have ap:∀r,r=g->iy G r\/G.heap.size<=r:=λr C=>by
   subst C;obtain⟨c,E⟩:=bM;exact .inl ⟨_,c,E,Φ,Φ⟩
  have bh:=yj bg Q λr C=>(ap r C).imp (λ⟨e,c,E,_,a1⟩=>⟨e,c,E,a1⟩) id;obtain⟨e5,ef⟩:=cz y (x6 R);have cE:=eQ ef Q ap;have bN:=eQ cB Q ap;have bi:=cA.V Q λhe=>bK he;refine bI Ω ?_;have bO:t∈(L.take (j+1)).map (·.t)↔t∈(L.take j).map (·.t)\/t=y.t:=by
   rw[r8,R,o9,Z5,j4];simp
  refine cW (λav=>af (λr=>r=g) G av/\bQ av g B H N (if t∈(L.take (j+1)).map (·.t)then ν else ao)) ?_ ?_
  .rintro av eg;rw[aO];exact ee _ eg
  intro e6 cF;rw[b7 rfl en.u cj.i bh cD,bA cj.p cj.i rfl (bh.range R)];refine bB cj.i λgy ce e7 eh ei=>?_;refine b4 (vs:=pG y) cj.i rfl rfl (yl cE) ei λP ej e8 ek=>?_;have a2:=eh.put ej Ω;have cG:=aZ.W a2;have cH:af (λr=>r=g) G P:=Q.F (a2.V _);refine aV (λv aG=>∃b:Bool,v= .bool b/\Ext P aG/\(b=ro->t=y.t)/\(b=rs->t≠y.t\/(if t∈(L.take j).map (·.t)then ν else ao)=ν)) ?_ ?_
  .rintro _ aG ⟨b,rfl,bP,em,eo⟩;have aq:=cG.W bP;cases b with
   |true=>
    rw[bH];refine(pH aq Ω).Y ?_;rintro _ cf _ ⟨ep,er⟩;refine cF _ ⟨(cH.F (bP.V _)).F ep,?_⟩;rw[m3 (bO.2 (.inr (em rfl)))];exact er
   |false=>
    rw[aX];refine cF _ ⟨cH.F (bP.V _),?_⟩;by_cases hm:t∈(L.take j).map (·.t)
    .rw[m3 (bO.2 (.inl hm))];rw[m3 hm]at aq;exact aq
    .rw[m5 hm]at aq;rcases eo rfl with a1|cI
     .rw[m5 (λh=>(bO.1 h).elim hm a1)];exact aq
     .rw[m5 hm]at cI;rw[cI]at aq ⊢;split<;>exact aq
  .intro e9 cJ;rw[mJ cG];cases a6:(if t∈(L.take j).map (·.t)then ν else ao)with
   |none=>
    rw[Q5,aX];exact cJ _ _ ⟨rs,rfl,Ext.refl _,(λh=>by cases h),λ_=>.inr a6⟩
   |some fa=>
    rw[S9,bH];have es:=bi.W a2;rw[aL cj.p 0 es rfl,aL cj.p 0 ek rfl];refine(yk (bN.ls.W a2) (cE.ls.W a2)).Y ?_;rintro _ ch _ ⟨rfl,et⟩;exact cJ _ _ ⟨_,rfl,et,λh=>rc h,λh=>.inl (of_decide_eq_false h)⟩
 .rintro M ed ⟨Q,aZ⟩;rw[o6]at aZ;have eu:L.map (·.t)=A.map (·.1):=by rw[<-bL,S5];rfl
  rw[eu]at aZ;have bM:∃c,ag G g bG c:=by obtain⟨cr,aQ,aW,bad,ct,big,cu,m1,sv,E,_⟩:=jq bc;exact⟨_,E⟩
  have ap:∀r,r=g->iy G r\/G.heap.size<=r:=λr C=>by
   subst C;obtain⟨c,E⟩:=bM;exact .inl ⟨_,c,E,Φ,Φ⟩
  have cK:∀r,(r=g\/U.heap.size<=r)->iy U r\/U.heap.size<=r:=cq λr C=>C;have bj:af (λr=>r=g\/U.heap.size<=r) U M:=bd.F (Q.Y λr _ h=>.inl h);have ev:=cw.V Q λhe=>cp he;have ew:=eQ bb bj cK;have ey:=eQ aK bj cK;have bh:=yj bg Q λr C=>(ap r C).imp (λ⟨e,c,E,_,a1⟩=>⟨e,c,E,a1⟩) id;have ez:∀y∈L,∃gy,aA .i64 au M gy y.v y.t:=λy R=>by
   obtain⟨gy,hm⟩:=cz y R;exact⟨gy,eQ hm Q ap⟩
  have bN:=eQ cB Q ap;have bi:=cA.V Q λhe=>bK he;refine cc Ω ?_;rw[aT cj.p rfl];refine bq (g:=an) (o:=1) au.i rfl rfl bi Ξ λae aB fb bS=>?_;have bS:=bS;have eA:K≠an:=Ω
  have cL:=ev.V aB λhe=>eA he;have fc:U.heap.size<=an:=Ω
  have eB:∀r,hp ck r->r≠an:=λr C=>by obtain⟨aQ,aW⟩:=aM.choose_spec.1.lc C;omega
  have eC:=bh.V aB λr C he=>eB r C he;rw[aL be.p 3 cL rfl,bA cj.p cj.i rfl bS.range];let a:yi:=⟨aS,t,c⟩;have bk:∀{v:x1}{a7:Nat}{l:Λ},aA .i64 au M a7 v l->aA .i64 au ae a7 v l:=λhm=>bs hm aB λr C he=>by
   have he:r=an:=he;exact b8 hm bi Φ C he
  have cM:=bk bN;refine iS (f:=pG) (a:=a) en.u cj.i Ω rfl rfl λv45 fd ba fe W eD=>?_;have bT:=eC.W W;refine jo (f:=pG) (a:=a) en.u cj.i rfl bT (by simpa using eD.sl) (yl (cM.W W)) Ω Ω λcN cO bC bm eF cP=>?_;have bU:=cL.W W;have cQ:=bU.V cP λhe=>cn bT bU Φ he;rw[aT be.p rfl];refine bq (g:=K) (o:=3) en.i (dg bm.sl).1 (dg bm.sl).2 cQ Ξ λai cR ff bV=>?_;have bV:=bV;rw[aO];have bW:af (λr=>hp ck r\/r=K) ba ai:=(cP.Y λr _ h=>.inl h).F (cR.Y λr _ h=>.inr h);have bo:∀{v:x1}{a7:Nat}{l:Λ},aA .i64 au ba a7 v l->aA .i64 au ai a7 v l:=λhm=>bs hm bW λr C J=>by
   rcases J with J|rfl
   .obtain⟨rfl,fg,E⟩:=eb bT J;exact b8 hm E Φ C rfl
   .exact b8 hm bU Φ C rfl
  have cS:∀r,(hp ck r\/r=K)->B<=r:=λr C=>C.elim (λC=>bD ac r C) λC=>C▸f7;have eH:bQ ae g B H N (if t∈A.map (·.1)then ν else ao):=aZ.new aB λr C=>by
   have C:r=an:=C;omega
  have eI:=(eH.W W).new bW cS;have eJ:af (iA g B) U ai:=((bj.Y λr _ h=>h.elim .inl λh=>.inr Ω).F (aB.Y λr _ h=>.inr (by have h:r=an:=h;omega))).F ((W.V _).F (bW.Y λr _ h=>.inr (cS r h)));have eK:lY ai cO cN (A++[(t,c)]):=⟨L++[a],bm.V cR λr C he=>by
   have he:r=K:=he;subst he;exact cn bm cQ Φ C,λy R=>by
   rcases j4.1 R with R|R
   .obtain⟨gy,hm⟩:=ez y R;exact⟨gy,bo ((bk hm).W W)⟩
   .rw[j6.1 R];exact⟨gt,bo (cM.W W)⟩,by rw[Z5,bL];rfl⟩
  refine hk _ ⟨A++[(t,c)],_,cN,cO,aI.F eJ,bV,bo ((bk ew).W W),bo ((bk ey).W W),eK,λ_ r C=>?_,eI,λh=>Ω,λ_=>?_⟩
  .rcases eF r C with h|h
   .exact bD ac r h
   .have:=aI.size;have:=bj.size;have:=aB.size;have:=W.size;have:=dQ.2;omega
  .have eL:n.toNat-i=(n.toNat-(i+1))+1:=Ω
   rw[eL]at he;obtain⟨eM,eO⟩:=Do dY dZ;cases O:bf 0 az ((gl co [] (σ eE)).map (·.2))with
   |none=>
    have a6:ao=ν:=by rw[<-cC];show(bf 0 az _).map _=ν;rw[O];rfl
    rw[qy (eM O)]at he;refine .inr ⟨?_,he⟩;rw[a6];split<;>rfl
   |some q=>
    have a6:ao=σ q.2:=by rw[<-cC];show(bf 0 az _).map _=_;rw[O];rfl
    have bp:=eO q O;by_cases hm:t∈A.map (·.1)
    .rw[m3 hm]at bp;rw[qy bp]at he;exact .inr ⟨by rw[m3 hm],he⟩
    .rw[m5 hm]at bp;rw[ul bp]at he;refine .inl ⟨q.2,by rw[m5 hm,a6],he,?_⟩;cases bX:gl co [] (σ eE)with
     |none=>rw[bX]at O;cases O
     |some p=>
      rw[bX]at O;obtain⟨bn,s1⟩:=p;have aQ:=bX;obtain⟨u,_,_,eP⟩:=xo aQ;have aW:bl 0 az s1=σ q:=O;obtain⟨fh,fi⟩:=q;have eR:=dH aW;have:=eP.1;have:=eR.1;rw[r9];simp only[U2];omega
def lk(s:aJ):Prop:=s.big=rs->0<=s.m1/\s.m1<=16384
def ll(e:Bool)(ar:Nat)(scope co:Λ)(f:Option aJ):Option (cA×aJ):=match bf 0 az (f.map (bj (decide (6<ar)||dy co)))with
 |none=>ν
 |some (other,h)=>match dZ co h with
  |none=>ν
  |some (lines,a)=>σ (⟨scope,co,other,lines⟩,if e=ro then{a with m2:=a.m2++[(co,lines)]}else a)
theorem EP{s s':aJ}{l:List (Λ×Int)}(h:dZ co s=σ (l,s')):s'.d8.length+1<=s.d8.length/\s'.m2=s.m2:=by
 unfold dZ at h;cases e:bl (-az) az s with
 |none=>rw[e]at h;cases h
 |some q=>
  obtain⟨n,s1⟩:=q;have j:=dH e;have y:=j.1;have p:=j.eqs.2.2;rw[e]at h;simp only at h;split at h
  .split at h
   .cases h
   .split at h
    .cases h;exact⟨Ω,p⟩
    .cases h
  .have aW:=h;have:=lR (λ_ t=>t.d8.length<=s1.d8.length/\t.m2=s1.m2) (λacc t a bn r x=>by
    obtain⟨_,_,_,w⟩:=qv x;have h1:=w.1;have f:=w.eqs.2.2;exact⟨by have:=r.1;omega,f.F r.2⟩) n.toNat [] (bj (decide (16384<min (s1.m1+n) az)) {s1 with m1:=min (s1.m1+n) az}) l s' ⟨p8 _,rfl⟩ aW
   obtain⟨⟨h1,f⟩,_⟩:=this;exact⟨Ω,f.F p⟩
theorem vb{g:Nat}{H:ah}{s:aJ}(h:bQ w g B H N (σ s)):s.d8.length<=100000/\s.m2.length+s.d8.length<=100000:=by
 obtain⟨j,w0,p,q,gs,sv,L,X,r,x,bad,y,big,z,m1,h1,A,C,E,e,F,G,I,J,K,M,a,O,f,P⟩:=h;have Q:=e.2.2.1;refine⟨by rw[<-a,u9];omega,by rw[<-a,<-f,u9,u9];omega⟩
def EQ(w:x4)(g h B:Nat)(H:ah)(e:Option (cA×aJ))(v:x1)(I:x4):Prop:=∃f x a,af (λr=>r=g\/H r\/r=h\/B<=r) w I/\v= .agg (fE f).toArray/\ik I f x/\bQ I g I.heap.size a 100001 (e.map (·.2))/\(∀q,e=σ q->x=q.1)/\(∀r,H r->a r)/\(∀r,a r->H r\/B<=r)/\∀r,a r->r<I.heap.size
theorem ER{g E ar:Nat}{H:ah}{R:Option aJ}{bc:Bool}{dw:Int}{scope:Λ}{Q:x1->x4->Prop}(h:bQ w g B H 100000 R)(dx:iz w B E ⟨scope,co,0,[]⟩)(fh:∀c,ag w E be c->c[3]?=σ (.slice ν 0 0))(dz:∀z∈co,1<=z/\z<=az)(fi:co.length<=100001)(dA:ag w N be [.slice ν 0 0,.slice ν 0 0,Δ 0,.slice ν 0 0])(ju:N<B)(cG:¬H N)(cH:∀r,H r->r<B)(fj:∀ap,R=σ ap->lk ap)(fk:∀v I,EQ w g N B H (ll bc ar scope co R) v I->Q v I):
  ab x8 (u7 be (Γ E) 1) w λfm=>
  ab x8 (u5 ax fm) w λdD=>
  ab x8 (V7 #[ax] aj #[dD]) w λfo=>
  cb (Δ 1) (Δ 0) w λdF cY aC fp=>
   ab x8 (aN .lss aj rs rs cY fo) aC λfs=>
   Split fs (cv (α:=x1->x4->Prop) (λ(ft:x1)(dG:x4)=>
    ab x8 (aN .add aj rs ro cY (Δ 1)) dG λfu=>
    fp ft fu dG) λdI=>
   ab x8 (Z0 ax dD cY) aC λfv=>
   ab x8 (u5 au fv) aC λdJ=>
   cv (α:=x1->x4->Prop) (λ(fw:x1)(cI:x4)=>
    ab x8 (aN .mul au rs rs dF fw) cI λdK=>
    ab x8 (aN .gtr au rs ro dK (Δ 4096)) cI λfx=>
    Split fx (dI (Δ 4097) cI)
     (dI dK cI)) λdL=>
   ab x8 (aN .gtr au rs ro dJ (Δ 4096)) aC λfy=>
   Split fy (dL (Δ 4097) aC)
    (dL dJ aC))
    (cv (α:=x4->Prop) (λ(bX:x4)=>
   al x8 nc [(Γ g),(Δ 0),(Δ 4611686018427387904)] bX λdM bD=>
   ab x8 (Y8 dM 0) bD λfz=>
   ab x8 (Y8 dM 1) bD λjv=>
   ab x8 (u7 be (Γ E) 2) bD λfA=>
   aH x8 (n9 au fA fz) bD λ(_:Unit)bd=>
   al x8 nc [(Γ g),(Δ (-4611686018427387904)),(Δ 4611686018427387904)] bd λdN O=>
   ab x8 (Y8 dN 0) O λbE=>
   ab x8 (Y8 dN 1) O λdO=>
   ab x8 (bR (Γ g)) O λfB=>
   ab x8 (u7 bG fB 3) O λfD=>
   ab x8 (u5 aj fD) O λfF=>
   ab x8 (aN .neq aj rs ro fF (Δ 0)) O λfG=>
   Split fG (ab x8 (u5 be (Γ E)) O λbY=>
    aH x8 (n9 be (Γ N) bY) O λ(_:Unit)bg=>
    ab x8 (do loadVar be (<-asAddr (Γ N))) bg λb0=>
 Q b0 bg)
    (cv (α:=x4->Prop) (λ(aS:x4)=>
    bZ (Δ 0) aS λdP bo fH=>
     cv (α:=x1->x4->Prop) (λ(fI:x1)(b1:x4)=>
      Split fI (aH x8 (P7 cj ro (.tuple #[])) b1 λx cJ=>
     ab x8 (u7 be (Γ E) 1) cJ λfJ=>
     ab x8 (u5 ax fJ) cJ λdQ=>
     ab x8 (V7 #[ax] aj #[dQ]) cJ λfK=>
     bZ (Δ 0) cJ λcZ bF fL=>
      ab x8 (aN .lss aj rs rs cZ fK) bF λfM=>
      Split fM (ab x8 (Z0 ax dQ cZ) bF λfN=>
      ab x8 (u5 au fN) bF λfO=>
      ab x8 (aN .sub au rs ro fO (Δ 1)) bF λfQ=>
      al x8 nc [(Γ g),(Δ 0),fQ] bF λdS b2=>
      ab x8 (Y8 dS 0) b2 λfR=>
      ab x8 (Y8 dS 1) b2 λjw=>
      ab x8 (u7 cj x 0) b2 λfS=>
      ab x8 (u5 ax fS) b2 λfU=>
      aH x8 (X2 ax 1 #[(0,fR)]) b2 λfV fW=>
      aH x8 (Y0 #[ax,ax] ax #[fU,fV]) fW λfX dT=>
      ab x8 (u7 cj x 0) dT λfY=>
      aH x8 (n9 ax fY fX) dT λ(_:Unit)dU=>
      ab x8 (aN .add aj rs ro cZ (Δ 1)) dU λfZ=>
      fL fZ dU)
       (al x8 nc [(Γ g),(Δ 0),(Δ 4611686018427387904)] bF λdV bI=>
     ab x8 (Y8 dV 0) bI λgb=>
     ab x8 (Y8 dV 1) bI λgc=>
     ab x8 (u7 be (Γ E) 3) bI λgd=>
     ab x8 (u5 en gd) bI λdW=>
     ab x8 (V7 #[en] aj #[dW]) bI λgf=>
     bZ (Δ 0) bI λc0 bJ gg=>
      ab x8 (aN .lss aj rs rs c0 gf) bJ λgh=>
      Split gh (cv (α:=x4->Prop) (λ(dX:x4)=>
       ab x8 (aN .add aj rs ro c0 (Δ 1)) dX λgi=>
       gg gi dX) λdY=>
      ab x8 (Z0 en dW c0) bJ λgj=>
      ab x8 (u5 cj gj) bJ λgk=>
      aH x8 (P7 cj ro (.tuple #[])) bJ λy gl=>
      aH x8 (n9 cj y gk) gl λ(_:Unit)aE=>
      cv (α:=x1->x4->Prop) (λ(gm:x1)(ea:x4)=>
       Split gm (al x8 oV [(Γ g),(Δ 4),gc] ea λjx gn=>
        dY gn)
        (dY ea)) λec=>
      ab x8 (bR (Γ g)) aE λgp=>
      ab x8 (u7 bG gp 3) aE λgq=>
      ab x8 (u5 aj gq) aE λgu=>
      ab x8 (aN .eql aj rs ro gu (Δ 0)) aE λgv=>
      Split gv (ab x8 (u7 cj x 0) aE λgw=>
       ab x8 (u5 ax gw) aE λgx=>
      ab x8 (u7 cj y 0) aE λgA=>
      ab x8 (u5 ax gA) aE λgB=>
      al x8 tA [gx,gB] aE λgC gD=>
      ec gC gD)
       (ec (.bool rs) aE))
       (ab x8 (u7 cj x 1) bJ λgE=>
     aH x8 (n9 au gE gb) bJ λ(_:Unit)cK=>
     ab x8 (u7 be (Γ E) 3) cK λgF=>
     ab x8 (u5 en gF) cK λgH=>
     ab x8 (u5 cj x) cK λgI=>
     aH x8 (X2 en 1 #[(0,gI)]) cK λgJ gK=>
     aH x8 (Y0 #[en,en] en #[gH,gJ]) gK λgL ed=>
     ab x8 (u7 be (Γ E) 3) ed λgM=>
     aH x8 (n9 en gM gL) ed λ(_:Unit)ee=>
     ab x8 (aN .add au rs ro dP (Δ 1)) ee λgN=>
     fH gN ee)))
       (cv (α:=x4->Prop) (λ(ai:x4)=>
     ab x8 (u5 be (Γ E)) ai λgO=>
     aH x8 (n9 be (Γ N) gO) ai λ(_:Unit)ef=>
     ab x8 (do loadVar be (<-asAddr (Γ N))) ef λgP=>
 Q gP ef) λeg=>
    Split (.bool bc) (eH b1 λaq=>
     ab x8 (bR (Γ g)) aq λc1=>
     ab x8 (u7 bG c1 8) aq λc2=>
     ab x8 (u5 dC c2) aq λeh=>
     ab x8 (u5 be (Γ E)) aq λgQ=>
     aH x8 (X2 dC 1 #[(0,gQ)]) aq λgR aW=>
     (Ext aq aW\/cE x8 (u5 dC c2) eh aW/\cE x8 (u7 bG c1 8) c2 aW/\cE x8 (bR (Γ g)) c1 aW/\True)/\
     aH x8 (Y0 #[dC,dC] dC #[eh,gR]) aW λgS cL=>
      ab x8 (bR (Γ g)) cL λgT=>
      ab x8 (u7 bG gT 8) cL λgU=>
      aH x8 (n9 dC gU gS) cL λ(_:Unit)bp=>
      eg bp)
     (eg b1))) λei=>
     ab x8 (aN .lss au rs rs dP bE) bo λgV=>
     Split gV (ab x8 (bR (Γ g)) bo λgW=>
     ab x8 (u7 bG gW 3) bo λgX=>
     ab x8 (u5 aj gX) bo λgY=>
     ab x8 (aN .eql aj rs ro gY (Δ 0)) bo λgZ=>
     ei gZ bo)
      (ei (.bool rs) bo)) λej=>
   ab x8 (aN .lss au rs ro bE (Δ 0)) O λg0=>
   Split g0 (cv (α:=x1->x4->Prop) (λ(g2:x1)(Z:x4)=>
     Split g2 (al x8 oV [(Γ g),(Δ 4),dO] Z λjy c3=>
     ab x8 (u5 be (Γ E)) c3 λg3=>
     aH x8 (n9 be (Γ N) g3) c3 λ(_:Unit)ek=>
     ab x8 (do loadVar be (<-asAddr (Γ N))) ek λg4=>
 Q g4 ek)
     (ab x8 (bR (Γ g)) Z λg5=>
    ab x8 (u7 bG g5 8) Z λg6=>
    ab x8 (u5 dC g6) Z λg7=>
    ab x8 (Op.unary .neg bE) Z λg8=>
    ab x8 (aN .sub au rs ro g8 (Δ 1)) Z λg9=>
    ab x8 (Z0 dC g7 g9) Z λha=>
    ab x8 (u7 be ha 3) Z λhb=>
    ab x8 (u5 en hb) Z λhc=>
    ab x8 (u7 be (Γ E) 3) Z λhd=>
    aH x8 (n9 en hd hc) Z λ(_:Unit)em=>
    ej em)) λeo=>
    eH O λP=>
    ab x8 (Op.unary .neg bE) P λhf=>
    ab x8 (bR (Γ g)) P λhg=>
    ab x8 (u7 bG hg 8) P λhh=>
    ab x8 (u5 dC hh) P λhj=>
    ab x8 (V7 #[dC] aj #[hj]) P λhl=>
    ab x8 (aN .gtr au rs rs hf hl) P λhn=>
    Split hn (eo (.bool ro) P)
    (ab x8 (bR (Γ g)) P λho=>
    ab x8 (u7 bG ho 8) P λhq=>
    ab x8 (u5 dC hq) P λhr=>
    ab x8 (Op.unary .neg bE) P λhs=>
    ab x8 (aN .sub au rs ro hs (Δ 1)) P λht=>
    ab x8 (Z0 dC hr ht) P λhv=>
    ab x8 (u7 be hv 1) P λhx=>
    ab x8 (u5 ax hx) P λhy=>
    ab x8 (u7 be (Γ E) 1) P λhz=>
    ab x8 (u5 ax hz) P λhA=>
    al x8 tA [hy,hA] P λhB c4=>
    ab x8 (Op.unary .not hB) c4 λhC=>
    eo hC c4))
    (ab x8 (bR (Γ g)) O λhD=>
    ab x8 (u7 bG hD 7) O λhE=>
    ab x8 (u5 au hE) O λhF=>
    ab x8 (aN .add au rs rs hF bE) O λhG=>
    ab x8 (bR (Γ g)) O λhH=>
    ab x8 (u7 bG hH 7) O λhI=>
    aH x8 (n9 au hI hG) O λ(_:Unit)aI=>
    cv (α:=x4->Prop) (λ(aK:x4)=>
     ab x8 (bR (Γ g)) aK λhJ=>
     ab x8 (u7 bG hJ 7) aK λhK=>
     ab x8 (u5 au hK) aK λhL=>
     ab x8 (aN .gtr au rs ro hL (Δ 16384)) aK λhM=>
     al x8 tz [(Γ g),hM,dO] aK λjz c5=>
     ej c5) λep=>
    ab x8 (bR (Γ g)) aI λhN=>
    ab x8 (u7 bG hN 7) aI λhO=>
    ab x8 (u5 au hO) aI λhP=>
    ab x8 (aN .gtr au rs ro hP (Δ 4611686018427387904)) aI λhQ=>
    Split hQ (ab x8 (bR (Γ g)) aI λhR=>
    ab x8 (u7 bG hR 7) aI λhS=>
    aH x8 (n9 au hS (Δ 4611686018427387904)) aI λ(_:Unit)er=>
    ep er)
    (ep aI)))) λes=>
  ab x8 (aN .gtr au rs ro (Δ (ar:Int)) (Δ 6)) aC λhT=>
  Split hT (al x8 tz [(Γ g),(.bool ro),(Δ dw)] aC λjA hU=>
  es hU)
   (ab x8 (aN .gtr au rs ro dF (Δ 4096)) aC λhV=>
  al x8 tz [(Γ g),hV,(Δ dw)] aC λjB hW=>
  es hW)):=by
 have hX:=h.lt;have et:N≠g:=λhe=>by
  obtain⟨av,ac,ad,bad,aw,big,aB,m1,sv,C,_⟩:=jq h;subst he;exact m6 (eC C dA) Φ
 obtain⟨aU,d9,ck,g1,cM,cN,f1,f2,f3,f4,f5,f6,f7⟩:=id dx;have b3:E≠g:=Ω
 have ret:∀{G:x4}{x:cA}{S:ah},iz G B E x->ag G N be [.slice ν 0 0,.slice ν 0 0,Δ 0,.slice ν 0 0]->af (λr=>r=g\/H r\/B<=r) w G->bQ G g G.heap.size S 100001 ((ll bc ar scope co R).map (·.2))->(∀q,ll bc ar scope co R=σ q->x=q.1)->¬S N->(∀r,H r->S r)->(∀r,S r->H r\/B<=r)->(∀r,S r->r<G.heap.size)->
   (ab x8 (u5 be (Γ E)) G λbY=>
    aH x8 (n9 be (Γ N) bY) G λ(_:Unit)bg=>
    ab x8 (do loadVar be (<-asAddr (Γ N))) bg λb0=>Q b0 bg):=by
  intro G x S c6 c7 hY hZ h0 h2 c8 h3 h4;obtain⟨aU,d9,ck,g1,cM,cN,c9,da,db,dc,dd,eu,ev⟩:=c6;let ae:kl:=⟨aU,d9,x.other,ck⟩;have b5:ik G ae x:=⟨⟨g1,da⟩,⟨cM,db⟩,rfl,cN,dc⟩;rw[bA be.p be.i rfl (show G.rangeAt E 0 (fE ae)from c9.range)];refine b4 (vs:=fE ae) be.i rfl rfl b5.one c7 λjC de h5 h6=>?_;rw[fP be.p be.i rfl h6.range];have h7:∀r,r=N->iy G r\/G.heap.size<=r:=λr j=>by subst j;exact .inl ⟨_,_,c7,Φ,Φ⟩
  refine fk _ _ ⟨ae,x,S,(hY.Y λr _ h=>?_).F (de.Y λr _ h=>.inr (.inr (.inl h))),rfl,b5.dR de h7,hZ.dR de λr j=>.inl ?_,h0,c8,h3,λr j=>by rw[h5];exact h4 r j⟩
  .exact h.elim .inl λh=>h.elim (λh=>.inr (.inl h)) λh=>.inr (.inr (.inr h))
  .have j:r=N:=j;subst j;exact⟨_,_,c7,Φ,Φ,Φ,Φ,h2⟩
 have df:∀{G:x4},af (iA g B) w G->ag G N be [.slice ν 0 0,.slice ν 0 0,Δ 0,.slice ν 0 0]:=λaZ=>dA.V aZ λJ=>J.elim et λh=>Ω
 have dh:∀{G:x4},af (iA g B) w G->af (λr=>r=g\/H r\/B<=r) w G:=λaZ=>aZ.Y λr _ h=>h.elim .inl λh=>.inr (.inr h);have ew:∀{G:x4}{ey:Nat}{S:ah}{so:Option aJ},bQ G g ey S 100000 so->bQ G g ey S 100001 so:=λj=>by
  obtain⟨b6,w0,av,bh,gs,sv,L,X,ac,ad,bad,aw,big,aB,m1,h1,h8,h9,ia,ib,di,dj⟩:=j;refine⟨Ω,w0,av,bh,gs,sv,L,X,ac,ad,bad,aw,big,aB,m1,h1,h8,h9,ia,ib,di,?_⟩;rename_i so;cases so with
  |none=>exact⟨dj.1,by have:=dj.2;omega⟩
  |some s=>exact dj
 have ez:∀{G:x4}{x:cA},iz G B E x->af (iA g B) w G->bQ G g B H 100000 ν->ll bc ar scope co R=ν->(ab x8 (u5 be (Γ E)) G λbY=>
    aH x8 (n9 be (Γ N) bY) G λ(_:Unit)bg=>
    ab x8 (do loadVar be (<-asAddr (Γ N))) bg λb0=>Q b0 bg):=λc6 aZ j eA=>
  ret c6 (df aZ) (dh aZ) (by rw[eA];exact ew j.base) (λq W=>by rw[eA]at W;cases W) cG (λ_ h=>h) (λ_ h=>.inl h) λr j=>by have:=cH r j;have:=aZ.size;omega
 rw[aL be.p 1 f1 rfl,aY ax.u f3.ls];refine Qd f3.ls (λz ic=>(dz z ic).1) λc aZ=>?_;refine cW (λbX=>af (λr=>r=g) w bX/\bQ bX g B H 100000 (R.map (bj (decide (6<ar)||dy co)))) ?_ ?_
 rotate_left
 .intro ay a1;rw[bO,ak];refine⟨λdi=>?_,λdi=>?_⟩
  .refine (oo h).Y ?_;rintro _ U _ a2;refine a1 _ ⟨a2.1,?_⟩;rw[m7 (show 6<ar by omega),Bool.true_or];exact a2.2
  .rw[bO];refine(oo h).Y ?_;rintro _ U _ a2;refine a1 _ ⟨a2.1,?_⟩;have e:dy co=decide (4096<c):=by rw[U9,ne];exact aZ.symm
   rw[ms (show¬6<ar by omega),Bool.false_or,e];exact a2.2
 rintro bX ⟨ie,ig⟩;refine(lZ ig).Y ?_;rintro _ bD _ ⟨⟨ih,ii⟩,o,jD,rfl,ij,jE⟩;rw[bu,bw];have bK:af (λr=>r=g) w bD:=ie.F ih;have jF:=dx.dR bK (l0 h);have f123:=f1.V bK λhe=>b3 he;rw[aT be.p rfl];refine bq (g:=E) (o:=2) au.i rfl rfl f123 Ξ λbd b8 jG bM=>?_;have bM:ag bd E be [aU,d9,Δ o,ck]:=bM;have dk:∀r,r=g->iy w r\/w.heap.size<=r:=λr j=>(l0 h r j).imp (λ⟨e,c,C,a6,a7,_⟩=>⟨e,c,C,a6,a7⟩) id;have bN:∀{G:x4}{c:List x1},ag G E be c->∀r,r=E->iy G r\/G.heap.size<=r:=λC r j=>by subst j;exact .inl ⟨_,_,C,Φ,Φ⟩
 have f224:=eQ (eQ f2 bK dk) b8 (bN f123);have f324:=eQ (eQ f3 bK dk) b8 (bN f123);have eB:=(f4.dR bK dk).dR b8 (bN f123);have bP:=ii.new b8 λr j=>by have j:r=E:=j;omega
 have eD:af (iA g B) w bd:=(bK.Y λr _ h=>.inl h).F (b8.Y λr _ h=>.inr (by have h:r=E:=h;omega));refine(lZ bP).Y ?_;rintro _ O _ ⟨⟨bi,a8⟩,n,jH,rfl,il,eE⟩;rw[bu,bw,su a8];have eF:af (iA g B) w O:=eD.F (bi.Y λr _ h=>.inl h);have im:iz bd B E ⟨scope,co,o,[]⟩:=⟨aU,d9,ck,g1,cM,cN,bM,f224,f324,eB,f5,f6,f7⟩;have eI:=im.dR bi (l0 bP);cases ba:bf (-4611686018427387904) 4611686018427387904 (T0 (λx=>x.snd) (bf 0 4611686018427387904 (R.map (bj (decide (6<ar)||dy co)))))with
 |none=>
  rw[ba]at a8;rw[Option.map_none,Q5,W7,bH];refine ez eI eF a8 ?_;unfold ll;cases Y:bf 0 az (R.map (bj (decide (6<ar)||dy co)))with
  |none=>rfl
  |some p=>
   obtain⟨o',M⟩:=p;have io:bf 0 4611686018427387904 (R.map (bj (decide (6<ar)||dy co)))=σ (o',M):=Y;rw[io]at ba;have e:bl (-az) az M=ν:=ba;simp only;unfold dZ;rw[e]
 |some q=>
 obtain⟨jI,K⟩:=q;have ip:=il _ ba;subst ip;rw[ba]at a8;have a8:bQ O g B H 100000 (σ K):=a8;rw[Y3,S9,X1,aX];obtain⟨M,Y,dl⟩:∃M,bf 0 az (R.map (bj (decide (6<ar)||dy co)))=σ (o,M)/\bl (-az) az M=σ (n,K):=by
  cases Y:bf 0 4611686018427387904 (R.map (bj (decide (6<ar)||dy co)))with
  |none=>rw[Y]at ba;cases ba
  |some p=>
   obtain⟨o',M⟩:=p;have:=ij _ Y;subst this;rw[Y]at ba;exact⟨M,Y,ba⟩
 have b9:ll bc ar scope co R=match dZ co M with
   |none=>ν
   |some (lines,K)=>σ (⟨scope,co,o,lines⟩,if bc=ro then{K with m2:=K.m2++[(co,lines)]}else K):=by
  unfold ll;rw[Y]
 have iq:=(jl dl).1;have ir: -4611686018427387904<=n/\n<=4611686018427387904:=iq;have eJ:dZ co M=(if n<0 then match K.m2[(-n-1).toNat]? with
   |none=>ν
   |some (z,l)=>if z=co then σ (l,K)else ν
  else cT (eN co) n.toNat [] (bj (decide (16384<min (K.m1+n) az)) {K with m1:=min (K.m1+n) az})):=by
  unfold dZ;rw[dl];rfl
 have it:lk K:=by
  cases bS:R with
  |none=>rw[bS]at Y;cases Y
  |some ap=>
   rw[bS]at Y;have dm:bl 0 az (bj (decide (6<ar)||dy co) ap)=σ (o,M):=Y;have cO:=(dH dm).eqs;have ca:=(dH dl).eqs;intro C;rw[ca.2.1,cO.2.1]at C;rw[ca.1,cO.1];exact fj ap bS (U4.1 C).1
 refine cW (λaS=>af (iA g B) w aS/\∃br cc cP bk,ag aS E be [aU,d9,Δ o,br]/\aA .i64 au aS g1 aU scope/\aA .i64 au aS cM d9 co/\lY aS cc br cP/\bQ aS g B H 100000 (σ bk)/\(0<n->cP=[]/\∀r,¬hp br r)/\dZ co M=(if n<=0 then σ (cP,bk)else cT (eN co) n.toNat [] bk)) ?_ ?_
 .rintro aS ⟨iu,br,cc,cP,bk,c9,da,db,dc,dd,eu,ev⟩;refine Qg dd c9 da db dc f5 f6 f7 dz fi ir.2 eu (vb dd).1 λb1 A dn iv eK eL iw cd=>?_;have bT:=iu.F iv;have bs:dn=(dZ co M).map (·.2)/\∀q,dZ co M=σ q->A=q.1:=by
   rw[ev];by_cases dq:n<=0
   .obtain⟨ac,ad⟩:=iw dq;rw[m3 dq];exact⟨ad,λq W=>by cases W;exact ac⟩
   .rw[m5 dq];exact cd Ω
  obtain⟨bs,a2⟩:=bs;cases bc with
  |false=>
   refine cW (λai=>b1=ai) ?_ ?_
   .rintro _ rfl;refine ret eK (df bT) (dh bT) ?_ ?_ cG (λ_ h=>h) (λ_ h=>.inl h) λr j=>by have:=cH r j;have:=bT.size;omega
    .have:(ll rs ar scope co R).map (·.2)=dn:=by
      rw[b9,bs];cases dZ co M with
      |none=>rfl
      |some p=>rfl
     rw[this];exact ew eL.base
    .intro q W;rw[b9]at W;cases am:dZ co M with
     |none=>rw[am]at W;cases W
     |some p=>
      rw[am]at W;have:=a2 p am;cases W;rw[this]
   .intro ay a1;rw[aX];exact a1 _ rfl
  |true=>
   refine cW (λai=>∃S,af (λr=>r=g\/H r\/B<=r) w ai/\iz ai B E ⟨scope,co,o,A⟩/\ag ai N be [.slice ν 0 0,.slice ν 0 0,Δ 0,.slice ν 0 0]/\bQ ai g ai.heap.size S 100001 ((ll ro ar scope co R).map (·.2))/\¬S N/\(∀r,H r->S r)/\(∀r,S r->H r\/B<=r)/\∀r,S r->r<ai.heap.size) ?_ ?_
   .rintro ai ⟨S,ix,iB,a3,a4,a5,iC,iD,iE⟩;refine ret iB a3 ix a4 ?_ a5 iC iD iE;intro q W;rw[b9]at W;cases am:dZ co M with
    |none=>rw[am]at W;cases W
    |some p=>
     rw[am]at W;have:=a2 p am;cases W;rw[this]
   .intro ay a1;rw[bH];intro aq ce _ _;have iF:=eL.W ce;have iG:=eK.W ce;have iH:=(df bT).W ce;obtain⟨b6,w0,av,bh,gs,sv,L,X,ac,ad,bad,aw,big,aB,m1,cQ,bt,bx,an,bz,bm,bB⟩:=id iF;have iI:=bz.g bt bx;obtain⟨⟨iJ,eM⟩,aM,cf,cg⟩:=id iI;have iK:∀r,hp sv r->r<B:=λr j=>cH r (bm r j);rw[aG bG.p 8 an rfl];obtain⟨eO,eP,br,eR,eS,cc,eU,eV,eW,eX,iL,iM,iN⟩:=id iG;let ae:kl:=⟨eO,eP,o,br⟩;let x:cA:=⟨scope,co,o,A⟩;have b5:ik aq ae x:=⟨⟨eR,eV⟩,⟨eS,eW⟩,rfl,cc,eX⟩;rw[bA be.p be.i rfl (show aq.rangeAt E 0 (fE ae)from eU.range)];refine iS (f:=fE) (a:=ae) dC.u be.i Ω rfl rfl λjJ jK aW jL aa iO=>?_;refine⟨.inl aa,?_⟩;have jM:L.length<=100000:=by
     cases dn with
     |none=>exact bB.2
     |some s=>have:=bB.2.2.2.2.2.2.2.2;omega
    have dr:=aM.W aa;refine jo (f:=fE) (a:=ae) dC.u be.i rfl dr (by simpa using iO.sl) (b5.W aa).one Ω Ω λeY iP cL ch iQ eZ=>?_;have ds:=an.W aa;have e0:=ds.V eZ λhe=>cn dr ds Φ he;rw[bL,aT bG.p rfl];refine bq (g:=g) (o:=8) dC.i (dg ch.sl).1 (dg ch.sl).2 e0 (by simp[i7]) λbp dt jN cR=>?_;have cR:ag bp g bG (i7 av ac ad bad aw big aB m1 eY):=cR;have aP:af (λr=>hp sv r\/r=g) aW bp:=(eZ.Y λr _ h=>.inl h).F (dt.Y λr _ h=>.inr h);have cS:∀r,(hp sv r\/r=g)->iy aW r\/aW.heap.size<=r:=λr j=>by
     rcases j with j|rfl
     .obtain⟨rfl,c,C⟩:=eb dr j;exact .inl ⟨_,c,C,Φ,Φ⟩
     .exact .inl ⟨_,_,ds,Φ,Φ⟩
    have e1:∀{ae x},ik aq ae x->ik bp ae x:=λhe=>(he.W aa).dR aP cS;have z50:=ce.size;have jO:=aa.size;have z53:=aP.size;have jP:=bT.size;have jQ:=hX.2;refine a1 _ ⟨λr=>H r\/(aq.heap.size<=r/\r<bp.heap.size),?_,?_,?_,?_,?_,λr j=>.inl j,λr j=>j.imp id λj=>Ω,λr j=>?_⟩
    .refine (((dh bT).F (ce.V _)).F (aa.V _)).F (aP.Y λr _ j=>?_);exact j.elim (λj=>.inr (.inl (bm r j))) .inl
    .have iR:=eU.W aa;refine⟨eO,eP,br,eR,eS,cc,iR.V aP λj=>?_,eQ (eV.W aa) aP cS,eQ (eW.W aa) aP cS,(eX.dR (aa.V λ_=>False) λ_ h=>h.elim).dR aP cS,iL,iM,iN⟩;rcases j with j|j
     .have:=iK _ j;omega
     .exact b3 j
    .exact (iH.W aa).V aP λj=>j.elim (λj=>cG (bm _ j)) et
    .refine⟨Ω,bp,av,bh,iP,eY,L++[ae],X++[x],ac,ad,bad,aw,big,aB,m1,rfl,af.refl _ _,⟨_,cR⟩,cR,⟨⟨?_,λr j=>?_⟩,ch.V dt λr j he=>?_,by rw[r9,r9,cf];rfl,λi iT iU hi ci=>?_⟩,λr j=>?_,?_⟩
     .refine (iJ.V (aa.V λ_=>False) λ_ _ h=>h).V aP λr j J=>?_;obtain⟨c,C⟩:=eM r j;rcases J with J|rfl
      .obtain⟨rfl,iV,du⟩:=eb aM J;exact m6 (eC C du) Φ
      .exact m6 (eC C an) Φ
     .obtain⟨c,C⟩:=eM r j;refine⟨c,(C.W aa).V aP λJ=>?_⟩;rcases J with J|rfl
      .obtain⟨rfl,iV,du⟩:=eb aM J;exact m6 (eC C du) Φ
      .exact m6 (eC C an) Φ
     .have he:r=g:=he;subst he;exact cn ch e0 Φ j
     .by_cases iW:i<L.length
      .rw[Y2 iW]at hi;rw[Y2 Ω]at ci;exact e1 (cg i iT iU hi ci)
      .rw[Z7 Ω]at hi;rw[Z7 Ω]at ci;have iX:i-L.length=0:=by have:=(x5.1 hi).1;simp at this;omega
       have c8:i-X.length=0:=Ω
       rw[iX]at hi;rw[c8]at ci;cases hi;cases ci;exact e1 b5
     .rcases iQ r j with h|h
      .exact .inl (bm r h)
      .have:=(ch.lc j);have:=dt.size;exact .inr ⟨Ω,Ω⟩
     .rw[b9];cases am:dZ co M with
      |none=>
       rw[am]at bs;rw[bs]at bB;exact⟨bB.1,by rw[r9];simp;have:=bB.2;omega⟩
      |some p=>
       obtain⟨lines,bk⟩:=p;rw[am]at bs;rw[bs]at bB;have iY:=a2 _ am;obtain⟨cl,cm,cp,cq,cr,bU,ct,aQ,cU⟩:=id bB;have e2:=EP am;refine⟨cl,cm,cp,cq,cr,bU,ct,?_,?_⟩
       .show (X++[x]).map _=bk.m2++[(co,lines)];rw[Z5,aQ];simp only[x,T3,List.map_nil];rw[iY]
       .have jR:M.m2.length+M.d8.length<=100000:=by
         cases bS:R with
         |none=>rw[bS]at Y;cases Y
         |some ap=>
          rw[bS]at Y h;have dm:bl 0 az (bj (decide (6<ar)||dy co) ap)=σ (o,M):=Y;have t9:=dH dm;have cO:=t9.1;have ca:=t9.eqs.2.2;have t3:=(vb h).2;have e3:(bj (decide (6<ar)||dy co) ap).d8=ap.d8:=rfl;have e4:(bj (decide (6<ar)||dy co) ap).m2=ap.m2:=rfl;rw[e3]at cO;rw[e4]at ca;rw[ca];omega
        have e5:L.length=bk.m2.length:=by rw[<-aQ,u9,cf]
        have iZ:bh.length=bk.d8.length:=by rw[<-bU,u9]
        rw[e2.2]at e5;rw[r9,e5,iZ];simp only[U2];have:=e2.1;omega
    .rintro (j|j)
     .exact cG j
     .omega
    .rcases j with j|j
     .have:=cH r j;omega
     .exact j.2
 .intro ay a1;rw[aR,ak];refine⟨λi0=>?_,λi1=>?_⟩
  .
   refine aV (λv Z=>Ext O Z/\∃b:Bool,v= .bool b/\(b=ro->dZ co M=ν)/\(b=rs->∃lines,dZ co M=σ (lines,K)/\K.m2[(-n-1).toNat]?=σ (co,lines))) ?_ ?_
   .rintro _ Z ⟨bV,b,rfl,i2,i3⟩;have cV:=a8.W bV;have i4:=eI.W bV;have e6:=eF.F (bV.V _);cases b with
    |true=>
     rw[bH];refine(pH cV Ω).Y ?_;rintro _ c3 _ ⟨e7,i5⟩;exact ez (i4.dR e7 (l0 cV)) (e6.F (e7.Y λr _ h=>.inl h)) i5 (by rw[b9,i2 rfl])
    |false=>
     rw[aX];obtain⟨lines,i6,bW⟩:=i3 rfl;obtain⟨b6,w0,av,bh,gs,sv,L,X,ac,ad,bad,aw,big,aB,m1,cQ,bt,bx,an,bz,bm,cl,cm,cp,cq,cr,bU,ct,aQ,cU⟩:=id cV;obtain⟨_,aM,cf,cg⟩:=bz.g bt bx;have cu:(-n-1).toNat<L.length:=by
      have h1:=(x5.1 bW).1;rw[<-aQ,u9]at h1;omega
     obtain⟨hk,cw⟩:∃h,L[(-n-1).toNat]?=σ h:=⟨_,x7 cu⟩;obtain⟨bb,cz⟩:=aF (l:=X) (i:=(-n-1).toNat) Ω;obtain⟨_,_,_,i8,ao⟩:=cg _ hk bb cw cz;have i9:bb.lines=lines:=by
      rw[<-aQ,v8,cz]at bW;have:=Z6 bW;exact(Prod.mk.inj this).2
     rw[aG bG.p 8 an rfl,ni,li Ω Ω,dp,li Ω Ω,b7 (i:=(-n-1).toNat) Ω dC.u be.i aM cu,aT be.p rfl,aD Ψ (aM.range cw 3 _ rfl)];obtain⟨jS,e8,jT,jU⟩:=id ao;have cX:ag Z E be [aU,d9,Δ o,ck]:=(bM.V bi λhe=>b3 he).W bV;have ja:=(eQ f224 bi λr j=>(l0 bP r j).imp (λ⟨e,c,C,a6,a7,_⟩=>⟨e,c,C,a6,a7⟩) id).W bV;have jb:=(eQ f324 bi λr j=>(l0 bP r j).imp (λ⟨e,c,C,a6,a7,_⟩=>⟨e,c,C,a6,a7⟩) id).W bV;rw[aT be.p rfl];refine bq (g:=E) (o:=3) en.i (dg e8.sl).1 (dg e8.sl).2 cX Ξ λem cB jV jc=>?_;refine a1 _ ⟨e6.F (cB.Y λr _ h=>.inr (by have h:r=E:=h;omega)),hk.ck,i8,lines,K,jc,eQ ja cB (bN cX),eQ jb cB (bN cX),?_,cV.new cB λr j=>by have j:r=E:=j;omega,λh=>Ω,by rw[i6,m3 Ω]⟩;rw[<-i9];exact ao.dR cB (bN cX)
   .intro jW e9;intro P cC _ _;have jd:=a8.W cC;obtain⟨b6,w0,av,bh,gs,sv,L,X,ac,ad,bad,aw,big,aB,m1,cQ,bt,bx,an,bz,bm,cl,cm,cp,cq,cr,bU,ct,aQ,cU⟩:=id jd;obtain⟨_,aM,cf,cg⟩:=bz.g bt bx;have jX:K.m2.length=L.length:=by rw[<-aQ,u9,cf]
    have ao:=eJ;rw[m3 i0]at ao;rw[ni,li Ω Ω,aG bG.p 8 an rfl,dE dC.u aM,bO,ak];refine⟨λcd=>e9 _ _ ⟨cC,ro,rfl,λ_=>?_,λh=>by cases h⟩,λcd=>?_⟩
    .rw[ao,Y4 Ω]
    have cu:(-n-1).toNat<L.length:=Ω
    obtain⟨hk,cw⟩:∃h,L[(-n-1).toNat]?=σ h:=⟨_,x7 cu⟩;obtain⟨bb,cz⟩:=aF (l:=X) (i:=(-n-1).toNat) Ω;obtain⟨_,⟨gz,je⟩,_,_⟩:=cg _ hk bb cw cz;have bW:K.m2[(-n-1).toNat]?=σ (bb.co,bb.lines):=by rw[<-aQ,v8,cz];rfl
    rw[bW]at ao;simp only at ao;rw[aG bG.p 8 an rfl,ni,li Ω Ω,dp,li Ω Ω,b7 (i:=(-n-1).toNat) Ω dC.u be.i aM cu,aT be.p rfl,aD Ψ (aM.range cw 1 _ rfl)];have jf:ag P E be [aU,d9,Δ o,ck]:=(bM.V bi λhe=>b3 he).W cC;have jg:=(eQ f324 bi λr j=>(l0 bP r j).imp (λ⟨e,c,C,a6,a7,_⟩=>⟨e,c,C,a6,a7⟩) id).W cC;rw[aL be.p 1 jf rfl];refine(yk je.ls jg.ls).Y ?_;rintro _ c4 _ ⟨rfl,jh⟩;rw[bC];refine e9 _ _ ⟨cC.F jh,_,rfl,λC=>?_,λC=>?_⟩
    .have ji:bb.co≠co:=by simpa using C
     rw[ao,m5 ji]
    .have fa:bb.co=co:=by simpa using C
     exact⟨bb.lines,by rw[ao,m3 fa],by rw[bW,fa]⟩
  .
   have ao:=eJ;rw[m5 i1]at ao;obtain⟨b6,w0,av,bh,gs,sv,L,X,ac,ad,bad,aw,big,aB,m1,cQ,bt,bx,an,bz,bm,cl,cm,cp,cq,cr,bU,ct,aQ,cU⟩:=id a8;rw[aG bG.p 7 an rfl,aO];generalize jj:W6.wrap (m1+n)=bn;have fb:K.big=rs->bn=K.m1+n/\0<=bn:=λC=>by
    obtain⟨e3,e4⟩:=it C;have jk:=cq C;rw[<-jj,jk,li Ω Ω];exact⟨rfl,Ω⟩
   rw[bL,aT bG.p rfl];refine bq (g:=g) (o:=7) au.i rfl rfl an (by simp[i7]) λaI fc jY cD=>?_;have cD:ag aI g bG (i7 av ac ad bad aw big aB bn sv):=cD;refine cW (λaK=>af (λr=>r=g) O aK/\ag aK g bG (i7 av ac ad bad aw big aB (min bn az) sv)) ?_ ?_
   rotate_left
   .intro jZ fd;rw[aG bG.p 7 cD rfl,bO,ak];refine⟨λcd=>?_,λcd=>fd _ ⟨fc,?_⟩⟩
    .rw[bL,aT bG.p rfl];refine bq (g:=g) (o:=7) au.i rfl rfl cD (by simp[i7]) λer jm j0 jn=>?_;refine fd _ ⟨fc.F jm,?_⟩;have e:min bn az=4611686018427387904:=by unfold az;omega
     rw[e];exact jn
    .have e:min bn az=bn:=by unfold az;omega
     rw[e];exact cD
   rintro aK ⟨fe,ff⟩;have jp:bQ aK g B H 100000 (σ {K with m1:=min (K.m1+n) az}):=⟨b6,w0,av,bh,gs,sv,L,X,ac,ad,bad,aw,big,aB,_,cQ,bt.F fe,bx,ff,bz,bm,cl,cm,cp,λC=>by
    have C:K.big=rs:=C;rw[(fb C).1],cr,bU,ct,aQ,cU⟩
   rw[aG bG.p 7 ff rfl,bO];refine(oo jp).Y ?_;rintro _ c5 _ ⟨jr,fg⟩;have js:(σ {K with m1:=min (K.m1+n) az}).map (bj (decide (16384<min bn az)))=σ (bj (decide (16384<min (K.m1+n) az)) {K with m1:=min (K.m1+n) az}):=by
    show σ (bj _ _)=_;congr 1;unfold bj;cases C:K.big with
    |true=>simp
    |false=>rw[(fb C).1]
   rw[js]at fg;have cF:af (λr=>r=g) bd c5:=(bi.F fe).F jr;have dv:∀r,r=g->iy bd r\/bd.heap.size<=r:=λr j=>(l0 bP r j).imp (λ⟨e,c,C,a6,a7,_⟩=>⟨e,c,C,a6,a7⟩) id;have jt:ck= .slice ν 0 0:=by
    have:=fh _ f1;simpa using this
   refine a1 _ ⟨eD.F (cF.Y λr _ h=>.inl h),ck,cN,[],_,bM.V cF λhe=>b3 he,eQ f224 cF dv,eQ f324 cF dv,eB.dR cF dv,fg,λ_=>⟨rfl,λr j=>by rw[jt]at j;exact fq j⟩,?_⟩;rw[ao];by_cases eE:n<=0
   .have:n=0:=Ω
    subst this;rw[m3 (S8 _)];rfl
   .rw[m5 eE]
theorem ES{s:aJ}:dq all s=match bl (-az) az s with
  |none=>ν
  |some (a,s1)=>match ff all.length a.natAbs s1 with
   |none=>ν
   |some (scope,e)=>ll (decide (a<0)) a.natAbs scope (scope.map λv=>all.getD v.toNat 0) (σ e):=by
 unfold dq;cases bl (-az) az s with
 |none=>rfl
 |some q=>
  obtain⟨a,s1⟩:=q;simp only;cases ff all.length a.natAbs s1 with
  |none=>rfl
  |some p=>
   obtain⟨scope,e⟩:=p;simp only;unfold ll;show _=match bl 0 az (bj (decide (6<a.natAbs)||dy (scope.map λv=>all.getD v.toNat 0)) e)with
    |none=>ν
    |some (other,f)=>_
   cases bl 0 az (bj (decide (6<a.natAbs)||dy (scope.map λv=>all.getD v.toNat 0)) e)with
   |none=>rfl
   |some j=>
    obtain⟨o,f⟩:=j;simp only;cases dZ (scope.map λv=>all.getD v.toNat 0) f with
    |none=>rfl
    |some r=>
     obtain⟨ls,w⟩:=r;by_cases h:a<0
     .simp[h]
     .simp[h]
def ym(w:x4)(g:Nat)(H:ah)(e:Option (cA×aJ))(v:x1)(I:x4):Prop:=∃f x a,af (λr=>r=g\/H r) w I/\v= .agg (fE f).toArray/\ik I f x/\bQ I g I.heap.size a 100001 (e.map (·.2))/\(∀q,e=σ q->x=q.1)/\(∀r,H r->a r)/\(∀r,a r->H r\/w.heap.size<=r)/\∀r,a r->r<I.heap.size
theorem ET{k:Nat}{s s':aJ}(h:ff n k s=σ (l,s')):s'.d8.length+l.length<=s.d8.length/\s'.m1=s.m1/\s'.big=s.big/\s'.m2=s.m2/\∀v∈l,0<=v/\v<n:=by
 have:=lR (f:=lT n) (λ(acc:Λ)t=>t.d8.length+acc.length<=s.d8.length/\t.m1=s.m1/\t.big=s.big/\t.m2=s.m2/\∀v∈acc,0<=v/\v<n) (λacc t a bn j e=>by
  unfold lT at e;cases r:bl 0 (n-1) t with
  |none=>rw[r]at e;cases e
  |some q=>
   obtain⟨v,C⟩:=q;rw[r]at e;simp only at e;split at e
   .cases e
   .cases e;have w:=dH r;have E:=(jl r).1;obtain⟨x,z,A⟩:=w.eqs;have t0:=w.1;refine⟨by have:=j.1;rw[r9];simp only[U2];omega,x.F j.2.1,z.F j.2.2.1,A.F j.2.2.2.1,λy p=>?_⟩;rcases j4.1 p with p|p
    .exact j.2.2.2.2 y p
    .rw[j6.1 p];omega) k [] s l s' ⟨Ξ,rfl,rfl,rfl,λv B=>by cases B⟩ h
 exact this.1
theorem Qh{g B0:Nat}{H:ah}{s:aJ}{P:x1}(h:bQ w g B0 H 100000 (σ s))(ae:aA .i64 au w gz P all)(ai:∀z∈all,1<=z/\z<=az)(aS:all.length<=100001)(Q:∀r,H r->r<w.heap.size)(bk:lk s):
  al x8 AP [Γ g,P] w (ym w g H (dq all s)):=by
 have bW:=h.lt;refine aB func123 ?_;refine bB be.i λG U bX R S=>?_;have S:ag U G be [.slice ν 0 0,.slice ν 0 0,Δ 0,.slice ν 0 0]:=S;refine bB be.i λM aa bY W Y=>?_;have Y:ag aa M be [.slice ν 0 0,.slice ν 0 0,Δ 0,.slice ν 0 0]:=Y;have h1:=(h.W R).base;have aj:=h1.W W;have bZ:=R.size;have aT:=S.lt;have b0:=Y.lt;refine(lZ aj).Y ?_;rintro _ E _ ⟨⟨Z,j⟩,a,b1,rfl,am,an⟩;rw[bu,bw,aR];have bm:M≠g:=Ω
 have ap:G≠g:=Ω
 have aq:=Y.V Z λhe=>bm he;have av:=(S.W W).V Z λhe=>ap he;have aW:aA .i64 au E gz P all:=bs ((ae.W R).W W) Z λr e he=>by
  have he:r=g:=he;obtain⟨aX,B,K,bad,aY,big,aZ,m1,sv,ac,_⟩:=jq h;subst he;exact b8 ae ac Φ e rfl
 have a1:∀r,lc P r->r<U.heap.size:=λr e=>by obtain⟨B,K⟩:=bV ae e;omega
 have aw:iz E U.heap.size M ⟨[],[],0,[]⟩:=⟨_,_,_,0,0,0,aq,aA.nil _ _ _ _,aA.nil _ _ _ _,⟨[],bh.nil _ _ _ _ _,λy bn=>(by cases bn),rfl⟩,(λr e=>by rcases e with⟨a,n,c,B,K⟩|⟨a,n,c,B,K⟩<;>cases B),(λr e=>by obtain⟨a,n,c,B,K⟩:=e;cases B),Ω⟩;have ax:∀c,ag E M be c->c[3]?=σ (.slice ν 0 0):=λc aC=>by
  unfold ag at aC aq;rw[aq]at aC;have:=Array.toList_inj.2 (Obj.cells.inj (Z6 aC)).1;simp at this;rw[<-this];rfl
 have a2:af (λr=>r=g) U E:=(W.V _).F Z;have b2:U.heap.size<=E.heap.size:=a2.size;have aD:∀{f:x4}{aE:Option (cA×aJ)}{v:x1}{I:x4},af (iA g U.heap.size) E f->aE=dq all s->EQ f g G U.heap.size H aE v I->ym w g H (dq all s) v I:=by
  rintro f aE v I C rfl ⟨O,x,bo,aF,aG,aI,aK,a6,a7,a8,bp⟩;refine⟨O,x,bo,?_,aG,aI,aK,a6,a7,λr e=>(a8 r e).imp id λh=>Ω,bp⟩;refine iO (iO ((R.V _).F (a2.Y λr _ h=>.inl h)) C λr e he=>?_) aF λr e he=>?_
  .exact he.elim .inl λhe=>Ω
  .rcases he with he|he|he|he
   .exact .inl he
   .exact .inr he
   .omega
   .omega
 have bq:∀{f:x4}{x:cA},af (iA g U.heap.size) E f->dq all s=ν->bQ f g U.heap.size H 100000 ν->iz f U.heap.size M x->
   (ab x8 (u5 be (Γ M)) f λbr=>
    aH x8 (n9 be (Γ G) br) f λ(_:Unit)ba=>
    ab x8 (do loadVar be (<-asAddr (Γ G))) ba λbt=>ym w g H (dq all s) bt ba):=by
  intro f x C bb aL bx;obtain⟨aU,d9,ck,g1,bz,bC,aF,aG,aI,aK,a6,a7,a8⟩:=bx;let O:kl:=⟨aU,d9,x.other,ck⟩;have bc:ik f O x:=⟨⟨g1,aG⟩,⟨bz,aI⟩,rfl,bC,aK⟩;have aM:=av.V C λJ=>J.elim ap λh=>Ω
  rw[bA be.p be.i rfl (show f.rangeAt M 0 (fE O)from aF.range)];refine b4 (vs:=fE O) be.i rfl rfl bc.one aM λb3 aN b5 bD=>?_;rw[fP be.p be.i rfl bD.range];have bE:∀r,r=G->iy f r\/f.heap.size<=r:=λr e=>by subst e;exact .inl ⟨_,_,aM,Φ,Φ⟩
  have b6:=C.size;refine aD C rfl ⟨O,x,H,aN.Y λr _ h=>.inr (.inr (.inl h)),rfl,bc.dR aN bE,?_,(λq A=>by rw[bb]at A;cases A),λ_ h=>h,λ_ h=>.inl h,λr e=>by have:=Q r e;omega⟩;rw[bb];have bF:bQ f g U.heap.size H 100001 ν:=by
   obtain⟨b7,w0,aX,bG,gs,sv,L,X,B,K,bad,aY,big,aZ,m1,h1,aj,j,bH,bI,aO,bd⟩:=aL;exact⟨Ω,w0,aX,bG,gs,sv,L,X,B,K,bad,aY,big,aZ,m1,h1,aj,j,bH,bI,aO,bd.1,by have:=bd.2;omega⟩
  refine bF.dR aN λr e=>.inl ?_;have e:r=G:=e;subst e;exact⟨_,_,aM,Φ,Φ,Φ,Φ,λao=>by have:=Q _ ao;omega⟩
 have N:=ES (all:=all) (s:=s);have bJ:bf (-4611686018427387904) 4611686018427387904 (σ s)=bl (-az) az s:=rfl;rw[bJ]at j am an;have b9: -4611686018427387904<=a/\a<=4611686018427387904:=by
  cases A:bl (-az) az s with
  |none=>have:=an A;omega
  |some q=>have:=am q A;rw[this];exact(jl A).1
 refine aV (λv bK=>E=bK/\v=Δ (a.natAbs:Int)) ?_ ?_
 rotate_left
 .intro ay bg;rw[ak];refine⟨λca=>?_,λcb=>bg _ _ ⟨rfl,by congr 1;omega⟩⟩;rw[ni,li Ω Ω];exact bg _ _ ⟨rfl,by congr 1;omega⟩
 rintro _ _ ⟨rfl,rfl⟩;have bi:∀r,H r->r<U.heap.size:=λr e=>by have:=Q r e;omega
 have bj:¬H G:=λao=>by have:=Q _ ao;omega
 have bL:∀{scope:Λ},(∀v∈scope,0<=v/\v<(all.length:Int))->∀z∈scope.map (λv=>all.getD v.toNat 0),1<=z/\z<=az:=λbM z bN=>by
  obtain⟨v,bO,rfl⟩:=j0.1 bN;have:=bM v bO;refine ai _ ?_;rw[u4,x7 Ω];exact Q4 _
 cases A:bl (-az) az s with
 |none=>
  rw[A]at j N;have bP:=an A;subst bP;refine EO (s:=s) (ar:=(0:Int).natAbs) j (.inr ⟨rfl,rfl⟩) aw ax aW a1 aS Φ (λh=>by cases h) ?_ ?_ ?_
  .intro h;cases h
  .intro _;exact ER j aw ax (λz ai=>by cases ai) Ξ av aT bj bi (λbR J=>by cases J) λv I aP=>aD (af.refl _ _) (by rw[N];rfl) aP
  .intro h;cases h
 |some q=>
  obtain⟨a',s1⟩:=q;rw[A]at j N;have:=am _ A;subst this;simp only at N;have j:bQ E g U.heap.size H 100000 (σ s1):=j;have bS:=dH A;refine EO j (.inl rfl) aw ax aW a1 aS Ω (λ_=>(vb j).1) ?_ ?_ ?_
  .intro _ f x C ad aL aQ;exact bq C (by rw[N,ad]) aL aQ
  .intro h;cases h
  .intro _ f scope s' C ad aO aQ bT;obtain⟨cc,bU,t3,t4,t5⟩:=ET ad;rw[ad]at N;obtain⟨B,K,cd⟩:=bS.eqs;refine ER aO aQ bT (bL t5) ?_ (av.V C λJ=>J.elim ap λh=>Ω) aT bj bi (λbR J=>?_) λv I aP=>aD C N.symm aP
   .rw[u9];have:=(vb j).1;omega
   .cases J;intro ac;rw[t3,K]at ac;rw[bU,B];exact bk ac
theorem Qi{s s':aJ}{l:List (Λ×Int)}(h:dZ co s=σ (l,s'))(p:lk s):lk s':=by
 unfold dZ at h;cases f:bl (-az) az s with
 |none=>rw[f]at h;cases h
 |some q=>
  obtain⟨n,s1⟩:=q;obtain⟨r,w,t3⟩:=(dH f).eqs;have j:lk s1:=λe=>by rw[r];exact p (by rw[<-w];exact e)
  rw[f]at h;simp only at h;split at h
  .split at h
   .cases h
   .split at h
    .cases h;exact j
    .cases h
  .rename_i F;have aW:=h;have:=lR (λ_ t=>lk t) (λacc t a bn x y=>by
    obtain⟨_,_,_,z⟩:=qv y;obtain⟨A,B,G⟩:=z.eqs;intro e;rw[A];exact x (by rw[<-B];exact e)) n.toNat [] (bj (decide (16384<min (s1.m1+n) az)) {s1 with m1:=min (s1.m1+n) az}) l s' (λe=>by
     obtain⟨C,E⟩:=U4.1 e;have H:=j C;have I:=of_decide_eq_false E;show 0<=min (s1.m1+n) az/\min (s1.m1+n) az<=16384;unfold az at*;omega) aW
   exact this.1
theorem Qj{s s':aJ}{x:cA}(h:dq all s=σ (x,s')):s'.d8.length+1<=s.d8.length/\(lk s->lk s'):=by
 rw[ES]at h;cases r:bl (-az) az s with
 |none=>rw[r]at h;cases h
 |some q=>
  obtain⟨a,s1⟩:=q;rw[r]at h;simp only at h;have A:=dH r;cases J:ff all.length a.natAbs s1 with
  |none=>rw[J]at h;cases h
  |some p=>
   obtain⟨scope,f⟩:=p;rw[J]at h;simp only at h;obtain⟨T,F,t3,_⟩:=ET J;unfold ll at h;have e:bf 0 az ((σ f).map (bj (decide (6<a.natAbs)||dy (scope.map λv=>all.getD v.toNat 0))))=bl 0 az (bj (decide (6<a.natAbs)||dy (scope.map λv=>all.getD v.toNat 0)) f):=rfl;rw[e]at h;cases w:bl 0 az (bj (decide (6<a.natAbs)||dy (scope.map λv=>all.getD v.toNat 0)) f)with
   |none=>rw[w]at h;cases h
   |some G=>
    obtain⟨o,B⟩:=G;rw[w]at h;simp only at h;have C:=dH w;cases j:dZ (scope.map λv=>all.getD v.toNat 0) B with
    |none=>rw[j]at h;cases h
    |some H=>
     obtain⟨ls,y⟩:=H;rw[j]at h;simp only[X4,S7]at h;obtain⟨_,I⟩:=h;have U:=EP j;have K:(bj (decide (6<a.natAbs)||dy (scope.map λv=>all.getD v.toNat 0)) f).d8=f.d8:=rfl;have L:=C.1;rw[K]at L;have V:=A.1;obtain⟨M,N,_⟩:=A.eqs;obtain⟨f1,f2,_⟩:=C.eqs;have z:s'.d8=y.d8/\s'.m1=y.m1/\s'.big=y.big:=by
      rw[<-I];split<;>exact⟨rfl,rfl,rfl⟩
     refine⟨by rw[z.1];omega,λO=>?_⟩;have P:lk B:=λE=>by
      rw[f2]at E;rw[f1];have Q:=(U4.1 E).1;show 0<=f.m1/\f.m1<=16384;rw[F,M];exact O (by rw[<-N,<-t3];exact Q)
     have R:=Qi j P;intro S;rw[z.2.1];exact R (by rw[<-z.2.2];exact S)
theorem bQ.shrink{g:Nat}{H:ah}{so:Option aJ}(h:bQ w g B H N so):∃a,bQ w g B a N so/\(∀r,a r->H r)/\∀r,a r->∃c,ag w r be c:=by
 obtain⟨s,w0,x,y,gs,sv,L,X,z,A,bad,C,big,E,m1,h1,f,j,F,p,G,I⟩:=h;refine⟨λr=>hp sv r,⟨s,w0,x,y,gs,sv,L,X,z,A,bad,C,big,E,m1,h1,f,j,F,p,λr e=>e,I⟩,G,λr e=>?_⟩;obtain⟨rfl,c,q⟩:=eb p.2.1 e;refine⟨c,q.V f λhe=>?_⟩;obtain⟨K,J⟩:=j;subst he;exact m6 (eC q J) Φ
theorem bQ.low{g:Nat}{H:ah}{s:aJ}(h:bQ w g B H N (σ s)):bQ w g B H 100000 (σ s):=by
 obtain⟨E,w0,a,e,gs,sv,L,X,f,j,bad,p,big,q,m1,h1,r,x,y,z,A,C⟩:=h;exact⟨p8 _,w0,a,e,gs,sv,L,X,f,j,bad,p,big,q,m1,h1,r,x,y,z,A,C⟩
theorem bQ.up{g M:Nat}{H:ah}{so:Option aJ}(h:bQ w g B H N so)(E:N<=M):bQ w g B H M so:=by
 obtain⟨F,w0,e,f,gs,sv,L,X,j,p,bad,q,big,r,m1,h1,x,y,z,A,C,a⟩:=h;refine⟨Ω,w0,e,f,gs,sv,L,X,j,p,bad,q,big,r,m1,h1,x,y,z,A,C,?_⟩;cases so with
 |none=>exact⟨a.1,by have:=a.2;omega⟩
 |some s=>exact a
def mK{α:Type}(f:List α->aJ->Option (α×aJ))(cnt i:Nat)(a:Option aJ)(A:List α)(so:Option aJ):Prop:=a.bind (cT f cnt [])=(match so with
 |none=>ν
 |some s=>cT f (cnt-i) A s)
theorem mK.step{α:Type}{f:List α->aJ->Option (α×aJ)}{cnt i:Nat}{j:Option aJ}{A:List α}{s:aJ}{a:α}{p:Option aJ}(h:mK f cnt i j A (σ s))(hi:i<cnt)(h1:p=(f A s).map (·.2))(r:∀q,f A s=σ q->a=q.1):mK f cnt (i+1) j (A++[a]) p:=by
 unfold mK at*;rw[h,show cnt-i=(cnt-(i+1))+1 by omega];simp only;cases e:f A s with
 |none=>rw[qy e,h1,e];rfl
 |some q=>
  obtain⟨a',s'⟩:=q;have:=r _ e;subst this;rw[ul e,h1,e];rfl
theorem Qk{s0:aJ}{acc:Λ}{most p:Int}{X:List cA}{x y z A K so6 e:Option aJ}(h1:x=((dY s0).map (·.2)).map (bj (decide (64<t.length))))(N:∀q,dY s0=σ q->t=q.1)(r:y=((bf 1 az x).map (·.2)).map (bj (decide (64<n))))(L:∀q,bf 1 az x=σ q->n=q.1)(h:z=(bf 1 az y).map (·.2))(hm:∀q,bf 1 az y=σ q->most=q.1)(f:A=((bf 0 az z).map (·.2)).map (bj (decide (256<p))))(M:∀q,bf 0 az z=σ q->p=q.1)(a:K=((bf 1 az A).map (·.2)).map (bj (decide (2147483648<k))))(hk:∀q,bf 1 az A=σ q->k=q.1)(w:K.bind (cT (gL most) n.toNat [])=so6.map λs=>(acc,s))(j:so6.bind (cT (λ_ s=>dq acc s) p.toNat [])=e.map λs=>(X,s)):jA s0=e.map λs=>(⟨t,k,acc,X⟩,s):=by
 unfold jA;cases F:dY s0 with
 |none=>
  rw[F]at h1;subst h1;subst r;subst h;subst f;subst a;have:so6=ν:=by cases so6 with|none=>rfl|some s=>cases w
  subst this;cases e with|none=>rfl|some s=>cases j
 |some O=>
 obtain⟨bn,s1⟩:=O;have:=N _ F;subst this;rw[F]at h1;have h1:x=σ (bj (decide (64<t.length)) s1):=h1;subst h1;simp only;have P:bf 1 az (σ (bj (decide (64<t.length)) s1))=bl 1 az (bj (decide (64<t.length)) s1):=rfl;rw[P]at r L;cases G:bl 1 az (bj (decide (64<t.length)) s1)with
 |none=>
  rw[G]at r;subst r;subst h;subst f;subst a;have:so6=ν:=by cases so6 with|none=>rfl|some s=>cases w
  subst this;cases e with|none=>rfl|some s=>cases j
 |some Q=>
 obtain⟨aa,B⟩:=Q;have:=L _ G;subst this;rw[G]at r;have r:y=σ (bj (decide (64<n)) B):=r;subst r;simp only;have R:bf 1 az (σ (bj (decide (64<n)) B))=bl 1 az (bj (decide (64<n)) B):=rfl;rw[R]at h hm;cases H:bl 1 az (bj (decide (64<n)) B)with
 |none=>
  rw[H]at h;subst h;subst f;subst a;have:so6=ν:=by cases so6 with|none=>rfl|some s=>cases w
  subst this;cases e with|none=>rfl|some s=>cases j
 |some S=>
 obtain⟨bP,C⟩:=S;have:=hm _ H;subst this;rw[H]at h;have h:z=σ C:=h;subst h;simp only;have T:bf 0 az (σ C)=bl 0 az C:=rfl;rw[T]at f M;cases I:bl 0 az C with
 |none=>
  rw[I]at f;subst f;subst a;have:so6=ν:=by cases so6 with|none=>rfl|some s=>cases w
  subst this;cases e with|none=>rfl|some s=>cases j
 |some U=>
 obtain⟨ab,E⟩:=U;have:=M _ I;subst this;rw[I]at f;have f:A=σ (bj (decide (256<p)) E):=f;subst f;simp only;have V:bf 1 az (σ (bj (decide (256<p)) E))=bl 1 az (bj (decide (256<p)) E):=rfl;rw[V]at a hk;cases J:bl 1 az (bj (decide (256<p)) E)with
 |none=>
  rw[J]at a;subst a;have:so6=ν:=by cases so6 with|none=>rfl|some s=>cases w
  subst this;cases e with|none=>rfl|some s=>cases j
 |some W=>
 obtain⟨ac,Y⟩:=W;have:=hk _ J;subst this;rw[J]at a;have a:=a;subst a;simp only;have w:cT (gL most) n.toNat [] (bj (decide (2147483648<k)) Y)=so6.map λs=>(acc,s):=w;rw[w];cases so6 with
 |none=>cases e with|none=>rfl|some s=>cases j
 |some Z=>
  simp only[Y3];have j:cT (λ_ s=>dq acc s) p.toNat [] Z=e.map λs=>(X,s):=j;rw[j];cases e<;>rfl
def qO(w:x4)(gr:Nat)(a:x1)(X:List cA):Prop:=∃L,bh fE 4 be w gr a L/\X.length=L.length/\∀(i:Nat)h x,L[i]?=σ h->X[i]?=σ x->ik w h x
def pI(w:x4)(e:Nat)(f:b5):Prop:=∃d9 gz a gr,ag w e ek [b6 f.name,Δ f.k,d9,a]/\aA .i64 au w gz d9 f.co/\qO w gr a f.d7
theorem qO.W{gr:Nat}{a:x1}{X:List cA}(h:qO w gr a X)(e:Ext w I):qO I gr a X:=by
 obtain⟨L,h1,f,j⟩:=h;exact⟨L,h1.W e,f,λi ao x hi p=>(j i ao x hi p).W e⟩
theorem pI.W{e:Nat}{f:b5}(h:pI w e f)(a:Ext w I):pI I e f:=by
 obtain⟨d9,gz,j,gr,h1,p,q⟩:=h;exact⟨d9,gz,j,gr,h1.W a,p.W a,q.W a⟩
def Ql(w:x4)(pl:Λ)(v:x1)(I:x4):Prop:=Ext w I/\∃n e:Int,(gZ pl=ν->v= .tuple #[.pointer ν,Δ n,Δ e])/\∀f,gZ pl=σ f->∃a,v= .tuple #[Γ a,Δ n,Δ e]/\pI I a f
theorem Qm{w0:x4}{g y:Nat}{so6:Option aJ}{acc:Λ}{O bad:Int}{p:x1}{Q:x1->x4->Prop}(c5:af (λr=>w0.heap.size<=r) w0 w)(bX:ag w y ek [b6 t,Δ k,d9,.slice ν 0 0])(c6:aA .i64 au w gz d9 acc)(h:bQ w g B bW 100000 so6)(c7:∀s,so6=σ s->lk s/\s.d8.length<=100000/\(∀z∈acc,1<=z/\z<=az)/\acc.length<=100001)(e7:w0.heap.size<=g)(e8:w0.heap.size<=y)(ac:aM .u8 w0 p pl)(e9:0<=O/\O<=4611686018427387904)(bj:∀v I X bk,Ext w0 I->so6.bind (cT (λ_ s=>dq acc s) O.toNat [])=bk.map (λs=>(X,s))->
   (∀s,bk=σ s->s.d8=[]/\¬0<=bad/\s.big=rs->v= .tuple #[Γ y,Δ (pl.length:Int),Δ 0]/\pI I y ⟨t,k,acc,X⟩)->
   ((∀s,bk=σ s->¬(s.d8=[]/\¬0<=bad/\s.big=rs))->∃n e:Int,v= .tuple #[.pointer ν,Δ n,Δ e])->Q v I):
  bZ (Δ 0) w λbY A c8=>
   cv (α:=x1->x4->Prop) (λ(da:x1)(K:x4)=>
    Split da (eH K λE=>
   ab x8 (bR (Γ y)) E λaE=>
   ab x8 (u7 ek aE 3) E λaF=>
   ab x8 (u5 dC aF) E λbl=>
   ab x8 (bR (Γ y)) E λdb=>
   ab x8 (u7 ek db 2) E λdc=>
   ab x8 (u5 ax dc) E λdd=>
   al x8 AP [(Γ g),dd] E λde ae=>
    (Ext E ae\/cE x8 (u5 dC aF) bl ae/\cE x8 (u7 ek aE 3) aF ae/\cE x8 (bR (Γ y)) aE ae/\True)/\
   aH x8 (X2 dC 1 #[(0,de)]) ae λdf P=>
    (Ext E P\/cE x8 (u5 dC aF) bl P/\cE x8 (u7 ek aE 3) aF P/\cE x8 (bR (Γ y)) aE P/\True)/\
    aH x8 (Y0 #[dC,dC] dC #[bl,df]) P λdh aW=>
     ab x8 (bR (Γ y)) aW λdi=>
     ab x8 (u7 ek di 3) aW λdj=>
     aH x8 (n9 dC dj dh) aW λ(_:Unit)aZ=>
     ab x8 (aN .add au rs ro bY (Δ 1)) aZ λdk=>
   c8 dk aZ)
     (cv (α:=x4->Prop) (λ(N:x4)=>
   cv (α:=x4->Prop) (λ(C:x4)=>
    ab x8 (bR (Γ g)) C λdl=>
    ab x8 (u7 bG dl 3) C λdm=>
    ab x8 (u5 aj dm) C λdn=>
    ab x8 (aN .neq aj rs ro dn (Δ 0)) C λdp=>
    Split dp (eH C λY=>
     ab x8 (bR (Γ g)) Y λdr=>
     ab x8 (u7 bG dr 4) Y λds=>
     ab x8 (u5 aj ds) Y λdt=>
     ab x8 (bR (Γ g)) Y λdu=>
     ab x8 (u7 bG du 3) Y λdv=>
     ab x8 (u5 aj dv) Y λdw=>
     Q (.tuple #[(.pointer ν),dt,dw]) Y)
     (ab x8 (bR (Γ g)) C λdx=>
    ab x8 (u7 bG dx 5) C λdy=>
    ab x8 (u5 aj dy) C λdz=>
    ab x8 (aN .neq aj rs ro dz (Δ 0)) C λdA=>
    Split dA (eH C λZ=>
     ab x8 (bR (Γ g)) Z λdD=>
     ab x8 (u7 bG dD 6) Z λdE=>
     ab x8 (u5 aj dE) Z λdF=>
     ab x8 (bR (Γ g)) Z λdG=>
     ab x8 (u7 bG dG 5) Z λdH=>
     ab x8 (u5 aj dH) Z λdI=>
     Q (.tuple #[(.pointer ν),dF,dI]) Z)
     (ab x8 (V7 #[cQ] aj #[p]) C λdJ=>
    Q (.tuple #[(Γ y),dJ,(Δ 0)]) C))) λb0=>
   cv (α:=x1->x4->Prop) (λ(dK:x1)(a1:x4)=>
    Split dK (al x8 oV [(Γ g),(Δ 11),(Δ bad)] a1 λfa b1=>
     b0 b1)
     (b0 a1)) λb2=>
   ab x8 (bR (Γ g)) N λdL=>
   ab x8 (u7 bG dL 3) N λdM=>
   ab x8 (u5 aj dM) N λdN=>
   ab x8 (aN .eql aj rs ro dN (Δ 0)) N λdO=>
   Split dO (ab x8 (aN .geq aj rs ro (Δ bad) (Δ 0)) N λdP=>
   b2 dP N)
    (b2 (.bool rs) N)) λb3=>
  cv (α:=x1->x4->Prop) (λ(dQ:x1)(R:x4)=>
   Split dQ (ab x8 (bR (Γ g)) R λdS=>
    ab x8 (u7 bG dS 0) R λdT=>
    ab x8 (u5 fA dT) R λdU=>
    ab x8 (Z0 fA dU (Δ 0)) R λdV=>
    ab x8 (u7 cw dV 1) R λdW=>
    ab x8 (u5 aj dW) R λdX=>
    al x8 oV [(Γ g),(Δ 4),dX] R λfb bm=>
    b3 bm)
    (b3 R)) λb4=>
  ab x8 (bR (Γ g)) K λdY=>
  ab x8 (u7 bG dY 3) K λdZ=>
  ab x8 (u5 aj dZ) K λea=>
  ab x8 (aN .eql aj rs ro ea (Δ 0)) K λec=>
  Split ec (ab x8 (bR (Γ g)) K λed=>
  ab x8 (u7 bG ed 0) K λee=>
  ab x8 (u5 fA ee) K λef=>
  ab x8 (V7 #[fA] aj #[ef]) K λeg=>
  ab x8 (aN .gtr aj rs ro eg (Δ 0)) K λeh=>
  b4 eh K)
   (b4 (.bool rs) K))) λb5=>
   ab x8 (aN .lss au rs rs bY (Δ O)) A λei=>
   Split ei (ab x8 (bR (Γ g)) A λej=>
   ab x8 (u7 bG ej 3) A λem=>
   ab x8 (u5 aj em) A λen=>
   ab x8 (aN .eql aj rs ro en (Δ 0)) A λeo=>
   b5 eo A)
    (b5 (.bool rs) A):=by
 have b7:y≠g:=λhe=>by
  obtain⟨ai,aa,ad,bad,am,big,an,m1,sv,f,_⟩:=jq h;subst he;exact m6 (eC f bX) Φ
 refine⟨λbn A=>∃i:Nat,bn=Δ (i:Int)/\i<=O.toNat/\af (λr=>w0.heap.size<=r) w0 A/\∃M gr X so,∃H:ah,ag A y ek [b6 t,Δ k,d9,M]/\aA .i64 au A gz d9 acc/\qO A gr M X/\(∀r,hp M r->w0.heap.size<=r/\¬H r)/\¬H y/\(∀r,lc d9 r->¬H r)/\(∀r,H r->w0.heap.size<=r)/\bQ A g A.heap.size H 100001 so/\mK (λ_ s=>dq acc s) O.toNat i so6 X so/\
   ∀s,so=σ s->lk s/\X.length+s.d8.length<=100000/\(∀z∈acc,1<=z/\z<=az)/\acc.length<=100001,λbn _=>O.toNat-(bU bn).toNat,
  ⟨0,rfl,X7 _,c5,_,0,[],so6,bW,bX,c6,⟨[],bh.nil _ _ _ _ _,rfl,λi h x hi=>by simp at hi⟩,λr a=>(fq a).elim,id,λr _ h=>h,λr h=>h.elim,h.base.up Ω,?_,λs J=>?_⟩,?_⟩
 .unfold mK;cases so6<;>rfl
 .obtain⟨ep,er,a3,a4⟩:=c7 s J;exact⟨ep,by simpa using er,a3,a4⟩
 rintro _ A ⟨i,rfl,hi,a2,M,gr,X,so,H,b8,b9,ca,aI,bo,es,cb,W,bp,et⟩;refine aV (λv K=>A=K/\((v= .bool ro/\i<O.toNat/\∃s,so=σ s)\/(v= .bool rs/\(so=ν\/i=O.toNat)))) ?_ ?_
 rotate_left
 .intro ay br;rw[aR,ak];refine⟨λcc=>?_,λfc=>br _ _ ⟨rfl,.inr ⟨rfl,.inr Ω⟩⟩⟩;rw[mJ W];cases so with
  |none=>exact br _ _ ⟨rfl,.inr ⟨rfl,.inl rfl⟩⟩
  |some s=>exact br _ _ ⟨rfl,.inl ⟨rfl,Ω,s,rfl⟩⟩
 rintro _ _ ⟨rfl,⟨rfl,cc,s,rfl⟩|⟨rfl,eu⟩⟩
 .
  rw[bH];intro E ap _ _;obtain⟨cd,fd,ce,cf⟩:=et s rfl;have aK:=b8.W ap;obtain⟨ev,cg,aL,ch⟩:=(W.W ap).low.shrink;have bs:=b9.W ap;have ew:=ca.W ap;rw[aG ek.p 3 aK rfl,aG ek.p 2 aK rfl];refine(Qh cg bs ce cf (λr a=>by obtain⟨c,f⟩:=ch r a;exact f.lt) cd).Y ?_;rintro _ ae _ ⟨ey,x,ci,aq,rfl,ck,ez,eA,fe,cl,eB⟩;have cm:∃c,ag E g bG c:=by obtain⟨ai,aa,ad,bad,am,big,an,m1,sv,f,_⟩:=jq cg;exact⟨_,f⟩
  have cp:∀r,(r=g\/ev r)->iy E r\/E.heap.size<=r:=λr a=>by
   rcases a with rfl|a
   .obtain⟨c,f⟩:=cm;exact .inl ⟨_,c,f,Φ,Φ⟩
   .obtain⟨c,f⟩:=ch r a;exact .inl ⟨_,c,f,Φ,Φ⟩
  have bt:=aK.V aq λa=>a.elim (λhe=>b7 he) λa=>bo (aL _ a);have st:∀{I:x4},ag I y ek [b6 t,Δ k,d9,M]->cE x8 (u5 dC (.pointer (σ ⟨y,0+3,ν⟩))) M I/\cE x8 (u7 ek (Γ y) 3) (.pointer (σ ⟨y,0+3,ν⟩)) I/\cE x8 (bR (Γ y)) (Γ y) I/\True:=λf=>
   ⟨kD Ψ (f.cell rfl),iT (by rw[aT ek.p rfl]),iT (by rw[bL]),trivial⟩
  refine⟨.inr (st bt),?_⟩;refine iS dC.u be.i Ω rfl rfl λff fg P fh S eD=>?_;refine⟨.inr (st (bt.W S)),?_⟩;obtain⟨L,av,bu,bw⟩:=id ew;have eE:=av.V aq λr a J=>J.elim (λhe=>by
   obtain⟨c,f⟩:=cm;subst he;exact cn av f Φ a) λJ=>(aI r a).2 (aL r J)
  have bx:=eE.W S;refine jo dC.u be.i rfl bx (by simpa using eD.sl) (ck.W S).one Ω Ω λeF eI aW a6 eJ cq=>?_;have bz:=bt.W S;have cr:=bz.V cq λhe=>cn bx bz Φ he;rw[bL,aT ek.p rfl];refine bq (g:=y) (o:=3) dC.i (dg a6.sl).1 (dg a6.sl).2 cr Ξ λaZ ct fi bA=>?_;have bA:=bA;have fj:i<=4611686018427387904:=Ω
  rw[aO,li Ω Ω];have aw:af (λr=>hp M r\/r=y) P aZ:=(cq.Y λr _ h=>.inl h).F (ct.Y λr _ h=>.inr h);have cu:∀r,(hp M r\/r=y)->∃e c,ag P r e c/\e≠au/\e≠cj/\e≠cw/\e≠bG:=λr a=>by
   rcases a with a|rfl
   .obtain⟨rfl,c,f⟩:=eb bx a;exact⟨_,c,f,Φ,Φ,Φ,Φ⟩
   .exact⟨_,_,bz,Φ,Φ,Φ,Φ⟩
  have bB:∀r,(hp M r\/r=y)->iy P r\/P.heap.size<=r:=λr a=>by
   obtain⟨e,c,f,bC,bD,_⟩:=cu r a;exact .inl ⟨e,c,f,bC,bD⟩
  have fk:=ap.size;have fm:=aq.size;have fo:=S.size;have fp:=aw.size;have cz:∀r,hp M r->r<E.heap.size:=λr a=>by obtain⟨aa,ad⟩:=av.lc a;omega
  have aP:∀r,r<E.heap.size->¬H r->¬ci r:=λr a eK bE=>(cl r bE).elim (λh=>eK (aL r h)) λh=>Ω
  have eL:∀r,lc d9 r->r<E.heap.size:=λr a=>by obtain⟨aa,ad⟩:=bV bs a;omega
  refine⟨⟨i+1,rfl,Ω,?_,eF,eI,X++[x],_,ci,bA,eQ ((eQ bs aq cp).W S) aw bB,⟨L++[ey],a6.V ct λr a he=>?_,by rw[r9,r9,bu];rfl,λj cA eM aB aQ=>?_⟩,λr a=>?_,aP y aK.lt bo,λr a=>aP r (eL r a) (es r a),λr a=>?_,?_,bp.step cc rfl λq G=>eA q G,λs' U=>?_⟩,by simp only[bU];omega⟩
  .refine (((a2.F (ap.V _)).F (aq.Y λr _ h=>?_)).F (S.V _)).F (aw.Y λr _ h=>?_)
   .exact h.elim (λh=>Ω) λh=>cb r (aL r h)
   .exact h.elim (λh=>(aI r h).1) λh=>Ω
  .have he:r=y:=he;subst he;exact cn a6 cr Φ a
  .by_cases eN:j<L.length
   .rw[Y2 eN]at aB;rw[Y2 Ω]at aQ;exact(((bw j cA eM aB aQ).dR aq cp).W S).dR aw bB
   .rw[Z7 Ω]at aB;rw[Z7 Ω]at aQ;have eO:j-L.length=0:=by have:=(x5.1 aB).1;simp at this;omega
    have eP:j-X.length=0:=Ω
    rw[eO]at aB;rw[eP]at aQ;cases aB;cases aQ;exact(ck.W S).dR aw bB
  .rcases eJ r a with h|h
   .exact⟨(aI r h).1,aP r (cz r h) (aI r h).2⟩
   .exact⟨by have:=a2.size;omega,λbE=>by have:=eB r bE;omega⟩
  .rcases cl r a with h|h
   .exact cb r (aL r h)
   .have:=a2.size;omega
  .refine (ez.W S).dR aw λr a=>.inl ?_;obtain⟨e,c,f,bC,bD,eR,eS⟩:=cu r a;refine⟨e,c,f,bC,bD,eR,eS,?_⟩;rcases a with a|rfl
   .exact aP r (cz r a) (aI r a).2
   .exact aP _ aK.lt bo
  .cases bI:dq acc s with
   |none=>rw[bI]at U;cases U
   |some q=>
    obtain⟨fs,cB⟩:=q;rw[bI]at U;cases U;obtain⟨ft,eU⟩:=Qj bI;refine⟨eU cd,?_,ce,cf⟩;rw[r9];simp only[U2];omega
 .
  rw[aX];have bJ:so6.bind (cT (λ_ s=>dq acc s) O.toNat [])=so.map λs=>(X,s):=by
   unfold mK at bp;rw[bp];cases so with
   |none=>rfl
   |some s=>
    rcases eu with h|rfl
    .cases h
    .simp only[W8];rfl
  have row:∀{I:x4},af (λr=>r=g) A I->qO I gr M X/\ag I y ek [b6 t,Δ k,d9,M]/\aA .i64 au I gz d9 acc:=λa7=>by
   obtain⟨ai,aa,ad,bad,am,big,an,m1,sv,f,_⟩:=jq W;have cC:∀r,r=g->iy A r\/A.heap.size<=r:=λr a=>by subst a;exact .inl ⟨_,_,f,Φ,Φ⟩
   obtain⟨L,av,bu,bw⟩:=id ca;refine⟨⟨L,av.V a7 λr a he=>?_,bu,λi h x hi eV=>(bw i h x hi eV).dR a7 cC⟩,b8.V a7 λhe=>b7 he,eQ b9 a7 cC⟩;have he:r=g:=he;subst he;exact cn av f Φ a
  refine cW (λN=>af (λr=>r=g) A N/\bQ N g A.heap.size H 100001 (so.bind λs=>if s.d8=[]then σ s else ν)) ?_ ?_
  rotate_left
  .intro fu cD;refine aV (λv R=>A=R/\∃b:Bool,v= .bool b/\(b=ro->∃s,so=σ s/\s.d8≠[])/\(b=rs->∀s,so=σ s->s.d8=[])) ?_ ?_
   .rintro _ _ ⟨rfl,b,rfl,bK,bM⟩;cases b with
    |true=>
     obtain⟨s,rfl,a8⟩:=bK rfl;rw[bH];obtain⟨cF,cG,ai,aS,gs,sv,L,cI,aa,ad,bN,am,big,an,m1,cJ,ba,bb,aC,bc,cK,cL,cM,bd,cN,cO,bf,cP,cR,cS⟩:=id W;obtain⟨⟨bP,eW⟩,_⟩:=bc.g ba bb;obtain⟨x,fv,rfl⟩:∃x l,aS=x::l:=by
      cases aS with
      |nil=>exact m6 bf.symm (by simpa using a8)
      |cons x l=>exact⟨x,l,rfl⟩
     rw[aG bG.p 0 aC rfl];refine EK bP λb o eX=>?_;rw[aT cw.p rfl,aD Ψ (eX 1 _ rfl)];refine(pH W Ω).Y ?_;rintro _ bm _ ⟨eY,eZ⟩;refine cD _ ⟨eY,?_⟩;show bQ bm g _ H 100001 (if s.d8=[]then σ s else ν);rw[m5 a8];exact eZ
    |false=>
     rw[aX];refine cD _ ⟨af.refl _ _,?_⟩;cases so with
     |none=>exact W
     |some s=>
      show bQ _ g _ H 100001 (if s.d8=[]then σ s else ν);rw[m3 (bM rfl s rfl)];exact W
   .intro fw cU;rw[mJ W];cases so with
    |none=>
     rw[Q5,aX];exact cU _ _ ⟨rfl,rs,rfl,(λh=>by cases h),λ_ s J=>by cases J⟩
    |some s=>
     rw[S9,bH];obtain⟨cF,cG,ai,aS,gs,sv,L,cI,aa,ad,bN,am,big,an,m1,cJ,ba,bb,aC,bc,cK,cL,cM,bd,cN,cO,bf,cP,cR,cS⟩:=id W;obtain⟨⟨bP,eW⟩,_⟩:=bc.g ba bb;rw[aG bG.p 0 aC rfl,EJ bP,bO];have fx:aS.length=s.d8.length:=by rw[<-bf,u9]
     refine cU _ _ ⟨rfl,_,rfl,λh=>⟨s,rfl,λaU=>?_⟩,λh s' U=>?_⟩
     .have:=rc h;have cA:s.d8.length=0:=by rw[aU];rfl
      omega
     .cases U;have:=of_decide_eq_false h;exact c9 Ω
  rintro N ⟨cV,bS⟩;refine cW (λC=>af (λr=>r=g) A C/\bQ C g A.heap.size H 100001 (so.bind λs=>if s.d8=[]/\¬0<=bad then σ s else ν)) ?_ ?_
  rotate_left
  .intro fy cX;refine aV (λv a1=>N=a1/\∃b:Bool,v= .bool b/\(b=ro->(so.bind λs=>if s.d8=[]/\¬0<=bad then σ s else ν)=ν)/\(b=rs->(so.bind λs=>if s.d8=[]/\¬0<=bad then σ s else ν)=so.bind λs=>if s.d8=[]then σ s else ν)) ?_ ?_
   .rintro _ _ ⟨rfl,b,rfl,bK,bM⟩;cases b with
    |true=>
     rw[bH];refine(pH bS Ω).Y ?_;rintro _ b1 _ ⟨e0,e1⟩;exact cX _ ⟨cV.F e0,by rw[bK rfl];exact e1⟩
    |false=>
     rw[aX];exact cX _ ⟨cV,by rw[bM rfl];exact bS⟩
   .intro fz cY;rw[mJ bS];cases G:(so.bind λs=>if s.d8=[]then σ s else ν)with
    |none=>
     rw[Q5,aX];refine cY _ _ ⟨rfl,rs,rfl,(λh=>by cases h),λ_=>?_⟩;cases so with
     |none=>rfl
     |some s=>
      have G:(if s.d8=[]then σ s else ν)=ν:=G;show(if s.d8=[]/\¬0<=bad then σ s else ν)=(if s.d8=[]then σ s else ν);rw[G];split at G
      .cases G
      .rename_i a8;rw[m5 (λh=>a8 h.1)]
    |some s=>
     rw[S9,bH,cH];refine cY _ _ ⟨rfl,_,rfl,λh=>?_,λh=>?_⟩
     .have aU:=rc h;cases so with
      |none=>rfl
      |some s=>exact m5 λh=>h.2 aU
     .have aU:=of_decide_eq_false h;cases so with
      |none=>rfl
      |some s=>
       show(if s.d8=[]/\¬0<=bad then σ s else ν)=(if s.d8=[]then σ s else ν);by_cases J:s.d8=[]
       .rw[m3 J,m3 ⟨J,aU⟩]
       .rw[m5 J,m5 λh=>J h.1]
  rintro C ⟨cZ,bg⟩;obtain⟨e2,e3,e4⟩:=row cZ;have e5:af (λr=>w0.heap.size<=r) w0 C:=a2.F (cZ.Y λr _ h=>by have h:r=g:=h;omega);have bi:=e5.W λr a he=>Ω
  rw[su bg];cases G:(so.bind λs=>if s.d8=[]/\¬0<=bad then σ s else ν)with
  |none=>
   rw[Q5,W7,bH];intro Y c0 _ _;obtain⟨ai,aa,ad,bN,am,big,an,m1,sv,f,_⟩:=jq (bg.W c0);rw[aG bG.p 4 f rfl,aG bG.p 3 f rfl];refine bj _ _ X so (bi.F c0) bJ (λs J ao=>?_) λ_=>⟨_,_,rfl⟩;subst J;have G:(if s.d8=[]/\¬0<=bad then σ s else ν)=ν:=G;rw[m3 ⟨ao.1,ao.2.1⟩]at G;cases G
  |some s=>
   rw[G]at bg;rw[S9,X1,aX];obtain⟨s',rfl,U⟩:∃s',so=σ s'/\(if s'.d8=[]/\¬0<=bad then σ s' else ν)=σ s:=by
    cases so with
    |none=>cases G
    |some s'=>exact⟨s',rfl,G⟩
   split at U
   .rename_i c1;cases U;obtain⟨cF,cG,ai,aS,gs,sv,L,cI,aa,ad,bN,am,big,an,m1,cJ,ba,bb,aC,bc,cK,cL,cM,bd,cN,cO,bf,cP,cR,cS⟩:=id bg;rw[aG bG.p 5 aC rfl,bF,ak];refine⟨λbT=>?_,λbT=>?_⟩
    .intro Z c2 _ _;have c3:=aC.W c2;rw[aG bG.p 6 c3 rfl,aG bG.p 5 c3 rfl];refine bj _ _ X _ (bi.F c2) bJ (λcB c4 ao=>?_) λ_=>⟨_,_,rfl⟩;cases c4;rw[bd.1 bT]at ao;cases ao.2.2
    .rw[aY cQ.u (ac.W bi)];refine bj _ _ X _ bi bJ (λcB c4 ao=>⟨rfl,d9,gz,M,gr,e3,e4,e2⟩) λe6=>?_;refine m6 ⟨c1.1,c1.2,?_⟩ (e6 s rfl);cases f:s.big with
     |false=>rfl
     |true=>exact m6 (bd.2 f) bT
   .cases U
def Zero(so:Option aJ):Prop:=∀s,so=σ s->s.m1=0/\s.d8.length<=100000
theorem Zero.big{so:Option aJ}(h:Zero so)(b:Bool):Zero (so.map (bj b)):=λs J=>by
 cases so with
 |none=>cases J
 |some s0=>cases J;exact h s0 rfl
theorem zero_num{lo hi:Int}{so:Option aJ}(h:Zero so):Zero ((bf lo hi so).map (·.2)):=λs J=>by
 cases so with
 |none=>cases J
 |some s0=>
  have J:T0 (λx=>x.2) (bl lo hi s0)=σ s:=J;cases a:bl lo hi s0 with
  |none=>rw[a]at J;cases J
  |some q=>
   obtain⟨n,s1⟩:=q;rw[a]at J;cases J;have e:=dH a;have:=e.1;obtain⟨h1,f⟩:=h s0 rfl;exact⟨e.eqs.1.F h1,by show s1.d8.length<=100000;omega⟩
theorem Qn{so:Option aJ}(h:Zero so):Zero ((kJ so).map (·.2)):=λs J=>by
 cases so with
 |none=>cases J
 |some s0=>
  have J:T0 (λx=>x.2) (dY s0)=σ s:=J;cases a:dY s0 with
  |none=>rw[a]at J;cases J
  |some q=>
   obtain⟨n,s1⟩:=q;rw[a]at J;cases J;obtain⟨U,aa⟩:=ue a;obtain⟨h1,e⟩:=h s0 rfl;have:s0.d8.length=s1.d8.length+1:=by rw[U];rfl
   exact⟨by show s1.m1=0;rw[aa];exact h1,by show s1.d8.length<=100000;omega⟩
theorem Qo{so:Option aJ}{f:b5}(h:jA ⟨(lex pl).1,0,rs,[]⟩=so.map λs=>(f,s))(a:¬65536<pl.length):gZ pl=so.bind λs=>if s.d8=[]/\(lex pl).2=ro/\s.big=rs then σ f else ν:=by
 unfold gZ;rw[m5 a,h]<;>cases so<;>rfl
theorem Qp(a:pl.length<=60000):(∀t∈(lex pl).1,Bytes t/\t.length<=65536)/\(lex pl).1.length<=60000:=by
 refine⟨λt e=>?_,Y9 (rv pl.length pl (p8 _)) a⟩;obtain⟨_,f,j⟩:=tS pl.length pl (p8 _) t e;refine⟨λb h=>?_,Ω⟩;have:=rc (f b h);omega
theorem EU{p:x1}(ac:aM .u8 w p pl)(cr:Bytes pl)(ct:pl.length<=60000):al x8 Iq [p] w (Ql w pl):=by
 obtain⟨cu,dN⟩:=Qp ct;refine aB func60 ?_;rw[aY cQ.u ac,bO,ak];refine⟨λh=>Ω,λ_=>?_⟩;refine(P9 ac cr Ω).Y ?_;rintro _ U _ ⟨aI,aq,be,bad,rfl,bg,bi,cz,dO,bk⟩;rw[bu,bw,aY cQ.u (ac.W aI),di (cs:=#[aq,Δ (pl.length:Int),Δ 4,Δ 0,Δ 0,Δ 0,Δ 0,Δ 0,.slice ν 0 0]) (by obtain⟨_,_,_,_,_,rfl,_⟩:=bg;kernel_rfl)];refine bo λg aa dP av Y=>?_;have Y:ag aa g bG (i7 aq (pl.length:Int) 4 0 0 0 0 0 (.slice ν 0 0)):=Y;have dQ:=aI.size;have dR:=av.size;have dS:=Y.lt;refine cW (λC=>Ext w C/\af (λr=>r=g) aa C/\∃Z ab:Int,ab≠0/\ag C g bG (i7 aq Z ab 0 0 0 0 0 (.slice ν 0 0))) ?_ ?_
 rotate_left
 .intro ay S;have bm:=aI.F av;rw[cH,ak];refine⟨λ_=>?_,λ_=>S _ ⟨bm,af.refl _ _,_,_,Ω,Y⟩⟩;rw[bL,aT bG.p rfl];refine bq (g:=g) (o:=1) aj.i rfl rfl Y (by simp[i7]) λdT cA dU cB=>?_;rw[bL,aT bG.p rfl];refine bq (g:=g) (o:=2) aj.i rfl rfl cB (by simp[i7]) λdV cC dW cD=>?_;have E:=cA.F cC;exact S _ ⟨bm.then E λr j he=>by have he:r=g:=he;omega,E,bad,11,Ω,cD⟩
 rintro C ⟨bn,aK,Z,ab,cE,bp⟩;have z3:=aK.size;have cF:bQ C g C.heap.size bW 100000 (σ ⟨(lex pl).1,0,rs,[]⟩):=by
  refine⟨p8 _,C,aq,be,0,_,[],[],Z,ab,0,0,0,0,0,rfl,af.refl _ _,⟨_,bp⟩,bp,⟨⟨?_,λr j=>?_⟩,bh.nil _ _ _ _ _,rfl,λi h x hi=>by simp at hi⟩,λr j=>fq j,rfl,cE,Ξ,λ_=>rfl,trivial,bi,cu,rfl,?_⟩
  .refine (bg.V (av.V λ_=>False) λ_ _ h=>h).V aK λr j he=>?_;have he:r=g:=he;obtain⟨c,O⟩:=bk r j;have:=O.lt;omega
  .obtain⟨c,O⟩:=bk r j;exact⟨c,(O.W av).V aK λhe=>by have he:r=g:=he;have:=O.lt;omega⟩
  .have:be.length=(lex pl).1.length:=by rw[<-bi,u9]
   simp only[Q7];omega
 have dX:∀{R:x4}{cG N:Nat}{H:ah}{so:Option aJ},bQ R g cG H N so->True:=λ_=>trivial;rw[di (cs:=#[b6 [],Δ 0,.slice ν 0 0,.slice ν 0 0]) Ψ];refine bo λB cI dY aN aw=>?_;have aw:ag cI B ek [b6 [],Δ 0,.slice ν 0 0,.slice ν 0 0]:=aw;have dZ:C.heap.size<=B:=Ω
 have ea:=aw.lt;have cJ:B≠g:=Ω
 have K:∀{R ad:x4}{c:List x1},ag R B ek c->af (λr=>r=g) R ad->ag ad B ek c:=λO E=>O.V E λhe=>cJ he;refine(EL (cF.W aN)).Y ?_;rintro _ cK _ ⟨⟨aP,cL⟩,t,br,rfl,eb,ec,cM⟩;refine bB cw.i λbt ed ee cN cO=>?_;refine b4 (vs:=[b6 t,Δ br]) cw.i rfl rfl (by intro v bx;simp at bx;rcases bx with rfl|rfl<;>rfl) cO λcP cR ef bz=>?_;have aC:Ext cK cP:=cN.put cR Ω;have cS:=(K aw aP).W aC;rw[aL cw.p 0 bz rfl,bL,aT ek.p rfl];refine bq (g:=B) (o:=0) c6.i rfl rfl cS Ξ λbA aQ eg aS=>?_;have aS:=aS;have cU:=(cL.W aC).new aQ λr j=>by have j:r=B:=j;omega
 have z4:=aN.size;have z5:=aP.size;have eh:=aC.size;have bC:ag bA bt cw [b6 t,Δ br]:=bz.V aQ λhe=>by have he:bt=B:=he;omega
 rw[aL cw.p 0 bC rfl,po c6.u,bO,aL cw.p 1 bC rfl];have cV:af (λr=>w.heap.size<=r) w bA:=((((bn.V _).F (aN.V _)).F (aP.Y λr _ h=>by have h:r=g:=h;omega)).F (aC.V _)).F (aQ.Y λr _ h=>by have h:r=B:=h;omega);have up:∀{R ad:x4},af (λr=>w.heap.size<=r) w R->af (λr=>r=g) R ad->af (λr=>w.heap.size<=r) w ad:=λh k=>h.F (k.Y λr _ h=>by have h:r=g:=h;omega);refine(oo cU).Y ?_;rintro _ ei _ ⟨bD,ae⟩;have cX:=up cV bD;have cY:=K aS bD;generalize aU:(((kJ (σ ⟨(lex pl).1,0,rs,[]⟩)).map (·.2)).map (bj (decide ((64:Int)<(t.length:Int)))))=aW at ae;refine(lZ ae).Y ?_;rintro _ ej _ ⟨⟨bE,cZ⟩,n,em,rfl,bF,c0⟩;rw[bu,bw,bO];refine(oo cZ).Y ?_;rintro _ en _ ⟨bI,bJ⟩;have c1:=up (up cX bE) bI;have c2:=K (K cY bE) bI;generalize bK:((bf 1 4611686018427387904 aW).map (·.2)).map (bj (decide (64<n)))=aZ at bJ;refine(lZ bJ).Y ?_;rintro _ eo _ ⟨⟨bM,bN⟩,most,ep,rfl,hm,c3⟩;rw[bu,bw];generalize bP:(bf 1 4611686018427387904 aZ).map (·.2)=a1 at bN;refine(lZ bN).Y ?_;rintro _ er _ ⟨⟨bR,c4⟩,a2,es,rfl,bS,c5⟩;rw[bu,bw,bO];refine(oo c4).Y ?_;rintro _ et _ ⟨bT,bV⟩;generalize bX:((bf 0 4611686018427387904 a1).map (·.2)).map (bj (decide (256<a2)))=bY at bV;refine(lZ bV).Y ?_;rintro _ eu _ ⟨⟨bZ,c7⟩,k,ev,rfl,hk,ew⟩;rw[bu,bw,bO];refine(oo c7).Y ?_;rintro _ ey _ ⟨b0,b1⟩;generalize b2:((bf 1 4611686018427387904 bY).map (·.2)).map (bj (decide (2147483648<k)))=ai at b1;have c8:=up (up (up (up (up c1 bM) bR) bT) bZ) b0;have c9:=K (K (K (K (K c2 bM) bR) bT) bZ) b0;rw[bL,aT ek.p rfl];refine bq (g:=B) (o:=1) au.i rfl rfl c9 Ξ λda b3 ez a6=>?_;have a6:=a6;have db:=b1.new b3 λr j=>by have j:r=B:=j;omega
 have b5:af (λr=>w.heap.size<=r) w da:=c8.F (b3.Y λr _ h=>by have h:r=B:=h;omega);have eA:0<=n/\n<=4611686018427387904:=by
  cases A:bf 1 4611686018427387904 aW with
  |none=>have:=c0 A;omega
  |some q=>have ae:=bF q A;have:=oe A;omega
 have eC:0<=most/\most<=4611686018427387904:=by
  cases A:bf 1 4611686018427387904 aZ with
  |none=>have:=c3 A;omega
  |some q=>have ae:=hm q A;have:=oe A;omega
 have dc:0<=a2/\a2<=4611686018427387904:=by
  cases A:bf 0 4611686018427387904 a1 with
  |none=>have:=c5 A;omega
  |some q=>have ae:=bS q A;have:=oe (s':=q.2) A;omega
 have dd:Zero (σ (⟨(lex pl).1,0,rs,[]⟩:aJ)):=λs J=>by cases J;exact⟨rfl,by simp only;omega⟩
 have de:Zero aW:=by rw[<-aU];exact(Qn dd).big _
 have df:Zero aZ:=by rw[<-bK];exact(zero_num de).big _
 have dg:Zero a1:=by rw[<-bP];exact zero_num df
 have dh:Zero bY:=by rw[<-bX];exact(zero_num dg).big _
 have b7:Zero ai:=by rw[<-b2];exact(zero_num dh).big _
 have eD:=b5.size;refine⟨λa7 P=>∃i:Nat,a7=Δ (i:Int)/\i<=n.toNat/\af (λr=>w.heap.size<=r) w P/\∃d9 gz acc so,ag P B ek [b6 t,Δ k,d9,.slice ν 0 0]/\aA .i64 au P gz d9 acc/\(∀r,lc d9 r->C.heap.size<=r)/\bQ P g C.heap.size bW 100000 so/\mK (gL most) n.toNat i ai acc so/\∀s,so=σ s->s.m1=0/\acc.length+s.d8.length<=100000/\∀z∈acc,1<=z/\z<=az,λa7 _=>n.toNat-(bU a7).toNat,
  ⟨0,rfl,X7 _,b5,_,0,[],ai,a6,aA.nil _ _ _ _,(λr j=>by obtain⟨a,aD,c,Z,ab⟩:=j;cases Z),db,?_,λs J=>⟨(b7 s J).1,by simpa using(b7 s J).2,λz dj=>by cases dj⟩⟩,?_⟩
 .unfold mK;cases ai<;>rfl
 rintro _ P ⟨i,rfl,hi,a8,d9,gz,acc,so,b9,ca,cb,am,ba,cc⟩;refine aV (λv dk=>P=dk/\((v= .bool ro/\i<n.toNat/\∃s,so=σ s)\/(v= .bool rs/\(so=ν\/i=n.toNat)))) ?_ ?_
 rotate_left
 .intro ay S;rw[aR,ak];refine⟨λcd=>?_,λeE=>S _ _ ⟨rfl,.inr ⟨rfl,.inr Ω⟩⟩⟩;rw[mJ am];cases so with
  |none=>exact S _ _ ⟨rfl,.inr ⟨rfl,.inl rfl⟩⟩
  |some s=>exact S _ _ ⟨rfl,.inl ⟨rfl,Ω,s,rfl⟩⟩
 rintro _ _ ⟨rfl,⟨rfl,cd,s,rfl⟩|⟨rfl,dl⟩⟩
 .rw[bH];obtain⟨dm,eF,dn⟩:=cc s rfl;refine(lZ am).Y ?_;rintro _ eH _ ⟨⟨dp,dq⟩,z,eI,rfl,bb,eJ⟩;rw[bu,bw,bO];refine(oo dq).Y ?_;rintro _ eK _ ⟨dr,ds⟩;have aE:=dp.F dr;have ce:=K b9 aE;have dt:∀r,r=g->iy P r\/P.heap.size<=r:=λr j=>(l0 am r j).imp (λ⟨e,c,O,du,dv,_⟩=>⟨e,c,O,du,dv⟩) id;have cf:=eQ ca aE dt;rw[aG ek.p 2 ce rfl];refine eB ax.u au.i rfl λa22 eL dw eM W dx=>?_;refine ii ax.u au.i rfl (cf.W W) dx.ls Θ Θ λdy dz eN aF dA cg=>?_;have ch:=ce.W W;have ci:=ch.V cg λhe=>b8 (cf.W W) ch Φ he rfl;rw[bL,aT ek.p rfl];refine bq (g:=B) (o:=2) ax.i aF.ls.cells.1 aF.ls.cells.2 ci Ξ λdC cj eO bc=>?_;have bc:=bc;rw[aO,li Ω Ω];have ck:af (λr=>lc d9 r\/r=B) dw dC:=(cg.Y λr _ h=>.inl h).F (cj.Y λr _ h=>.inr h);have cl:∀r,(lc d9 r\/r=B)->C.heap.size<=r:=λr j=>j.elim (cb r) λj=>Ω
  have eP:=bn.size;have eR:=aE.size;have z22:=W.size;have eS:=a8.size;have eU:=am.lt;refine⟨⟨i+1,rfl,Ω,((up a8 aE).F (W.V _)).F (ck.Y λr _ h=>by have:=cl r h;omega),dy,dz,acc++[z],((bf 1 most (σ s)).map (·.2)).map (bj (decide (32<z))),bc,bs aF cj λr j he=>?_,λr j=>?_,(ds.W W).new ck cl,?_,λs' L=>?_⟩,by simp only[bU];omega⟩
  .have he:r=B:=he;subst he;exact b8 aF ci Φ j rfl
  .rcases dA r j with h|h
   .exact cb r h
   .omega
  .refine ba.step cd ?_ λq A=>?_
   .show (T0 _ (bl 1 most s)).map _=_;unfold gL;cases A:bl 1 most s with
    |none=>rfl
    |some q=>
     have:=bb q A;obtain⟨cm,aH⟩:=q;subst this;rfl
   .unfold gL at A;cases M:bl 1 most s with
    |none=>rw[M]at A;cases A
    |some an=>
     rw[M]at A;have:=bb an M;obtain⟨cm,aH⟩:=an;cases A;exact this
  .cases M:bl 1 most s with
   |none=>
    have L:(T0 (λx=>x.2) (bl 1 most s)).map (bj (decide (32<z)))=σ s':=L;rw[M]at L;cases L
   |some an=>
    have L:(T0 (λx=>x.2) (bl 1 most s)).map (bj (decide (32<z)))=σ s':=L;rw[M]at L;have dD:=bb an M;obtain⟨cm,aH⟩:=an;cases L;have cn:=dH M;have fF:=(jl M).1;have eV:=cn.1;refine⟨by show aH.m1=0;rw[cn.eqs.1];exact dm,?_,λy ap=>?_⟩
    .rw[r9];show acc.length+1+aH.d8.length<=100000;omega
    .rcases j4.1 ap with ap|ap
     .exact dn y ap
     .rw[j6.1 ap,dD];exact⟨fF.1,by unfold az;have:=fF.2;simp only at*;omega⟩
 .rw[aX];have dE:ai.bind (cT (gL most) n.toNat [])=so.map λs=>(acc,s):=by
   unfold mK at ba;rw[ba];cases so with
   |none=>rfl
   |some s=>
    rcases dl with h|rfl
    .cases h
    .simp only[W8];rfl
  refine Qm a8 b9 ca am (λs J=>?_) Ω Ω ac dc λv I X dF bd dG dI cp=>?_
  .obtain⟨dJ,eW,a3⟩:=cc s J;exact⟨λ_=>by rw[dJ];omega,Ω,a3,Ω⟩
  .have dK:(decide ((64:Int)<(t.length:Int)))=decide (64<t.length):=by rw[U9,ne,ne];omega
   rw[dK]at aU;have dL:=Qk aU.symm (λq A=>cM q A) bK.symm bF bP.symm hm bX.symm bS b2.symm hk dE dG;have Q:=Qo dL Ω;have cq:¬0<=bad↔(lex pl).2=ro:=by
    rw[cz];cases (lex pl).2<;>simp
   cases dF with
   |none=>
    obtain⟨aD,e,rfl⟩:=cp λs J=>by cases J
    exact⟨bd,aD,e,λ_=>rfl,λf G=>by rw[Q]at G;cases G⟩
   |some s=>
    have Q:gZ pl=if s.d8=[]/\(lex pl).2=ro/\s.big=rs then σ ⟨t,k,acc,X⟩else ν:=Q;by_cases E:s.d8=[]/\(lex pl).2=ro/\s.big=rs
    .rw[m3 E]at Q;obtain⟨rfl,dM⟩:=dI s rfl ⟨E.1,cq.2 E.2.1,E.2.2⟩;exact⟨bd,_,_,(λG=>by rw[Q]at G;cases G),λf G=>⟨B,rfl,by rw[Q]at G;cases G;exact dM⟩⟩
    .rw[m5 E]at Q;obtain⟨aD,e,rfl⟩:=cp λs' L ao=>by
      cases L;exact E ⟨ao.1,cq.1 ao.2.1,ao.2.2⟩
     exact⟨bd,aD,e,λ_=>rfl,λf G=>by rw[Q]at G;cases G⟩
theorem EV{a b:Int}:al x8 J6 [Δ a,Δ b] w λv I=>v=Δ (min a b)/\Ext w I:=by
 refine aB func209 ?_;rw[aR,ak];exact⟨λh=>⟨by congr 1;omega,Ext.refl _⟩,λh=>⟨by congr 1;omega,Ext.refl _⟩⟩
theorem Qq{s:kl}{x:cA}(h:ik w s x)(O:(x.lines.map (·.1)).Nodup)(P:aM .i64 w aS t):al x8 KC [.agg (fE s).toArray,aS,Δ k] w λv I=>v=Δ (k7 x k t)/\Ext w I:=by
 obtain⟨⟨g1,Q⟩,⟨aq,R⟩,S,au,L,f,V,E⟩:=id h;refine aB func259 ?_;refine bo λW U av z a=>?_;have a:ag U W be (fE s):=by
  obtain⟨_,_,_,X⟩:=dr Q.ls;obtain⟨_,_,_,Y⟩:=dr R.ls;obtain⟨_,_,_,_,_,Z,_⟩:=f.sl;simp only[fE,X,Y,Z]at a ⊢;exact a
 have ab:=f.W z;have ac:L.length=x.lines.length:=by rw[<-E,u9]
 rw[aL be.p 2 a rfl,aL be.p 3 a rfl,dE en.u ab,S];refine cb.range L.length (λi j aa=>Ext U aa/\∃c:Int,j=Δ c/\min c k=mC x k i t) f.le ⟨Ext.refl _,x.other,rfl,(DG x k t).symm⟩ ?_ ?_
 .rintro i _ aa ad hi ⟨e,c,rfl,q⟩ ae;obtain⟨y,A⟩:=aF (l:=L) hi;obtain⟨gy,G⟩:=V y (x6 A);have B:=z.F e;have af:x.lines[i]?=σ (y.t,y.c):=by rw[<-E,v8,A];rfl
  have H:=DI (k:=k) O af t;refine bI Ω ?_;refine aV (λj J=>Ext U J/\∃c:Int,j=Δ c/\min c k=mC x k (i+1) t) ?_ ?_
  .rintro j J ah;rw[aO];exact ae _ _ ah
  intro ay K;have M:=f.W B;rw[b7 rfl en.u cj.i M hi,bA cj.p cj.i rfl (M.range A)];refine bB cj.i λan aw ax ai aj=>?_;refine b4 (vs:=pG y) cj.i rfl rfl (yl G) aj λaz am aA N=>?_;have r:=ai.put am Ω;rw[aL cj.p 0 N rfl];refine(yk ((G.ls.W B).W r) ((P.W B).W r)).Y ?_;rintro _ aC _ ⟨rfl,C⟩;rw[ak];refine⟨λhe=>?_,λao=>?_⟩
  .rw[aL cj.p 1 (N.W C) rfl];refine K _ _ ⟨(e.F r).F C,y.c,rfl,?_⟩;rw[H,m3 he.symm]
  .refine K _ _ ⟨(e.F r).F C,c,rfl,?_⟩;rw[H,m5 λhe=>ao he.symm,q]
 .rintro _ aa ad ⟨e,c,rfl,q⟩;rw[ac,DH]at q;refine cc Ω ?_;refine EV.Y ?_;rintro _ aD _ ⟨rfl,ap⟩;exact⟨by rw[q],(z.F e).F ap⟩
theorem Qr{cL:x1}(h:aM .i64 w cL l)(L:l.Nodup)(ah:l.length<=64):al x8 KB [cL] w λv I=>Ext w I/\∃g,aA .i64 aj I g v (bx l)/\∀r,lc v r->w.heap.size<=r:=by
 refine aB func258 ?_;have M:∀i,i<=64->(((W3 i).map λ(v:Nat)=>(v:Int)).filter λv=>decide (v∈l)).length<=i:=λi _=>by
  have:=Q8 (λv=>decide (v∈l)) ((W3 i).map λ(v:Nat)=>(v:Int));simp at this;omega
 refine cb.range 64 (λi e U=>Ext w U/\∃g,aA .i64 aj U g e (((W3 i).map λ(v:Nat)=>(v:Int)).filter λv=>decide (v∈l))/\∀r,lc e r->w.heap.size<=r) Ω ⟨Ext.refl _,0,aA.nil _ _ _ _,λr y=>by obtain⟨a,n,c,N,ai⟩:=y;cases N⟩ ?_ ?_
 .rintro i e U k hi ⟨z,g,hm,C⟩ hk;refine bI Ω ?_;rw[aY ax.u (h.W z)];have O:=M i Ω;generalize P:(((W3 i).map λ(v:Nat)=>(v:Int)).filter λv=>decide (v∈l))=A at hm O;refine cb.range l.length (λj e aa=>Ext w aa/\∃g,aA .i64 aj aa g e (A++(if(i:Int)∈l.take j then[(i:Int)]else[]))/\∀r,lc e r->w.heap.size<=r) h.le ⟨z,g,by simpa using hm,C⟩ ?_ ?_
  .rintro j Q aa R S ⟨q,E,f,s⟩ V;obtain⟨x,G⟩:=aF (l:=l) S;refine bI Ω ?_;refine aV (λe B=>Ext w B/\∃g,aA .i64 aj B g e (A++(if(i:Int)∈l.take (j+1)then[(i:Int)]else[]))/\∀r,lc e r->w.heap.size<=r) ?_ ?_
   .rintro am B W;rw[aO];exact V _ _ W
   intro ay K;have H:(i:Int)∈l.take (j+1)↔(i:Int)∈l.take j\/(i:Int)=x:=by
    rw[r8,G,o9,j4,j6]
   rw[bi ax.u au.i Ψ (h.W q) G,bk,ak];refine⟨λhe=>?_,λX=>?_⟩
   .have Y:(i:Int)∉l.take j:=λhm=>by
     obtain⟨p,ac⟩:=X6.1 hm;have Z:p<j:=by have:=(x5.1 ac).1;rw[o8]at this;omega
     rw[Y7 Z,<-he]at ac;have:=lU L ac G;omega
    rw[m5 Y,W5]at f;refine eB aq.u aj.i rfl λa3 an B ap J ab=>?_;refine ii aq.u aj.i rfl (f.W J) ab.ls Θ Θ λav ad aw ae af ag=>?_;have az:=q.size;have z3:=J.size;refine K _ _ ⟨(q.F J).then ag λr y he=>by have:=s r he;omega,ad,?_,λr y=>(af r y).elim (s r) λh=>Ω⟩;rw[m3 (H.2 (.inr he.symm))];exact ae
   .refine K _ _ ⟨q,E,?_,s⟩;have:((i:Int)∈l.take (j+1))=((i:Int)∈l.take j):=propext ⟨λao=>(H.1 ao).resolve_right λhe=>X he.symm,λao=>H.2 (.inl ao)⟩;simp only[this];exact f
  .rintro Q aa R ⟨q,E,f,s⟩;rw[o6]at f;refine cc Ω ?_;rw[aO];refine hk _ _ ⟨q,E,?_,s⟩;rw[List.range_succ,Z5,List.filter_append,P];by_cases hm:(i:Int)∈l
   .rw[m3 hm]at f;simpa[hm]using f
   .rw[m5 hm]at f;simpa[hm]using f
 .rintro e U k ⟨z,g,hm,C⟩;rw[aR,ak];exact⟨λh=>Ω,λ_=>⟨z,g,hm,C⟩⟩
structure fG where
 aU:x1
 d9:x1
 a7:x1
 sc:Λ
 cs:Λ
def dS(h:fG):List x1:=[h.aU,h.d9,h.a7]
def qP(h:fG)(r:Nat):Prop:=lc h.a7 r\/lc h.aU r\/lc h.d9 r
def fY(w:x4)(co:Λ)(h:fG):Prop:=(∃g,aA .i64 aj w g h.aU h.sc)/\(∃g,aA .i64 aj w g h.d9 (b1 co h.sc))/\∃g,aA .i64 au w g h.a7 h.cs
theorem fY.W{h:fG}(ao:fY w co h)(a:Ext w I):fY I co h:=by
 obtain⟨⟨g1,h1⟩,⟨e,f⟩,j,p⟩:=ao;exact⟨⟨g1,h1.W a⟩,⟨e,f.W a⟩,j,p.W a⟩
theorem fY.one{h:fG}(ao:fY w co h):∀u∈dS h,u.oneCell'=ro:=by
 obtain⟨⟨g1,h1⟩,⟨f,a⟩,j,e⟩:=ao;intro u hu;simp[dS]at hu;rcases hu with rfl|rfl|rfl
 .exact h1.ls.cells.2
 .exact a.ls.cells.2
 .exact e.ls.cells.2
theorem EW{f:b5}{x:cA}{ae:kl}(h:ik w ae x)(aH:fp N f)(bM:x∈f.d7)(cw:aA .i64 au w gz sv f.co):
  al x8 J3 [.agg (fE ae).toArray,sv,Δ f.k] w λv I=>Ext w I/\∃c:fG,v= .agg (dS c).toArray/\c.sc=bx x.scope/\c.cs=(jF f.co f.k x).2/\fY I f.co c/\∀r,qP c r->w.heap.size<=r:=by
 obtain⟨ah,cz,dM⟩:=aH.d7 x bM;have bN:=uG ah aH.co.2.1;have bO:=uF bN ah.scope.1;have cB:(bx x.scope).length<=6:=by rw[bO.length_eq];exact cz
 have cC:=qF aH bM;have bP:=Dx x.scope;obtain⟨⟨g1,aI⟩,⟨dN,cD⟩,dO,dP,cE⟩:=id h;refine aB func205 ?_;refine bo λbd U dR bQ ai=>?_;have ai:ag U bd be (fE ae):=by
  obtain⟨L,cF,_⟩:=cE;obtain⟨_,_,_,E⟩:=dr aI.ls;obtain⟨_,_,_,K⟩:=dr cD.ls;obtain⟨_,_,_,_,_,cG,_⟩:=cF.sl;simp only[fE,E,K,cG]at ai ⊢;exact ai
 refine bB a8.i λbR aa dT bf bg=>?_;have bh:=bQ.F bf;rw[aL be.p 0 (ai.W bf) rfl];refine(Qr (aI.ls.W bh) ah.scope.1 Ω).Y ?_;rintro aU dU _ ⟨aJ,gr,bj,cH⟩;rw[di (cs:=#[aU,.slice ν 0 0,.slice ν 0 0]) (by obtain⟨_,_,_,rfl⟩:=dr bj.ls;kernel_rfl)];refine bB a8.i λB dV cI cJ cK=>?_;refine b4 (vs:=[aU,.slice ν 0 0,.slice ν 0 0]) a8.i rfl rfl (by intro u hu;simp at hu;rcases hu with rfl|rfl;exact bj.ls.cells.2;rfl) cK λR cL dW Y=>?_;have aK:=cJ.put cL Ω;have bS:=(bh.F aJ).F aK;have S:=bj.W aK;have bl:=((ai.W bf).W aJ).W aK;have bT:=(bg.W aJ).W aK;have dX:=bh.size;have z3:=aJ.size;have dY:=bS.size;have dZ:=Y.lt;have ea:=cI;rw[aL a8.p 0 Y rfl,aY aq.u S.ls];have bU:∀v∈bx x.scope,0<=v/\v<f.co.length:=λv hm=>ah.scope.2 v ((r1 bN).1 hm);have bm:∀{I:x4},af (λr=>r=B\/R.heap.size<=r) R I->Ext w I:=λbn=>bS.then bn λr s he=>Ω
 have br:(b1 f.co (bx x.scope)).length=(bx x.scope).length:=by simp[b1]
 refine bZ.range (bx x.scope).length (λi W=>af (λr=>r=B\/R.heap.size<=r) R W/\∃d9 gs,ag W B a8 [aU,d9,.slice ν 0 0]/\aA .i64 aj W gs d9 ((b1 f.co (bx x.scope)).take i)/\∀r,lc d9 r->R.heap.size<=r) Ω
  ⟨af.refl _ _,_,0,Y,aA.nil _ _ _ _,λr s=>by obtain⟨a,n,c,E,K⟩:=s;cases E⟩ ?_ ?_
 .rintro i W cM hi ⟨M,d9,gs,cN,am,aM⟩ cO;obtain⟨v,bt⟩:=aF (l:=(bx x.scope)) hi;have eb:=bU v (x6 bt);have cP:=bs S M λr s J=>by
   rcases J with rfl|J
   .exact b8 S Y Φ s rfl
   .obtain⟨E,K⟩:=bV S s;omega
  refine bI Ω ?_;rw[bi aq.u aj.i Ψ cP.ls bt];intro ec an _ _;have bX:=cN.W an;have cQ:f.co[v.toNat]?=σ (f.co.getD v.toNat 0):=by rw[u4,x7 Ω];rfl
  rw[aL a8.p 1 bX rfl,gI (y:=v) (i:=v.toNat) Ω ax.u au.i Ψ (cw.W ((bm M).F an)).ls cQ];refine eB aq.u aj.i rfl λed ee cR ef ap cS=>?_;refine⟨.inl ap,?_⟩;have bY:=(am.W an).W ap;refine ii aq.u aj.i rfl bY cS.ls Θ Θ λcT cU eg aN cV b0=>?_;have b2:=bX.W ap;have b3:=b2.V b0 λhe=>b8 bY b2 Φ he rfl;rw[aT a8.p rfl];refine bq (g:=B) (o:=1) aq.i aN.ls.cells.1 aN.ls.cells.2 b3 Ξ λcW b6 eh cX=>?_;rw[aO];have cY:af (λr=>lc d9 r\/r=B) cR cW:=(b0.Y λr _ h=>.inl h).F (b6.Y λr _ h=>.inr h);have cZ:=M.size;have ei:=(an.F ap).size;refine cO _ ⟨((M.F (an.V _)).F (ap.V _)).F (cY.Y λr _ h=>h.elim (λh=>.inr (aM r h)) .inl),cT,cU,cX,?_,λr s=>(cV r s).elim (aM r) λh=>Ω⟩;have e:(b1 f.co (bx x.scope)).take (i+1)=(b1 f.co (bx x.scope)).take i++[f.co.getD v.toNat 0]:=by
   unfold b1;rw[<-List.map_take,<-List.map_take,r8,bt,o9,Z5];rfl
  rw[e];exact bs aN b6 λr s he=>by
   have he:r=B:=he;subst he;exact b8 aN b3 Φ s rfl
 rintro W cM ⟨M,d9,gs,bu,am,aM⟩;rw[<-br,o6]at am;refine cc Ω ?_;have ej:=bm M;have aP:ca (b1 f.co (bx x.scope)):=⟨by rw[br];exact cB,og aH.co.2.2 bU⟩;have c0:=cC.small;rw[aL a8.p 1 bu rfl];refine(xb _ am.ls aP).Y ?_;rintro c1 C _ ⟨aR,b7⟩;have ek:=jy aP.2;have em:=nt aP.2;have en:aQ (b1 f.co (bx x.scope))<=4096:=c0;rw[ka dn.u b7];have aW:af (λr=>r=B\/R.heap.size<=r) R C:=M.F (aR.V _);have aw:=bu.W aR;have b9:=am.W aR;have cZ:=M.size;have eo:=aR.size;have bw:aA .i64 aj C gr aU (bx x.scope):=bs S aW λr s J=>by
  rcases J with rfl|J
  .exact b8 S Y Φ s rfl
  .obtain⟨E,K⟩:=bV S s;omega
 have bz:ag C bd be (fE ae):=bl.V aW λJ=>J.elim (λhe=>by subst he;exact m6 (eC bl Y) Φ) λh=>by have:=bl.lt;omega
 have cd:=bT.V aW λJ=>J.elim (λhe=>by have:=bg.lt;omega) λh=>by have:=bT.lt;omega
 have ce:∀{I:x4},af (λr=>r=B\/C.heap.size<=r) C I->Ext w I:=λbn=>(bm aW).then bn λr s he=>by
  have he:r=B\/C.heap.size<=r:=he;omega
 have ep:B<C.heap.size:=aw.lt;refine bZ.range (bp (b1 f.co (bx x.scope))).length (λq z=>af (λr=>r=B\/C.heap.size<=r) C z/\∃a7 az,ag z B a8 [aU,d9,a7]/\aA .i64 au z az a7 (((bp (b1 f.co (bx x.scope))).take q).map λt=>k7 x f.k (qw x.scope (bx x.scope) t))/\∀r,lc a7 r->C.heap.size<=r) Ω
  ⟨af.refl _ _,_,0,aw,aA.nil _ _ _ _,λr s=>by obtain⟨a,n,c,E,K⟩:=s;cases E⟩ ?_ ?_
 .rintro q z c2 c3 ⟨G,a7,az,aC,aD,aX⟩ c4;obtain⟨t,a1⟩:∃t,(bp (b1 f.co (bx x.scope)))[q]?=σ t:=⟨_,x7 c3⟩;have er:t.length=(bx x.scope).length:=by
   have c5:=qs aP.2 (i:=q) Ω;rw[c5]at a1;cases a1;rw[kB,br]
  have bC:=ce G;have c6:av.rep (α:=List (Λ)) ro (fC W.heap.size) bW z [c1] (bp (b1 f.co (bx x.scope))):=av.V b7 G λr s h J=>by
   rcases h with h|h
   .have h:W.heap.size<=r:=h;have:=bu.lt;rcases J with J|J<;>omega
   .exact h
  have Z:∀{O:Nat}{P:x1}{Q:Λ},aA .i64 aj C O P Q->aA .i64 aj z O P Q:=λhm=>bs hm G λr s J=>by
   rcases J with rfl|J
   .exact b8 hm aw Φ s rfl
   .obtain⟨E,K⟩:=bV hm s;omega
  have cf:=Z bw;have cg:ag z bd be (fE ae):=bz.V G λJ=>J.elim (λhe=>by subst he;exact m6 (eC bz aw) Φ) λh=>by have:=bz.lt;omega
  refine bI Ω ?_;refine jx (α:=Λ) rfl rfl dn.u aq.i Ψ c6 a1 λaS c7=>?_;have c8:=dQ c7;rw[aL be.p 0 cg rfl,aY ax.u (aI.ls.W bC)];have z12:=G.size;refine cb.range x.scope.length (λp H a2=>Ext z a2/\∃go,aA .i64 au a2 go H ((x.scope.take p).map λv=>t.getD ((bx x.scope).idxOf v) 0)/\∀r,lc H r->z.heap.size<=r) Ω ⟨Ext.refl _,0,aA.nil _ _ _ _,λr s=>by obtain⟨a,n,c,E,K⟩:=s;cases E⟩ ?_ ?_
  .rintro p H a2 c9 ac ⟨ab,go,aE,ch⟩ da;obtain⟨v,bD⟩:=aF (l:=x.scope) ac;have db:v∈bx x.scope:=bO.mem_iff.2 (x6 bD);refine bI Ω ?_;have dc:=bC.F ab;have dd:=aC.W ab;have de:=cf.W ab;rw[bi ax.u au.i Ψ (aI.ls.W dc) bD,aL a8.p 0 dd rfl,aY aq.u de.ls];generalize ci:((x.scope.take p).map λv=>t.getD ((bx x.scope).idxOf v) 0)=A at aE;have es:A.length=p:=by rw[<-ci,u9,o8];omega
   refine cb.range (bx x.scope).length (λj H a6=>Ext z a6/\∃go,aA .i64 au a6 go H (A++if v∈(bx x.scope).take j then[t.getD ((bx x.scope).idxOf v) 0]else[])/\∀r,lc H r->z.heap.size<=r) Ω ⟨ab,go,by simpa using aE,ch⟩ ?_ ?_
   .rintro j df a6 dg dh ⟨X,bE,ad,aG⟩ dj;obtain⟨u,hu⟩:=aF (l:=(bx x.scope)) dh;have dk:=cf.W X;refine bI Ω ?_;refine aV (λH bF=>Ext z bF/\∃go,aA .i64 au bF go H (A++if v∈(bx x.scope).take (j+1)then[t.getD ((bx x.scope).idxOf v) 0]else[])/\∀r,lc H r->z.heap.size<=r) ?_ ?_
    .rintro et bF dl;rw[aO];exact dj _ _ dl
    intro ay cj;have bG:v∈(bx x.scope).take (j+1)↔v∈(bx x.scope).take j\/v=u:=by
     rw[r8,hu,o9,j4,j6]
    rw[bi aq.u aj.i Ψ dk.ls hu,bk,ak];refine⟨λhe=>?_,λbH=>?_⟩
    .have dm:v∉(bx x.scope).take j:=λhm=>by
      obtain⟨dp,bJ⟩:=X6.1 hm;have dq:dp<j:=by have:=(x5.1 bJ).1;rw[o8]at this;omega
      rw[Y7 dq,<-he]at bJ;have:=lU bP bJ hu;omega
     rw[m5 dm,W5]at ad;have ds:t[j]?=σ (t.getD ((bx x.scope).idxOf v) 0):=by
      have:(bx x.scope).idxOf v=j:=r3 bP (by rw[hu,he]);rw[this,u4,x7 (show j<t.length by omega)];rfl
     rw[bi aq.u aj.i Ψ (c8.W X) ds];refine eB ax.u au.i rfl λeu ev ew ey bK dt=>?_;refine ii ax.u au.i rfl (ad.W bK) dt.ls Θ Θ λez du eA dv dw dx=>?_;have eD:=X.size;have eE:=bK.size;refine cj _ _ ⟨(X.F bK).then dx λr s he=>by have:=aG r he;omega,du,?_,λr s=>(dw r s).elim (aG r) λh=>Ω⟩;rw[m3 (bG.2 (.inr he.symm))];exact dv
    .refine cj _ _ ⟨X,bE,?_,aG⟩;have:(v∈(bx x.scope).take (j+1))=(v∈(bx x.scope).take j):=propext ⟨λao=>(bG.1 ao).resolve_right λhe=>bH he.symm,λao=>bG.2 (.inl ao)⟩;simp only[this];exact ad
   .rintro df a6 dg ⟨X,bE,ad,aG⟩;rw[o6,m3 db]at ad;refine cc Ω ?_;rw[aO];refine da _ _ ⟨X,bE,?_,aG⟩;rw[r8,bD,o9,Z5,ci];exact ad
  .rintro H a2 c9 ⟨ab,go,aE,ch⟩;rw[o6]at aE;refine cc Ω ?_;intro eF ck _ _;have ba:=ab.F ck;have dy:=aC.W ba;have dz:=cg.W ba;rw[aL a8.p 2 dy rfl,bA be.p be.i rfl dz.range];refine(Qq (h.W (bC.F ba)) ah.lines.1 (aE.ls.W ck)).Y ?_;rintro _ eH _ ⟨rfl,bL⟩;refine⟨.inl bL,?_⟩;refine eB ax.u au.i rfl λeI eJ dA eK cl dC=>?_;refine⟨.inl (bL.F cl),?_⟩;have bb:=(ba.F bL).F cl;have cm:=aD.W bb;refine ii ax.u au.i rfl cm dC.ls Θ Θ λdD dE eL bc dF cn=>?_;have cp:=aC.W bb;have cq:=cp.V cn λhe=>b8 cm cp Φ he rfl;rw[aT a8.p rfl];refine bq (g:=B) (o:=2) ax.i bc.ls.cells.1 bc.ls.cells.2 cq Ξ λdG cr eM dH=>?_;rw[aO];have dI:af (λr=>lc a7 r\/r=B) dA dG:=(cn.Y λr _ h=>.inl h).F (cr.Y λr _ h=>.inr h);have eN:=bb.size;refine c4 _ ⟨(G.F (bb.V _)).F (dI.Y λr _ h=>h.elim (λh=>.inr (aX r h)) .inl),dD,dE,dH,?_,λr s=>(dF r s).elim (aX r) λh=>Ω⟩;rw[r8,a1,o9,Z5];exact bs bc cr λr s he=>by
    have he:r=B:=he;subst he;exact b8 bc cq Φ s rfl
 .rintro z c2 ⟨G,a7,az,aC,aD,aX⟩;rw[o6]at aD;refine cc Ω ?_;have Z:∀{O:Nat}{P:x1}{Q:Λ},aA .i64 aj C O P Q->aA .i64 aj z O P Q:=λhm=>bs hm G λr s J=>by
   rcases J with rfl|J
   .exact b8 hm aw Φ s rfl
   .obtain⟨E,K⟩:=bV hm s;omega
  let c:fG:=⟨aU,d9,a7,bx x.scope,(jF f.co f.k x).2⟩;have dJ:fY z f.co c:=⟨⟨gr,Z bw⟩,⟨gs,Z b9⟩,az,aD⟩;rw[bA a8.p a8.i rfl (show z.rangeAt B 0 (dS c)from aC.range)];have ct:=cd.V G λJ=>J.elim (λhe=>by have:=bg.lt;omega) λh=>by have:=cd.lt;omega
  refine b4 (vs:=dS c) a8.i rfl rfl dJ.one ct λdK cu eO dL=>?_;rw[fP a8.p a8.i rfl dL.range];have aZ:∀{O:Nat}{P:x1}{Q:Λ}{e:p9},e≠a8->aA .i64 e z O P Q->aA .i64 e dK O P Q:=λbH hm=>bs hm cu λr s he=>by
   have he:r=bR:=he;exact b8 hm ct bH s he
  refine⟨(ce G).then cu λr s he=>by have he:r=bR:=he;have:=bQ.size;omega,c,rfl,rfl,rfl,⟨⟨gr,aZ Φ (Z bw)⟩,⟨gs,aZ Φ (Z b9)⟩,az,aZ Φ aD⟩,λr s=>?_⟩;rcases s with s|s|s
  .have:=aX r s;omega
  .have:=cH r s;omega
  .have:=aM r s;omega
theorem EX{h:fG}{g:Nat}(e:fY w co h)(a:ag I g a8 (x1.agg (dS h).toArray).cells.toList):ag I g a8 (dS h):=by
 obtain⟨⟨g1,h1⟩,⟨s,f⟩,x,j⟩:=e;obtain⟨_,_,_,p⟩:=dr h1.ls;obtain⟨_,_,_,q⟩:=dr f.ls;obtain⟨_,_,_,r⟩:=dr j.ls;simp only[dS,p,q,r]at a ⊢;exact a
theorem Qs{a b:fG}(R:fY w co a)(S:fY w co b)(X:lf a.sc)(Y:lf b.sc):al x8 A0 [.agg (dS a).toArray,.agg (dS b).toArray] w λv I=>v= .bool (decide (dk a.sc<dk b.sc))/\Ext w I:=by
 obtain⟨⟨ga,V⟩,_⟩:=id R;obtain⟨⟨aw,Z⟩,_⟩:=id S;have J:=(xG X Y).1;refine aB func207 ?_;refine bo λg1 U ax ac L=>?_;refine bo λad aa ay W M=>?_;have L:=(EX R L).W W;have M:=EX S M;have r:=ac.F W;have s:=V.ls.W r;have B:=Z.ls.W r;have z:∀{I:x4},Ext aa I->∀{K:x1->Prop},ab x8 (u7 a8 (Γ g1) 0) I (λt=>ab x8 (u5 aq t) I K)=K a.aU:=λe K=>by
  rw[aL a8.p 0 (L.W e) rfl]
 have C:∀{I:x4},Ext aa I->∀{K:x1->Prop},ab x8 (u7 a8 (Γ ad) 0) I (λt=>ab x8 (u5 aq t) I K)=K b.aU:=λe K=>by
  rw[aL a8.p 0 (M.W e) rfl]
 rw[z (Ext.refl _),aY aq.u s,C (Ext.refl _),aY aq.u B,bF,ak];refine⟨λae=>?_,λaf=>?_⟩
 .rw[z (Ext.refl _),aY aq.u s,C (Ext.refl _),aY aq.u B,aR];refine⟨?_,r⟩;congr 1;rw[U9,ne,ne,J];exact⟨λh=>.inl Ω,λh=>by rcases h with h|h<;>omega⟩
 have ag:a.sc.length=b.sc.length:=by have:=X5.1 af;omega
 rw[z (Ext.refl _),aY aq.u s];refine cb.range a.sc.length (λi _ N=>Ext aa N/\∀(j:Nat)(x y:Int),j<i->a.sc[j]?=σ x->b.sc[j]?=σ y->x=y) V.ls.le ⟨Ext.refl _,λj x y ah=>Ω⟩ ?_ ?_
 .rintro i _ N k hi ⟨O,E⟩ hk;obtain⟨x,e⟩:=aF (l:=a.sc) hi;obtain⟨y,G⟩:=aF (l:=b.sc) (i:=i) Ω;have f:=uR E Ω Ω;have ai:a.sc.drop i=x::a.sc.drop (i+1):=by rw[X8 hi,(x5.1 e).2]
  have am:b.sc.drop i=y::b.sc.drop (i+1):=by rw[X8 (show i<b.sc.length by omega),(x5.1 G).2]
  rw[ai,am]at f;simp only[jJ]at f;refine bI Ω ?_;intro az an _ _;have q:=O.F an;rw[z q,bi aq.u aj.i Ψ (s.W q) e,C q,bi aq.u aj.i Ψ (B.W q) G,bF,ak];refine⟨λae=>?_,λhe=>?_⟩
  .intro aA ao _ _;have A:=q.F ao;rw[z A,bi aq.u aj.i Ψ (s.W A) e,C A,bi aq.u aj.i Ψ (B.W A) G,aR];refine⟨?_,r.F A⟩;congr 1;rw[U9,ne,ne,J,f];by_cases H:x<y
   .rw[m3 H];exact⟨λ_=>.inr ⟨ag,Ω⟩,λ_=>H⟩
   .rw[m5 H,m3 (show y<x by omega)];exact⟨λh=>m6 h H,λh=>by rcases h with h|h<;>omega⟩
  .rw[aO];refine hk _ _ ⟨q,λj ap au ah P Q=>?_⟩;by_cases av:j=i
   .subst av;rw[e]at P;rw[G]at Q;cases P;cases Q;exact X5.1 he
   .exact E j ap au Ω P Q
 .rintro _ N k ⟨O,E⟩;rw[aR,ak];refine⟨λh=>Ω,λ_=>⟨?_,r.F O⟩⟩;congr 1;symm;rw[decide_eq_false_iff_not,J];have f:=uR E (p8 _) Ω;rw[List.drop_length,show b.sc.drop a.sc.length=[]from List.drop_eq_nil_of_le Ω]at f;rw[f];simp only[jJ];omega
def dK(h:fG):cO:=(h.sc,h.cs)
def l1(w:x4)(B g:Nat)(v:x1)(co:Λ)(L:List fG):Prop:=bh dS 3 a8 w g v L/\(∀h∈L,fY w co h/\∀r,qP h r->B<=r)/\(∀(i j:Nat)x y,L[i]?=σ x->L[j]?=σ y->i≠j->∀r,lc x.a7 r->¬lc y.a7 r)/\∀r,hp v r->B<=r
theorem oq{h:fG}(y:fY w co h)(q:af S w I)(s:∀r,S r->(∃e c,ag w r e c/\e≠aj/\e≠au)\/w.heap.size<=r\/((∃c,ag w r au c)/\¬lc h.a7 r)):fY I co h:=by
 obtain⟨⟨g1,h1⟩,⟨z,A⟩,B,j⟩:=y;have x:∀{g:Nat}{v:x1}{l:Λ},aA .i64 aj w g v l->aA .i64 aj I g v l:=λhm=>bs hm q λr a J=>by
  rcases s r J with⟨e,c,f,p,_⟩|C|⟨⟨c,f⟩,_⟩
  .exact b8 hm f (λhe=>p he.symm) a rfl
  .obtain⟨E,F⟩:=bV hm a;omega
  .exact b8 hm f Φ a rfl
 refine⟨⟨g1,x h1⟩,⟨z,x A⟩,B,bs j q λr a J=>?_⟩;rcases s r J with⟨e,c,f,_,p⟩|C|⟨_,G⟩
 .exact b8 j f (λhe=>p he.symm) a rfl
 .obtain⟨E,F⟩:=bV j a;omega
 .exact G a
theorem l1.W{g:Nat}{L:List fG}(h:l1 w B g v co L)(a:Ext w I):l1 I B g v co L:=⟨h.1.W a,λx e=>⟨(h.2.1 x e).1.W a,(h.2.1 x e).2⟩,h.2.2⟩
section
variable{α:Type}{f:α->List x1}{k:Nat}{P:V5}{w:x4}{e:p9}{g:Nat}{v:x1}{L:List α}
theorem Qt{M:List α}(h:bh f k e w g v L)(j:L.map f=M.map f):bh f k e w g v M:=by
 have p:L.length=M.length:=by have:=congrArg R6 j;simpa using this
 have hm:L.flatMap f=M.flatMap f:=by rw[List.flatMap_def,List.flatMap_def,j]
 refine⟨by rw[<-p,<-hm];exact h.1,λa q=>?_⟩;obtain⟨b,r,he⟩:=j0.1 (show f a∈L.map f by rw[j];exact j0.2 ⟨a,q,rfl⟩);rw[<-he];exact h.2 b r
theorem EY{t:p9}{b l aW:Nat}{low high:Option x1}(r:P.underlying t=σ (.slice e))(hi:aP P e k b z)(h:bh f k e w g v L)(h1:nk low l)(s:nl high L.length aW)(p:l<=aW)(ao:aW<=L.length)(x:∀q,(∀I,bh f k e I g v L->cg I k q ((L.drop l).take (aW-l)).length (((L.drop l).take (aW-l)).flatMap f))->K q):ab P (U5 t v low high ν) w K:=by
 have y:=h.sl;obtain⟨_,B,o,base,cap,rfl,C,_⟩:=y;rw[gH r hi h1 s e2 p Ω (p8 _)];refine x _ λI j=>?_;have:=cg.part (l:=l) (h:=aW) (m:=cap) j.sl p ao Ω (p8 _);rw[uv l j.2,rU (aW-l) (λa A=>j.2 a (List.mem_of_mem_drop A))]at this;have el:((L.drop l).take (aW-l)).length=aW-l:=by rw[o8,List.length_drop];omega
 rw[el];exact this
theorem yn{t Q:p9}{b:Nat}{x:x1}{M:List α}{K:x1->x4->Prop}(A:P.underlying t=σ (.slice e))(hi:aP P e k b z)(G:z.cells.size=k)(h:bh f k e w g v L)(H:cg w k x M.length (M.flatMap f))(R:∀a∈M,(f a).length=k)(h1:∀a∈M,∀u∈f a,u.oneCell'=ro)(B:(L.length+M.length)*b<=140737488355328)(J:L.length+M.length<=9223372036854775807)(N:∀j p I,bh f k e I p j (L++M)->(∀r,hp j r->hp v r\/w.heap.size<=r)->af (λr=>hp v r) w I->K j I):aH P (Y0 #[t,t] Q #[v,x]) w K:=by
 have O:∀u∈M.flatMap f,u.oneCell'=ro:=λu hu=>by
  obtain⟨a,S,hu⟩:=List.mem_flatMap.1 hu;exact h1 a S u hu
 have C:∀j p I,b0 I p e k j (L.length+M.length) (L.flatMap f++M.flatMap f)->bh f k e I p j (L++M):=λj p I hm=>⟨by simpa using hm,λb B=>by
  rcases j4.1 B with aW|aW
  .exact h.2 b aW
  .exact R b aW⟩
 rcases h.1.2 with⟨q,T⟩|⟨cap,cs,q,U,_⟩
 .have hm:b0 w w.heap.size e k v L.length (L.flatMap f):=⟨h.1.1,.inl ⟨q,T⟩⟩;subst q;refine pe A A hi G hm H O (by simpa using B) (by simpa[maxLen]using J) λj p I E s F=>N j p I (C _ _ _ s) (λr y=>.inr ?_) (F.Y λr y h=>Ω);have:=((C _ _ _ s).lc y).1;omega
 .refine pe A A hi G h.1 H O (by simpa using B) (by simpa[maxLen]using J) λj p I E s F=>N j p I (C _ _ _ s) (λr y=>?_) (F.Y λr y h=>⟨_,_,_,q,h.symm⟩);have:=((C _ _ _ s).lc y).1;rcases E with E|E
  .exact .inl ⟨_,_,_,q,by show g=r;omega⟩
  .exact .inr Ω
theorem Qu{t:p9}{b:Nat}{K:x1->x4->Prop}(a:P.underlying t=σ (.slice e))(hi:aP P e k b z)(h:∀v g I,g=w.heap.size->Ext w I->bh f k e I g v []->K v I):aH P (X2 t 0 #[]) w K:=
 lL a hi Ω (cs:=#[]) (by simp[Instr.fill]) λg I j p q=>by
  exact h _ g I j p ⟨by simpa using b0.full (n:=0) q Ξ (by simp[maxLen]),λc r=>by cases r⟩
end
theorem yo{α:Type}{A B:List α}{s:Nat}{a:α}(J:s<B.length)(e:A[s]?=σ a):(A.take s++B.drop s).set s a=A.take (s+1)++B.drop (s+1):=by
 have f:=(x5.1 e).1;have h1:(A.take s).length=s:=by rw[o8];omega
 rw[T4 _ _ Ω,h1,W8,X8 J,List.set_cons_zero,r8,e,o9,X9];rfl
theorem EZ{α:Type}{A B:List α}{s:Nat}(J:s<=A.length):(A.take s++B.drop s)[s]?=B[s]?:=by
 have h1:(A.take s).length=s:=by rw[o8];omega
 rw[Z7 Ω,h1,W8,List.getElem?_drop,Nat.add_zero]
theorem E0{g:cO}:∀{l:List cO}{i:Nat},(∀p<i,∀x,l[p]?=σ x->dk x.1<dk g.1)->i<=l.length->(∀x,l[i]?=σ x->¬dk x.1<dk g.1)->iQ g l=l.take i++g::l.drop i
 |[],i,_,a,_=>by
  have:i=0:=by simpa using a
  subst this;rfl
 |x::l,0,_,_,e=>by
  unfold iQ;rw[m5 (e x rfl)];rfl
 |x::l,i+1,h1,a,e=>by
  unfold iQ;rw[m3 (h1 0 Ω x rfl),E0 (λp ac y f=>h1 (p+1) Ω y f) (by simpa using a) (λy f=>e y f)];rfl
theorem Qv{g:Nat}{L:List fG}{h:fG}{s:Nat}{K:Unit->x4->Prop}(f:l1 w B g v co L)(F:L[j]?=σ h)(J:s<h.cs.length)(Y:∀I,af (λr=>lc h.a7 r) w I->(∀r,lc h.a7 r->∃c,ag w r au c)->l1 I B g v co (L.set j {h with cs:=h.cs.set s n})->K () I):
  ab x8 (Z0 ax h.a7 (Δ (s:Int))) w λt=>aH x8 (n9 au t (Δ n)) w K:=by
 obtain⟨h1,P,Q,Z⟩:=f;have N:=(x5.1 F).1;obtain⟨R,aa⟩:=P h (x6 F);obtain⟨_,_,S,G⟩:=id R;have H:∀r,lc h.a7 r->∃c,ag w r au c:=λr f=>by
  obtain⟨rfl,_⟩:=bV G f;obtain⟨_,⟨ad,_⟩|⟨cap,full,_,A,_⟩⟩:=G
  .obtain⟨a,n,c,e,_⟩:=f;rw[ad]at e;cases e
  .exact⟨_,A⟩
 have ae:∀r,r=S->lc h.a7 r:=λr he=>by
  subst he;obtain⟨_,⟨_,az⟩|⟨cap,full,e,A,_⟩⟩:=G
  .omega
  .exact⟨_,_,_,e,rfl⟩
 rw[jB rfl ax.u au.i G J];refine jC au.i G J λI C aA ah=>?_;have C:=C.Y λr _ he=>ae r he;refine Y I C H ⟨?_,λx z=>?_,λp q x y z ai aj r ak al=>?_,Z⟩
 .refine Qt (h1.V C λr f J=>?_) ?_
  .obtain⟨c,A⟩:=H r J;exact cn h1 A Φ f
  .rw[T2];symm;refine X3 λp=>?_;rw[Y6,v8];by_cases ac:j=p
   .subst ac;rw[m3 rfl,m3 (by simpa using N),F];rfl
   .rw[m5 ac]
 .have am:x={h with cs:=h.cs.set s n}\/∃p,p≠j/\L[p]?=σ x:=by
   obtain⟨p,ac⟩:=X6.1 z;rw[Y6]at ac;by_cases E:j=p
   .subst E;rw[m3 rfl,m3 N]at ac;exact .inl (Z6 ac).symm
   .rw[m5 E]at ac;exact .inr ⟨p,λh=>E h.symm,ac⟩
  rcases am with rfl|⟨p,an,ac⟩
  .obtain⟨⟨g1,U⟩,⟨ao,W⟩,_⟩:=R;refine⟨⟨⟨g1,bs U C λr f J=>?_⟩,⟨ao,bs W C λr f J=>?_⟩,S,ah⟩,aa⟩
   .obtain⟨c,A⟩:=H r J;exact b8 U A Φ f rfl
   .obtain⟨c,A⟩:=H r J;exact b8 W A Φ f rfl
  .obtain⟨ap,aq⟩:=P x (x6 ac);refine⟨oq ap C λr f=>.inr (.inr ⟨H r f,λO=>Q p j x h ac F an r O f⟩),aq⟩
 .have X:∀{p:Nat}{x:fG},(L.set j {h with cs:=h.cs.set s n})[p]?=σ x->∃M,L[p]?=σ M/\M.a7=x.a7:=λ{p x}z=>by
   rw[Y6]at z;by_cases E:j=p
   .subst E;rw[m3 rfl,m3 N]at z;cases z;exact⟨h,F,rfl⟩
   .rw[m5 E]at z;exact⟨x,z,rfl⟩
  obtain⟨M,O,ex⟩:=X z;obtain⟨av,aw,ay⟩:=X ai;exact Q p q M av O aw aj r (by rw[ex];exact ak) (by rw[ay];exact al)
def mL(f:b5)(j:Nat):List cO:=(((fU f).take j).filter fT).foldl (λl g=>iQ g l) []
theorem E1{f:b5}{x:cO}(h:(fU f)[j]?=σ x):mL f (j+1)=if fT x then iQ x (mL f j)else mL f j:=by
 unfold mL;rw[r8,h,o9,List.filter_append,Q0];cases J:fT x with
 |true=>rw[List.filter_cons_of_pos J];rfl
 |false=>rw[List.filter_cons_of_neg (by simp[J])];rfl
theorem Qw(f:b5):mL f (fU f).length=fV f:=by unfold mL fV;rw[o6]
theorem E2(g:cO):∀l,(iQ g l).length=l.length+1
 |[]=>rfl
 |h::l=>by
  unfold iQ;split
  .rw[Z4,E2 g l,Z4]
  .rfl
theorem Qx{f:b5}(e:j<=(fU f).length):(mL f j).length<=j:=by
 induction j with
 |zero=>simp[mL]
 |succ j a=>
  have:=a Ω;rw[E1 (x7 Ω)];split
  .rw[E2];omega
  .omega
theorem Qy{g:Nat}{l:x1}{f:b5}{L:List fG}{Q:x1->x4->Prop}(aB:fp N f)(A:l1 w B g l f.co L)(aC:L.map dK=fU f)(bN:∀out I go z,Ext w I->bh dS 3 a8 I go out z->(∀h∈z,h∈L)->(∀h∈z,fY I f.co h)->z.map dK=fV f->(∀r,hp out r->w.heap.size<=r)->Q out I):
  ab x8 (V7 #[cX] aj #[l]) w λbP=>
 cb (.slice ν 0 0) (Δ 0) w λout aD R bQ=>
  ab x8 (aN .lss aj rs rs aD bP) R λbR=>
  Split bR (cv (α:=x1->x4->Prop) (λ(bS:x1)(S:x4)=>
   ab x8 (aN .add aj rs ro aD (Δ 1)) S λbT=>
   bQ bS bT S) λba=>
  ab x8 (Z0 cX l aD) R λbV=>
  ab x8 (u5 a8 bV) R λbW=>
  aH x8 (P7 a8 ro (.tuple #[])) R λam bb=>
  aH x8 (n9 a8 am bW) bb λ(_:Unit)O=>
  ab x8 (u7 a8 am 2) O λbX=>
  ab x8 (u5 ax bX) O λbc=>
  ab x8 (V7 #[ax] aj #[bc]) O λb0=>
  cb (.bool rs) (Δ 0) O λbd aE C b1=>
   ab x8 (aN .lss aj rs rs aE b0) C λb2=>
   Split b2 (cv (α:=x1->x4->Prop) (λ(b3:x1)(Z:x4)=>
    ab x8 (aN .add aj rs ro aE (Δ 1)) Z λb6=>
    b1 b3 b6 Z) λbe=>
   ab x8 (Z0 ax bc aE) C λb8=>
   ab x8 (u5 au b8) C λb9=>
   Split bd (be (.bool ro) C)
    (ab x8 (aN .gtr au rs ro b9 (Δ 0)) C λca=>
   be ca C))
    (ab x8 (Op.unary .not bd) C λcd=>
  Split cd (ba out C)
   (bZ (Δ 0) C λi an ce=>
   cv (α:=x1->x4->Prop) (λ(cf:x1)(W:x4)=>
    Split cf (ab x8 (aN .add aj rs ro i (Δ 1)) W λcg=>
   ce cg W)
     (eH W λP=>
  ab x8 (u5 a8 am) P λch=>
  ab x8 (U5 cX out (σ i) ν ν) P λbf=>
  aH x8 (X2 cX 1 #[(0,ch)]) P λci aa=>
   (Ext P aa\/cE x8 (U5 cX out (σ i) ν ν) bf aa/\True)/\
  aH x8 (Y0 #[cX,cX] cX #[ci,bf]) aa λcj bg=>
   aH x8 (X2 cX 0 #[]) bg λck ap=>
  ab x8 (U5 cX out ν (σ i) ν) ap λcl=>
  aH x8 (Y0 #[cX,cX] cX #[ck,cl]) ap λcm bj=>
  aH x8 (Y0 #[cX,cX] cX #[cm,cj]) bj λcn bk=>
  ba cn bk)) λbl=>
   eH an λG=>
   ab x8 (V7 #[cX] aj #[out]) G λcp=>
   ab x8 (aN .lss aj rs rs i cp) G λcq=>
   Split cq (ab x8 (Z0 cX out i) G λcr=>
   ab x8 (u5 a8 cr) G λct=>
   ab x8 (u5 a8 am) G λcu=>
   al x8 A0 [ct,cu] G λcw bm=>
    bl cw bm)
    (bl (.bool rs) G))))
   (Q out R):=by
 have cz:L.length=(fU f).length:=by rw[<-aC,u9]
 have de:L.length<=256:=by have:=(mB aB).2.2;have:=aB.mw;omega
 have bn:=(mB aB).1;rw[dE cX.u A.1];refine cb.range L.length (λj out U=>∃go z,Ext w U/\bh dS 3 a8 U go out z/\(∀h∈z,h∈L)/\z.map dK=mL f j/\∀r,hp out r->w.heap.size<=r) A.1.le
  ⟨0,[],Ext.refl _,bh.nil _ _ _ _ _,λh ao=>(by cases ao),rfl,λr A=>(fq A).elim⟩ ?_ ?_
 rotate_left
 .rintro out U cA ⟨go,z,bo,ad,K,ae,aG⟩;rw[aR,ak];refine⟨λh=>Ω,λ_=>bN _ _ go z bo ad K (λh ao=>((A.W bo).2.1 h (K h ao)).1) ?_ aG⟩;rw[ae,cz,Qw]
 rintro j out R cA bp ⟨go,z,aq,ad,K,ae,aG⟩ cB;obtain⟨h,ao⟩:=aF (l:=L) bp;have hm:(fU f)[j]?=σ (dK h):=by rw[<-aC,v8,ao];rfl
 have cC:=bn _ (x6 hm);have df:z.length<=256:=by
  have:=Qx (f:=f) (j:=j) Ω;rw[<-ae,u9]at this;omega
 have af:=A.W aq;obtain⟨aI,_⟩:=af.2.1 h (x6 ao);obtain⟨_,_,dg,cD⟩:=id aI;refine bI Ω ?_;refine aV (λaJ S=>∃aK ag,Ext w S/\bh dS 3 a8 S aK aJ ag/\(∀h∈ag,h∈L)/\ag.map dK=mL f (j+1)/\∀r,hp aJ r->w.heap.size<=r) ?_ ?_
 .rintro aJ S ⟨aK,ag,h1,cF,cG,cH,cI⟩;rw[aO];exact cB _ _ ⟨aK,ag,h1,cF,cG,cH,cI⟩
 intro ay ah;rw[b7 rfl cX.u a8.i af.1 bp,bA a8.p a8.i rfl (af.1.range ao)];refine bB a8.i λbq bb dh cJ cK=>?_;refine b4 (vs:=dS h) a8.i rfl rfl aI.one cK λO cL di br=>?_;have bs:=cJ.put cL Ω;have aM:=cD.W bs;rw[aL a8.p 2 br rfl,aY ax.u aM.ls];refine cb.range h.cs.length (λq sv C=>Ext O C/\sv= .bool ((h.cs.take q).any λc=>decide (0<c))) aM.ls.le ⟨Ext.refl _,rfl⟩ ?_ ?_
 .rintro q _ C cM cN ⟨X,rfl⟩ cO;obtain⟨c,bt⟩:=aF (l:=h.cs) cN;have e:(h.cs.take (q+1)).any (λc=>decide (0<c))=((h.cs.take q).any (λc=>decide (0<c))||decide (0<c)):=by
   rw[r8,bt,o9,List.any_append];simp
  refine bI Ω ?_;refine aV (λsv Z=>Ext O Z/\sv= .bool ((h.cs.take (q+1)).any λc=>decide (0<c))) ?_ ?_
  .rintro _ Z ⟨cP,rfl⟩;rw[aO];exact cO _ _ ⟨cP,rfl⟩
  intro ay ah;rw[bi ax.u au.i Ψ (aM.W X).ls bt,bY];refine⟨λcQ=>ah _ _ ⟨X,by rw[e,cQ];rfl⟩,λcR=>?_⟩;rw[bO];exact ah _ _ ⟨X,by rw[e,cR];rfl⟩
 rintro _ C cM ⟨X,rfl⟩;have bu:=br.W X;have M:=bs.F X;rw[o6];refine cc Ω ?_;rw[bC,bY];have av:=E1 hm;have cS:(h.cs.any λc=>decide (0<c))=fT (dK h):=rfl;rw[cS];refine⟨λaP=>?_,λJ=>?_⟩
 .have aP:fT (dK h)=rs:=by simpa using aP
  rw[aP]at av;exact ah _ _ ⟨go,z,aq.F M,ad.W M,K,by rw[ae,av];rfl,aG⟩
 have J:fT (dK h)=ro:=by simpa using J
 rw[J,m3 rfl]at av;refine⟨λaQ an=>∃i:Nat,aQ=Δ (i:Int)/\i<=z.length/\Ext C an/\∀p<i,∀x,z[p]?=σ x->dk x.sc<dk h.sc,λaQ _=>z.length-(bU aQ).toNat,⟨0,rfl,X7 _,Ext.refl _,λp ac=>Ω⟩,?_⟩;rintro _ an ⟨i,rfl,hi,cT,aT⟩;refine aV (λaS W=>Ext C W/\((aS= .bool ro/\i<z.length/\∀x,z[i]?=σ x->dk x.sc<dk h.sc)\/(aS= .bool rs/\∀x,z[i]?=σ x->¬dk x.sc<dk h.sc))) ?_ ?_
 rotate_left
 .intro dj aU;intro G cU _ _;have Y:=cT.F cU;have aW:=ad.W (M.F Y);rw[dE cX.u aW,aR,ak];refine⟨λaT=>?_,λdl=>aU _ _ ⟨Y,.inr ⟨rfl,λx s=>m6 (x5.1 s).1 Ω⟩⟩⟩;obtain⟨x,s⟩:=aF (l:=z) (i:=i) Ω;have bw:=K x (x6 s);have cV:=(bn (dK x) (by rw[<-aC];exact j0.2 ⟨x,bw,rfl⟩)).scope;have bx:=af.W (M.F Y);rw[b7 rfl cX.u a8.i aW Ω,bA a8.p a8.i rfl (aW.range s),bA a8.p a8.i rfl (show G.rangeAt bq 0 (dS h)from(bu.W Y).range)];refine(Qs (bx.2.1 x bw).1 (bx.2.1 h (x6 ao)).1 cV cC.scope).Y ?_;rintro _ bm _ ⟨rfl,bz⟩;by_cases aw:dk x.sc<dk h.sc
  .rw[m7 aw];exact aU _ _ ⟨Y.F bz,.inl ⟨rfl,Ω,λy E=>by rw[s]at E;cases E;exact aw⟩⟩
  .rw[ms aw];exact aU _ _ ⟨Y.F bz,.inr ⟨rfl,λy E=>by rw[s]at E;cases E;exact aw⟩⟩
 rintro _ W ⟨bD,⟨rfl,dm,cW⟩|⟨rfl,cY⟩⟩
 .rw[bH,aO,li Ω Ω];refine⟨⟨i+1,rfl,Ω,bD,λp ac x s=>?_⟩,by simp only[bU];omega⟩;by_cases cZ:p=i
  .subst cZ;exact cW x s
  .exact aT p Ω x s
 .rw[aX];intro P c0 _ _;have ai:=bD.F c0;have az:=ad.W (M.F ai);have c1:=af.W (M.F ai);have aZ:∀x∈z,∀u∈dS x,u.oneCell'=ro:=λx s=>(c1.2.1 x (K x s)).1.one;have c2:∀u∈dS h,u.oneCell'=ro:=aI.one;rw[bA a8.p a8.i rfl (show P.rangeAt bq 0 (dS h)from(bu.W ai).range)];refine EY cX.u a8.i az (o3 i _ rfl) j8 hi (p8 _) λdn bE=>?_;refine iS cX.u a8.i Ω rfl rfl λdp dq aa dr a1 bF=>?_;refine⟨.inl a1,?_⟩;have c3:(z.drop i).take (z.length-i)=z.drop i:=j5 (by rw[List.length_drop];omega);rw[c3]at bE;refine yn cX.u a8.i rfl bF (bE aa (az.W a1)) (λ_ _=>rfl) (λa H=>aZ a (List.mem_of_mem_drop H)) Θ Θ λds dt bg a2 du c4=>?_;have bG:=a1.then c4 λr A he=>by have:=(bF.lc he).1;omega
  refine Qu (f:=dS) (k:=3) cX.u a8.i λdv dw ap dx a6 aA=>?_;have a7:=bG.F a6;refine EY cX.u a8.i (az.W a7) j7 (pa i _ rfl) (X7 _) hi λdy bJ=>?_;rw[List.drop_zero,Nat.sub_zero]at bJ;refine yn cX.u a8.i rfl aA (bJ ap (az.W a7)) (λ_ _=>rfl) (λa H=>aZ a (U3 H)) Θ Θ λc5 dz bj c6 c7 bK=>?_;have dA:=bG.size;have dC:=a6.size;have c8:=(a2.W a6).V bK λr A J=>by have:=(a2.lc A).1;have:=(a2.lc A).2;have:=(aA.lc J).1;omega
  refine yn cX.u a8.i rfl c6 c8.sl (λ_ _=>rfl) (λa H=>?_) Θ Θ λdD c9 bk da db dc=>?_
  .rcases j4.1 H with H|H
   .rw[j6.1 H];exact c2
   .exact aZ a (List.mem_of_mem_drop H)
  have bL:=a7.then bK λr A he=>by have:=(aA.lc he).1;omega
  have bM:∀r,hp c5 r->P.heap.size<=r:=λr A=>(c7 r A).elim (λh=>by have:=(aA.lc h).1;omega) λh=>Ω
  have dd:=bL.then dc λr A he=>by have:=bM r he;omega
  have dF:=(aq.F (M.F ai)).size;have dG:=bL.size;refine ah _ _ ⟨c9,_,(aq.F (M.F ai)).F dd,da,λx s=>?_,?_,λr A=>(db r A).elim (λh=>by have:=bM r h;omega) λh=>Ω⟩
  .rcases j4.1 s with s|s
   .exact K x (U3 (by simpa using s))
   .rcases j4.1 s with s|s
    .rw[j6.1 s];exact x6 ao
    .exact K x (List.mem_of_mem_drop s)
  .rw[av,<-ae,E0 (λp ac x s=>?_) (by simpa using hi) (λx s=>?_)]
   .simp
   .rw[v8]at s;cases E:z[p]? with
    |none=>rw[E]at s;cases s
    |some y=>rw[E]at s;cases s;exact aT p ac y E
   .rw[v8]at s;cases E:z[i]? with
    |none=>rw[E]at s;cases s
    |some y=>rw[E]at s;cases s;exact cY y E
def Qz(w:x4)(f:b5)(v:x1)(I:x4):Prop:=Ext w I/\∃go a,bh dS 3 a8 I go v a/\(∀h∈a,fY I f.co h/\∀r,qP h r->w.heap.size<=r)/\a.map dK=fV f/\∀r,hp v r->w.heap.size<=r
def mM(k:Int)(sc cs:Λ)(h:cO):cO:=if h.1=sc then(h.1,ez k h.2 cs)else h
theorem QA{bJ:Nat}{f:b5}(cE:pI w bJ f)(Q:fp N f):al x8 Jd [Γ bJ] w (Qz w f):=by
 have hk:=Q.k;obtain⟨d9,gz,av,gr,aX,bK,cF⟩:=id cE;obtain⟨X,aZ,cG,cH⟩:=id cF;refine aB func137 ?_;rw[aG ek.p 3 aX rfl,dE dC.u aZ];refine cb.range X.length (λi l U=>∃g L,Ext w U/\l1 U w.heap.size g l f.co L/\L.map dK=eV f i) aZ.le
  ⟨0,[],Ext.refl _,⟨bh.nil _ _ _ _ _,λh ao=>(by cases ao),λi j x y a1=>(by simp at a1),λr A=>(fq A).elim⟩,rfl⟩ ?_ ?_
 rotate_left
 .rintro l U cI ⟨g,L,R,A,S⟩;rw[<-cG,Ei]at S;rw[aR,ak];refine⟨λh=>Ω,λ_=>Qy Q A S λout I go cJ a1 a2 cK W cL cM=>?_⟩;have cN:=R.size;exact⟨R.F a1,go,cJ,a2,λh ao=>⟨W h ao,(A.2.1 h (cK h ao)).2⟩,cL,λr A=>by have:=cM r A;omega⟩
 rintro i l U cI hi ⟨g,L,R,A,S⟩ cO;obtain⟨a6,bL⟩:=aF (l:=X) hi;obtain⟨x,ba⟩:=aF (l:=f.d7) (i:=i) Ω;have bb:=x6 ba;have bd:=cH i a6 x bL ba;have bM:=qF Q bb;obtain⟨cP,dz,dA⟩:=Eh Q i;have bN:L.length=(eV f i).length:=by rw[<-S,u9]
 have dD:=Q.mw;have bO:=aZ.W R;refine bI Ω ?_;refine aV (λe0 aa=>∃g L,Ext w aa/\l1 aa w.heap.size g e0 f.co L/\L.map dK=eV f (i+1)) ?_ ?_
 .rintro e0 aa bf;rw[aO];exact cO _ _ bf
 intro ay bP;rw[b7 rfl dC.u be.i bO hi,bA be.p be.i rfl (bO.range bL)];refine bB be.i λan dF dG cQ cR=>?_;refine b4 (vs:=fE a6) be.i rfl rfl bd.one cR λdH cS dI cT=>?_;have bQ:=cQ.put cS Ω;have dJ:=bQ.size;refine aV (λbc aw=>∃E c,bc=Γ E/\Ext U aw/\ag aw E a8 (dS c)/\c.sc=bx x.scope/\c.cs=(jF f.co f.k x).2/\fY aw f.co c/\U.heap.size<=E/\∀r,qP c r->U.heap.size<=r) ?_ ?_
 rotate_left
 .intro dL bR;intro cU bS _ _;have az:=bQ.F bS;have aA:=R.F az;have cV:=cT.W bS;have bT:=aX.W aA;have dM:=az.size;rw[bA be.p be.i rfl (show cU.rangeAt an 0 (fE a6)from cV.range),aG ek.p 2 bT rfl,aG ek.p 1 bT rfl];refine⟨?_,?_⟩
  .refine (EW (bd.W aA) Q bb (bK.W aA)).Y ?_;rintro _ dN _ ⟨bg,c,rfl,h1,bj,W,M⟩;refine bB a8.i λE dO bU bk aC=>?_;refine⟨.inl (bg.F bk),?_⟩;refine b4 (vs:=dS c) a8.i rfl rfl W.one aC λdP bW dQ cW=>?_;have dR:=bg.size;refine bR _ _ ⟨E,c,rfl,(az.F bg).F (bk.then bW λr A he=>by have he:r=E:=he;omega),cW,h1,bj,?_,Ω,λr A=>by have:=M r A;omega⟩;exact oq (W.W bk) bW λr A=>.inl ⟨_,_,by have A:r=E:=A;subst A;exact aC,Φ,Φ⟩
  .refine bB a8.i λE dT bU aE aC=>?_;refine⟨.inl aE,?_⟩;have bX:=aA.F aE;refine(EW (bd.W bX) Q bb (bK.W bX)).Y ?_;rintro _ dU _ ⟨b0,c,rfl,h1,bj,W,M⟩;have b2:=aC.W b0;have dV:=aE.size;refine b4 (vs:=dS c) a8.i rfl rfl W.one b2 λdW b3 dX cY=>?_;refine bR _ _ ⟨E,c,rfl,az.F ((aE.F b0).then b3 λr A he=>by have he:r=E:=he;omega),cY,h1,bj,?_,Ω,λr A=>by have:=M r A;omega⟩;exact oq W b3 λr A=>.inl ⟨_,_,by have A:r=E:=A;subst A;exact b2,Φ,Φ⟩
 rintro _ aw ⟨E,c,rfl,bl,cZ,ah,aH,c0,bU,M⟩;have b6:=A.W bl;have c1:∀h∈L,∀r,lc h.a7 r->r<U.heap.size:=λh ao r c2=>by
  obtain⟨⟨_,_,c3,b8⟩,_⟩:=A.2.1 h ao;have:=bV b8 c2;omega
 have c4:∀{j:Nat},decide (c.sc∈(L.take j).map (·.sc))=decide (bx x.scope∈((eV f i).take j).map (·.1)):=λ{j}=>by
  rw[ah,<-S,<-List.map_take,S5];rfl
 have cN:=R.size;rw[dE cX.u b6.1];refine cb.range L.length (λj av O=>∃C,av= .bool (decide (c.sc∈(L.take j).map (·.sc)))/\Ext w O/\U.heap.size<=O.heap.size/\l1 O w.heap.size g l f.co C/\C.map dK=((eV f i).map (mM f.k c.sc c.cs)).take j++(eV f i).drop j/\ag O E a8 (dS c)/\fY O f.co c/\∀h∈C,∀r,lc h.a7 r->r<U.heap.size) A.1.le
  ⟨L,Ξ,R.F bl,bl.size,b6,by simpa using S,cZ,c0,c1⟩ ?_ ?_
 .rintro j _ O c5 b9 ⟨C,rfl,ai,c6,aI,K,bm,bn,Y⟩ c7;have c8:C.length=L.length:=by
   have:=congrArg R6 K;simp only[u9,r9,o8,List.length_drop]at this;omega
  obtain⟨h,ao⟩:=aF (l:=C) (i:=j) Ω;have aJ:(eV f i)[j]?=σ (dK h):=by
   have ca:(C.map dK)[j]?=σ (dK h):=by rw[v8,ao];rfl
   rw[K,EZ (by rw[u9];omega)]at ca;exact ca
  have aK:((eV f i).map (mM f.k c.sc c.cs))[j]?=σ (mM f.k c.sc c.cs (dK h)):=by rw[v8,aJ];rfl
  have c9:∃y,L[j]?=σ y/\y.sc=h.sc:=by
   refine⟨_,x7 b9,?_⟩;rw[<-S,v8,x7 b9]at aJ;exact congrArg Prod.fst (Z6 aJ)
  obtain⟨y,H,da⟩:=c9;have bo:(c.sc∈(L.take (j+1)).map (·.sc))↔c.sc∈(L.take j).map (·.sc)\/h.sc=c.sc:=by
   rw[r8,H,o9,Z5,j4,List.map_singleton,j6,da];exact or_congr Iff.rfl ⟨λe=>e.symm,λe=>e.symm⟩
  have cd:=cP _ (x6 aJ);refine bI Ω ?_;refine aV (λav P=>∃C,av= .bool (decide (c.sc∈(L.take (j+1)).map (·.sc)))/\Ext w P/\U.heap.size<=P.heap.size/\l1 P w.heap.size g l f.co C/\C.map dK=((eV f i).map (mM f.k c.sc c.cs)).take (j+1)++(eV f i).drop (j+1)/\ag P E a8 (dS c)/\fY P f.co c/\∀h∈C,∀r,lc h.a7 r->r<U.heap.size) ?_ ?_
  .rintro dY P bf;rw[aO];exact c7 _ _ bf
  intro dZ ce;intro db am _ _;have aM:=aI.W am;have cf:=bm.W am;have cg:=bn.W am;obtain⟨dc,ea⟩:=aM.2.1 h (x6 ao);obtain⟨⟨g1,h1⟩,_,c3,b8⟩:=id dc;obtain⟨⟨ec,dd⟩,_,ed,ch⟩:=id cg;rw[b7 rfl cX.u a8.i aM.1 Ω,aT a8.p rfl,aD Ψ (aM.1.range ao 0 _ rfl),aL a8.p 0 cf rfl];refine(L0 h1.ls dd.ls).Y ?_;rintro _ ee _ ⟨rfl,ad⟩;have ci:=aM.W ad;have bp:=cf.W ad;have cj:=cg.W ad;have ck:=(ai.F am).F ad;have z9:=(am.F ad).size;rw[ak];refine⟨λbq=>?_,λcl=>?_⟩
  rotate_left
  .refine ce _ _ ⟨C,?_,ck,Ω,ci,?_,bp,cj,Y⟩
   .congr 1;exact decide_eq_decide.2 ⟨λh=>bo.2 (.inl h),λh=>(bo.1 h).resolve_right cl⟩
   .have e:mM f.k c.sc c.cs (dK h)=dK h:=m5 cl;rw[e]at aK;rw[<-yo Ω aK,<-K];symm;refine X3 λp=>?_;rw[Y6];by_cases ac:j=p
    .subst ac;rw[m3 rfl,m3 Θ,v8,ao];rfl
    .rw[m5 ac]
  have de:h.cs.length=c.cs.length:=by
   have df:h.cs.length=_:=cd.len;have dg:c.cs.length=(aQ (b1 f.co (jF f.co f.k x).1)).toNat:=by rw[aH];exact bM.len
   rw[df,dg,show(dK h).1=h.sc from rfl,bq,ah];rfl
  have ef:(ez f.k h.cs c.cs).length=h.cs.length:=by unfold ez;rw[List.length_zipWith];omega
  rw[aL a8.p 2 bp rfl,aY ax.u (ch.W ad).ls];refine bZ.range c.cs.length (λs Z=>Ext w Z/\U.heap.size<=Z.heap.size/\l1 Z w.heap.size g l f.co (C.set j {h with cs:=(ez f.k h.cs c.cs).take s++h.cs.drop s})/\ag Z E a8 (dS c)/\fY Z f.co c) ch.ls.le
   ⟨ck,Ω,?_,bp,cj⟩ ?_ ?_
  .have e:C.set j {h with cs:=(ez f.k h.cs c.cs).take 0++h.cs.drop 0}=C:=by
    refine X3 λp=>?_;rw[Y6];by_cases ac:j=p
    .subst ac;rw[m3 rfl,m3 Ω,ao];rfl
    .rw[m5 ac]
   rw[e];exact ci
  .rintro s Z dh J ⟨br,cm,aN,bs,bt⟩ di;refine bI Ω ?_;intro eg ap _ _;have ae:=aN.W ap;have cn:=bs.W ap;have cp:=bt.W ap;have cq:=br.F ap;have aP:(C.set j {h with cs:=(ez f.k h.cs c.cs).take s++h.cs.drop s})[j]?=σ {h with cs:=(ez f.k h.cs c.cs).take s++h.cs.drop s}:=by
    rw[Y6,m3 rfl,m3 Ω]
   have cr:j<(C.set j {h with cs:=(ez f.k h.cs c.cs).take s++h.cs.drop s}).length:=by rw[o5];omega
   obtain⟨⟨_,_,dj,bu⟩,dk⟩:=ae.2.1 _ (x6 aP);obtain⟨_,_,eh,dl⟩:=id cp;obtain⟨a,bw⟩:=aF (l:=h.cs) (i:=s) Ω;obtain⟨b,aq⟩:=aF (l:=c.cs) J;have dm:s<({h with cs:=(ez f.k h.cs c.cs).take s++h.cs.drop s}:fG).cs.length:=by show s<((ez f.k h.cs c.cs).take s++h.cs.drop s).length;rw[r9,o8,List.length_drop];omega
   have dn:((ez f.k h.cs c.cs).take s++h.cs.drop s)[s]?=σ a:=by rw[EZ Ω];exact bw
   have bz:(ez f.k h.cs c.cs)[s]?=σ (min (a+b) f.k):=by
    unfold ez;rw[List.getElem?_zipWith,bw,aq]
   have ei:=cd.jK a (x6 bw);have ej:=bM.jK b (by rw[<-aH];exact x6 aq);have dp:=aX.W cq;rw[b7 rfl cX.u a8.i ae.1 cr,aT a8.p rfl,aD Ψ (ae.1.range aP 2 _ rfl),b7 rfl cX.u a8.i ae.1 cr,aT a8.p rfl,aD Ψ (ae.1.range aP 2 _ rfl),bi ax.u au.i Ψ bu.ls dn,aL a8.p 2 cn rfl,bi ax.u au.i Ψ dl.ls aq,aG ek.p 1 dp rfl];refine(pu Ω Ω).Y ?_;rintro _ em _ ⟨rfl,af⟩;refine⟨.inl af,?_⟩;have z12:=(ap.F af).size;refine Qv (ae.W af) aP dm λen aS ct bD=>?_;rw[aO];have dq:=cp.W af;have cu:=cn.W af;have eo:=aS.size;refine di _ ⟨(cq.F af).then aS λr A he=>by have:=dk r (.inl he);omega,Ω,?_,?_,?_⟩
   .rw[List.set_set]at bD;have e:=yo (B:=h.cs) (s:=s) Ω bz;simp only[e]at bD;exact bD
   .exact cu.V aS λJ=>by
     obtain⟨ep,dr⟩:=ct _ J;exact m6 (eC cu dr) Φ
   .refine oq dq aS λr A=>.inr (.inr ⟨ct r A,λds=>?_⟩);have:=M r (.inl ds);have:=Y h (x6 ao) r A;omega
  .rintro Z dh ⟨br,cm,aN,bs,bt⟩;refine cc Ω ?_;have e:(ez f.k h.cs c.cs).take c.cs.length++h.cs.drop c.cs.length=ez f.k h.cs c.cs:=by
    rw[<-de,List.drop_length,W5,j5 Ω]
   simp only[e]at aN;refine ce _ _ ⟨_,?_,br,cm,aN,?_,bs,bt,λz G r A=>?_⟩
   .congr 1;symm;exact m7 (bo.2 (.inr bq))
   .have dt:mM f.k c.sc c.cs (dK h)=dK {h with cs:=ez f.k h.cs c.cs}:=m3 bq;rw[dt]at aK;rw[T2,K,yo Ω aK]
   .rcases V0 G with G|rfl
    .exact Y z G r A
    .exact Y h (x6 ao) r A
 rintro _ O c5 ⟨C,rfl,ai,c6,aI,K,bm,bn,Y⟩;refine cc Ω ?_;rw[c4,bN,o6,bC,bY];have cw:=xV ba;have bz:((eV f i).map (mM f.k c.sc c.cs)).take L.length++(eV f i).drop L.length=(eV f i).map (mM f.k c.sc c.cs):=by
  rw[bN,List.drop_length,W5,j5 (by rw[u9];exact p8 _)]
 rw[bz]at K;have c8:C.length=L.length:=by
  have:=congrArg R6 K;rw[u9,u9]at this;omega
 refine⟨λaU=>?_,λbE=>?_⟩
 .have aU:bx x.scope∉(eV f i).map (·.1):=by simpa using aU
  have du:(eV f i).map (mM f.k c.sc c.cs)=eV f i:=by
   refine(List.map_congr_left λz G=>?_).F (List.map_id _);exact m5 λhe=>aU (j0.2 ⟨z,G,by rw[he,ah]⟩)
  rw[du]at K;rw[bA a8.p a8.i rfl (show O.rangeAt E 0 (dS c)from bm.range)];refine iS cX.u a8.i Ω rfl rfl λer dj P es aW bu=>?_;have ab:=aI.W aW;have cz:=bn.W aW;refine jo cX.u a8.i rfl ab.1 (by simpa using bu.sl) cz.one Ω Ω λet dv db a2 dw bF=>?_;have cA:∀r,hp l r->∃e c,ag P r e c/\e≠aj/\e≠au:=λr A=>by
   obtain⟨rfl,c,aq⟩:=eb ab.1 A;exact⟨_,c,aq,Φ,Φ⟩
  have eu:=aW.size;have ev:=ai.size;refine bP _ _ ⟨dv,C++[c],(ai.F aW).then bF λr A he=>by have:=ab.2.2.2 r he;omega,⟨a2,λz G=>?_,λp q y z H G dx r bG bH=>?_,λr A=>(dw r A).elim (ab.2.2.2 r) λh=>Ω⟩,?_⟩
  .rcases j4.1 G with G|G
   .exact⟨oq (ab.2.1 z G).1 bF λr A=>.inl (cA r A),(ab.2.1 z G).2⟩
   .rw[j6.1 G];exact⟨oq cz bF λr A=>.inl (cA r A),λr A=>by have:=M r A;omega⟩
  .have cB:∀{p:Nat}{y:fG},(C++[c])[p]?=σ y->C[p]?=σ y\/(p=C.length/\y=c):=λ{p y}H=>by
    rw[List.getElem?_append]at H;split at H
    .exact .inl H
    .by_cases dy:p-C.length=0
     .rw[dy]at H;cases H;exact .inr ⟨Ω,rfl⟩
     .rw[Y4 Θ]at H;cases H
   rcases cB H with cC|⟨ew,rfl⟩<;>rcases cB G with cD|⟨eq,rfl⟩
   .exact ab.2.2.1 p q y z cC cD dx r bG bH
   .have:=Y y (x6 cC) r bG;have:=M r (.inl bH);omega
   .have:=Y z (x6 cD) r bH;have:=M r (.inl bG);omega
   .omega
  .rw[Z5,K,cw,Eg λz G he=>aU (j0.2 ⟨z,G,he⟩)];show _++[(c.sc,c.cs)]=_;rw[ah,aH];rfl
 .have bE:bx x.scope∈(eV f i).map (·.1):=by simpa using bE
  refine bP _ _ ⟨g,C,ai,aI,?_⟩;rw[K,cw];unfold jG;rw[m3 (show(jF f.co f.k x).1∈_ from bE)];refine List.map_congr_left λz _=>?_;unfold mM;rw[ah,aH];rfl
def yp(w:x4)(B:Nat)(v:x1)(n:aI):Prop:=∃d9 gz a f a1 e gr L,v= .agg #[Δ n.k,d9,Δ n.zero,a,e]/\aA .i64 aj w gz d9 n.co/\iX w f a a1/\a1.map (·.l)=n.unary/\bh dS 3 a8 w gr e L/\(∀h∈L,fY w n.co h)/\L.map dK=n.d7/\(∀r,lc d9 r->B<=r)/\∀h∈L,∀r,qP h r->B<=r
def z9:List x1:=[Δ 0,.slice ν 0 0,Δ 0,.slice ν 0 0,.slice ν 0 0]
def ot(w:x4)(C gt gs go:Nat)(d9 a7:x1)(f:b5)(a:List fG)(I:x4):Prop:=Ext w I/\C<=I.heap.size/\ag I gt dV z9/\aA .i64 aj I gs d9 f.co/\bh dS 3 a8 I go a7 a/\(∀r,hp a7 r->r<C)/\∀h∈a,fY I f.co h
theorem ot.W{aa:x4}{C gt go:Nat}{a7:x1}{f:b5}{e:List fG}(h:ot w C gt gs go d9 a7 f e I)(a:Ext I aa):ot w C gt gs go d9 a7 f e aa:=by
 obtain⟨h1,z,j,p,q,r,s⟩:=h;have:=a.size;exact⟨h1.F a,Ω,j.W a,p.W a,q.W a,r,λx y=>(s x y).W a⟩
def QB(w I:x4)(C gt:Nat)(r:Nat):Prop:=w.heap.size<=r/\r≠gt/\((∃c,ag I r dV c)\/(∃c,ag I r ax c)\/((∃c,ag I r a8 c)/\C<=r))
theorem ot.V{aa:x4}{C gt go:Nat}{a7:x1}{f:b5}{y:List fG}(h:ot w C gt gs go d9 a7 f y I)(p:af S I aa)(q:∀r,S r->QB w I C gt r):ot w C gt gs go d9 a7 f y aa:=by
 obtain⟨h1,K,E,z,s,A,F⟩:=h;have:=p.size;have B:∀r,S r->∃e c,ag I r e c/\e≠aj/\e≠au:=λr j=>by
  obtain⟨_,_,⟨c,a⟩|⟨c,a⟩|⟨⟨c,a⟩,_⟩⟩:=q r j
  .exact⟨_,c,a,Φ,Φ⟩
  .exact⟨_,c,a,Φ,Φ⟩
  .exact⟨_,c,a,Φ,Φ⟩
 refine⟨h1.then p λr j J=>by have:=(q r J).1;omega,Ω,E.V p λJ=>(q _ J).2.1 rfl,bs z p λr j J=>?_,s.V p λr j J=>?_,A,λx G=>oq (F x G) p λr j=>.inl (B r j)⟩
 .obtain⟨e,c,a,H,_⟩:=B r J;exact b8 z a (λhe=>H he.symm) j rfl
 .obtain⟨_,_,⟨c,a⟩|⟨c,a⟩|⟨_,L⟩⟩:=q r J
  .exact cn s a Φ j
  .exact cn s a Φ j
  .have:=A r j;omega
def E3(w:x4)(C f:Nat)(d9:x1)(k:Int)(n:aI)(j:List fG)(I:x4):Prop:=∃a p a1 e gr L,ag I f dV [Δ k,d9,Δ n.zero,a,e]/\iX I p a a1/\a1.map (·.l)=n.unary/\(∀r,hp a r->w.heap.size<=r)/\bh dS 3 a8 I gr e L/\(∀h∈L,h∈j)/\L.map dK=n.d7/\∀r,hp e r->C<=r
theorem E4{bS:Nat}{f:b5}(bT:pI w bS f)(Q:fp N f):al x8 It [Γ bS] w λv I=>Ext w I/\yp I w.heap.size v (cP f):=by
 have hk:=Q.k;have dx:=Q.co.2.1;obtain⟨dy,dz,dA,dC,bU,bW,dD⟩:=id bT;refine aB func64 ?_;refine bB dV.i λgt U dF aR aS=>?_;have aS:=aS;rw[aG ek.p 1 (bU.W aR) rfl,di (cs:=#[Δ f.k,.slice ν 0 0,Δ 0,.slice ν 0 0,.slice ν 0 0]) Ψ];refine bB dV.i λA aa dG bX cJ=>?_;refine b4 (vs:=[Δ f.k,.slice ν 0 0,Δ 0,.slice ν 0 0,.slice ν 0 0]) dV.i rfl rfl (by intro u hu;simp at hu;rcases hu with rfl|rfl|rfl|rfl<;>rfl) cJ λdH bY dI cK=>?_;have br:=(aR.F bX).then bY λr q he=>by have he:r=A:=he;have:=aR.size;omega
 have dL:=aS.lt;have E:A≠gt:=Ω
 have cL:=(aS.W bX).V bY λhe=>by have he:=he;omega
 rw[aG ek.p 2 (bU.W br) rfl,aY ax.u (bW.W br).ls];have dM:=aR.size;refine bZ.range f.co.length (λi W=>Ext w W/\ag W gt dV z9/\∃d9 gs B H a1,ag W A dV [Δ f.k,d9,Δ 0,B,.slice ν 0 0]/\aA .i64 aj W gs d9 (f.co.take i)/\(∀r,lc d9 r->w.heap.size<=r)/\iX W H B a1/\a1.map (·.l)=(f.co.take i).map (λz=>o4 z.toNat 0)/\∀r,hp B r->w.heap.size<=r) Ω
  ⟨br,cL,_,0,_,0,[],cK,aA.nil _ _ _ _,(λr q=>by obtain⟨a,n,c,cM,dN⟩:=q;cases cM),⟨bh.nil _ _ _ _ _,λx bt=>(by cases bt)⟩,rfl,λr q=>(fq q).elim⟩ ?_ ?_
 .rintro i W cN hi ⟨X,bu,d9,gs,B,H,a1,aC,aU,aV,bw,aE,aW⟩ cO;obtain⟨z,C⟩:=aF (l:=f.co) hi;have dO:=Q.co.2.2 z (x6 C);have dP:a1.length=i:=by have:=congrArg R6 aE;simp only[u9,o8]at this;omega
  refine bI Ω ?_;rw[bi ax.u au.i Ψ (bW.W X).ls C,aL dV.p 1 aC rfl];refine eB aq.u aj.i rfl λa5 dQ b2 dR ae cQ=>?_;have aH:=aU.W ae;refine ii aq.u aj.i rfl aH cQ.ls Θ Θ λb3 b6 dT aX cR b9=>?_;have bx:=aC.W ae;have ca:=bu.W ae;have cb:=bx.V b9 λhe=>b8 aH bx Φ he rfl;rw[aT dV.p rfl];refine bq (g:=A) (o:=1) aq.i aX.ls.cells.1 aX.ls.cells.2 cb Ξ λcd ce dU aZ=>?_;have aZ:=aZ;have bz:af (λr=>lc d9 r\/r=A) b2 cd:=(b9.Y λr _ h=>.inl h).F (ce.Y λr _ h=>.inr h);have cS:aA .i64 aj cd b6 b3 (f.co.take (i+1)):=by
   rw[r8,C];exact bs aX ce λr q he=>by
    have he:r=A:=he;subst he;exact b8 aX cb Φ q rfl
  have ah:∀r,(lc d9 r\/r=A)->∃e c,ag b2 r e c/\e≠au/\e≠ax:=λr q=>by
   rcases q with q|rfl
   .obtain⟨rfl,_⟩:=bV aH q;obtain⟨_,⟨cT,_⟩|⟨cap,full,_,s,_⟩⟩:=aH
    .obtain⟨a,n,c,e,_⟩:=q;rw[cT]at e;cases e
    .exact⟨_,_,s,Φ,Φ⟩
   .exact⟨_,_,bx,Φ,Φ⟩
  have cU:=(bw.W ae).V bz ah;have z4:=X.size;have z5:=ae.size;have cf:=(X.F ae).then bz λr q he=>by
   rcases he with he|he
   .have:=aV r he;omega
   .omega
  have cV:=ca.V bz λJ=>by
   rcases J with J|J
   .exact b8 aH ca Φ J rfl
   .omega
  intro dW cg _ _;have cY:=aZ.W cg;rw[aL dV.p 3 cY rfl];obtain⟨a2,rfl⟩:∃n:Nat,z=n:=⟨z.toNat,Ω⟩;refine k3 ax.u au.i Ω Ω λch dX dY bC cZ=>?_;refine⟨.inl bC,?_⟩;have c0:=aA.of (b0.full (n:=a2) cZ Ξ (by simp[maxLen];omega));let a:mE:=⟨.slice (σ ⟨ch,0,ν⟩) a2 a2,o4 a2 0⟩;refine iS (f:=sf) (a:=a) ev.u ax.i Ω rfl rfl λdZ ea bD ec bE c1=>?_;refine⟨.inl (bC.F bE),?_⟩;have ai:=(cg.F bC).F bE;have aI:=cU.W ai;refine jo (f:=sf) (a:=a) ev.u ax.i rfl aI.1 (by simpa using c1.sl) (λu hu=>by rw[j6.1 (show u∈[a.v]from hu)];rfl) Ω Ω λbF bG ed K bH ci=>?_;have am:∀{r:Nat},hp B r->∃c,ag bD r ax c:=λq=>by
   obtain⟨rfl,c,s⟩:=eb aI.1 q;exact⟨c,s⟩
  have bJ:=aZ.W ai;have cj:=bJ.V ci λhe=>cn aI.1 bJ Φ he;rw[aT dV.p rfl];refine bq ev.i (dg K.sl).1 (dg K.sl).2 cj Ξ λc2 ck ee c3=>?_;rw[aO];have R:af (λr=>hp B r\/r=A) bD c2:=(ci.Y λr _ h=>.inl h).F (ck.Y λr _ h=>.inr h);have bK:∀r,(hp B r\/r=A)->∃e c,ag bD r e c/\e≠au/\e≠aj:=λr q=>by
   rcases q with q|rfl
   .obtain⟨c,s⟩:=am q;exact⟨_,c,s,Φ,Φ⟩
   .exact⟨_,_,bJ,Φ,Φ⟩
  have cl:=cS.W ai;have ef:=cf.size;have eg:=ai.size;have cm:=cV.W ai;refine cO _ ⟨(cf.F ai).then R (λr q he=>?_),cm.V R (λJ=>?_),b3,b6,bF,bG,a1++[a],c3,bs cl R (λr q J=>?_),λr q=>?_,⟨K.V ck λr q he=>?_,λy M=>?_⟩,?_,λr q=>?_⟩
  .rcases he with he|rfl
   .have:=aW r he;omega
   .omega
  .rcases J with J|J
   .exact cn aI.1 cm Φ J
   .omega
  .obtain⟨e,c,s,_,E⟩:=bK r J;exact b8 cl s (λhe=>E he.symm) q rfl
  .rcases cR r q with h|h
   .exact aV r h
   .omega
  .have he:r=A:=he;subst he;exact cn K cj Φ q
  .rcases j4.1 M with M|M
   .exact aI.sg R (λr q=>by obtain⟨e,c,s,E,_⟩:=bK r q;exact⟨e,c,s,E⟩) y M
   .rw[j6.1 M];have cp:=c0.W bE;exact⟨ch,bs cp R λr q J=>by
     obtain⟨e,c,s,E,_⟩:=bK r J;exact b8 cp s (λhe=>E he.symm) q rfl⟩
  .rw[Z5,aE,r8,C,o9,Z5];rfl
  .rcases bH r q with h|h
   .exact aW r h
   .omega
 rintro W cN ⟨X,bu,d9,gs,B,H,a1,aC,aU,aV,bw,aE,aW⟩;refine cc Ω ?_;rw[o6]at aU aE;refine(QA (bT.W X) Q).Y ?_;rintro a7 a6 _ ⟨an,go,O,K,cq,cr,eh⟩;have ct:O.length=(fV f).length:=by rw[<-cr,u9]
 have ei:O.length<=256:=by
  have h1:=(r2 Q).2.length_eq;have ba:=(mB Q).2.2;have ej:=Q8 fT (fU f);have em:=Q.mw;omega
 have z4:=X.size;have en:=an.size;have eo:=aC.lt;rw[dE cX.u K];refine bZ.range O.length (λi ap=>ot w a6.heap.size gt gs go d9 a7 f O ap/\E3 w a6.heap.size A d9 f.k (dJ f i) O ap) K.le
  ⟨⟨X.F an,p8 _,bu.W an,aU.W an,K,λr q=>by have:=K.lc q;omega,λh ao=>(cq h ao).1⟩,B,H,a1,_,0,[],aC.W an,bw.W an,aE,aW,bh.nil _ _ _ _ _,λx bt=>(by cases bt),rfl,λr q=>(fq q).elim⟩ ?_ ?_
 rotate_left
 .rintro ap c4 ⟨av,B,H,a1,Y,gr,L,bb,bc,Z,aJ,aK,aw,ab,aM⟩;obtain⟨c5,ep,cu,bL,er,es,c6⟩:=id av;have bd:=qJ f O.length;rw[ct,uY]at bd;rw[ct,uY]at bb Z ab;refine cc Ω ?_;rw[bA dV.p dV.i rfl (show ap.rangeAt A 0 [Δ f.k,d9,Δ (cP f).zero,B,Y]from bb.range)];refine b4 (vs:=[Δ f.k,d9,Δ (cP f).zero,B,Y]) dV.i rfl rfl (λu hu=>?_) cu λet aN eu c7=>?_
  .simp at hu;rcases hu with rfl|rfl|rfl|rfl|rfl
   .rfl
   .exact bL.ls.cells.2
   .rfl
   .exact (dg bc.1.sl).2
   .exact (dg aK.sl).2
  rw[fP dV.p dV.i rfl c7.range];have ah:∀r,r=gt->∃e c,ag ap r e c/\e≠au/\e≠ax/\e≠aj/\e≠a8:=λr q=>by
   subst q;exact⟨_,_,cu,Φ,Φ,Φ,Φ⟩
  refine⟨c5.then aN λr q he=>by have he:r=gt:=he;omega,d9,gs,B,H,a1,Y,gr,L,?_,?_,bc.V aN (λr q=>?_),Z,aK.V aN (λr q J=>?_),λh ao=>?_,ab,aV,λh ao r q=>by have:=(cq h (aw h ao)).2 r q;omega⟩
  .rw[bd.1]
  .rw[bd.2.1];refine bs bL aN λr q J=>?_;obtain⟨e,c,s,_,_,E,_⟩:=ah r J;exact b8 bL s (λhe=>E he.symm) q rfl
  .obtain⟨e,c,s,h1,ba,_⟩:=ah r q;exact⟨e,c,s,h1,ba⟩
  .obtain⟨e,c,s,_,_,_,E⟩:=ah r J;exact cn aK s (λhe=>E he.symm) q
  .rw[bd.2.1];exact oq (c6 h (aw h ao)) aN λr q=>by
    obtain⟨e,c,s,h1,_,ba,_⟩:=ah r q;exact .inl ⟨e,c,s,ba,h1⟩
 rintro i ap c4 hi ⟨av,B,H,a1,Y,gr,L,bb,bc,Z,aJ,aK,aw,ab,aM⟩ c8;obtain⟨y,M⟩:=aF (l:=O) hi;have be:=x6 M;have cw:(fV f)[i]?=σ (dK y):=by rw[<-cr,v8,M];rfl
 have bM:=uH Q _ (x6 cw);have bN:=xX cw;obtain⟨ew,ey,ez,eA⟩:=qJ f i;refine bI Ω ?_;refine cW (λbO=>ot w a6.heap.size gt gs go d9 a7 f O bO/\E3 w a6.heap.size A d9 f.k (dJ f (i+1)) O bO) ?_ ?_
 .rintro bO h;rw[aO];exact c8 _ h
 intro ay bP;rw[b7 rfl cX.u a8.i av.2.2.2.2.1 hi,bA a8.p a8.i rfl (av.2.2.2.2.1.range M)];refine bB a8.i λda eD eE db dc=>?_;refine b4 (vs:=dS y) a8.i rfl rfl (av.2.2.2.2.2.2 y be).one dc λdd de eF bf=>?_;have bg:=db.put de Ω;have bj:=av.W bg;have ac:=bb.W bg;have bQ:=bc.W bg;have bl:=aK.W bg;obtain⟨eH,eI,cz,eJ,eK,eL,cA⟩:=id bj;obtain⟨⟨eM,cB⟩,_,df,cC⟩:=cA y be;rw[aL a8.p 0 bf rfl,aY aq.u cB.ls];have eN:a1.length=f.co.length:=by have:=congrArg R6 Z;rw[u9]at this;omega
 have eO:L.length<=256:=by have:=congrArg R6 ab;rw[u9]at this;omega
 rw[bk,ak];refine⟨λeP=>?_,λeQ=>?_⟩
 .
  have ad:y.sc=[]:=c9 Ω;have G:dJ f (i+1)={dJ f i with zero:=y.cs.getD 0 0}:=by rw[bN];unfold kg;simp only[dK,ad]
  have eR:y.cs.length=1:=by have:=bM.len;simpa[dK,ad,b1,aQ]using this
  have dh:y.cs[0]?=σ (y.cs.getD 0 0):=by rw[u4,x7 Ω];rfl
  rw[aL a8.p 2 bf rfl,gI (y:=0) (i:=0) rfl ax.u au.i Ψ cC.ls dh,aT dV.p rfl];refine bq au.i rfl rfl ac Ξ λdj P dk dl=>?_;refine bP _ ⟨bj.V P λr q=>?_,B,H,a1,Y,gr,L,?_,bQ.V P (λr q=>?_),by rw[G];exact Z,aJ,bl.V P (λr q J=>?_),aw,by rw[G];exact ab,aM⟩
  .have q:r=A:=q;subst q;exact⟨Ω,E,.inl ⟨_,ac⟩⟩
  .rw[G];exact dl
  .have q:r=A:=q;subst q;exact⟨_,_,ac,Φ,Φ⟩
  .have J:r=A:=J;subst J;exact cn bl ac Φ q
 rw[bk,ak];refine⟨λh1=>?_,λeS=>?_⟩
 .
  obtain⟨v,ad⟩:∃v,y.sc=[v]:=V6.1 Ω;have eU:=bM.scope.1 v (by show v∈y.sc;rw[ad];exact .head _);have eV:=bM.d6 v (by show v∈y.sc;rw[ad];exact .head _);have G:dJ f (i+1)={dJ f i with unary:=(dJ f i).unary.set v.toNat y.cs}:=by rw[bN];unfold kg;simp only[dK,ad]
  intro dm S _ _;have bR:=ac.W S;have cD:=bf.W S;have aP:=bQ.W S;have dn:=bj.W S;have cE:=bl.W S;rw[aL dV.p 3 bR rfl,aL a8.p 0 cD rfl];refine qm rfl aq.u aj.i (cB.ls.W S) (show y.sc[0]?=σ v by rw[ad];rfl) λb o dp=>?_;rw[aD Ψ dp,aL a8.p 2 cD rfl];obtain⟨u,hu⟩:=aF (l:=a1) (i:=v.toNat) Ω;rw[b7 (i:=v.toNat) Ω ev.u ax.i aP.1 Ω];let a:mE:=⟨y.a7,y.cs⟩;have bm:=cC.W S;refine k9 (j:=0) (a:=u) (a':=a) ax.i bm.ls.cells.1 bm.ls.cells.2 aP.1 hu rfl Ω λdj P dk dq=>?_;have am:∀{r:Nat},hp B r->∃c,ag dm r ax c:=λq=>by
   obtain⟨rfl,c,s⟩:=eb aP.1 q;exact⟨c,s⟩
  refine bP _ ⟨dn.V P λr q=>?_,B,H,a1.set v.toNat a,Y,gr,L,?_,⟨dq,λz C=>?_⟩,?_,aJ,cE.V P (λr q J=>?_),aw,by rw[G];exact ab,aM⟩
  .obtain⟨c,s⟩:=am q;exact⟨aJ r q,λhe=>(by subst he;exact m6 (eC s (cz.W S)) Φ),.inr (.inl ⟨c,s⟩)⟩
  .rw[G];exact bR.V P λhe=>cn aP.1 bR Φ he
  .rcases V0 C with C|rfl
   .exact aP.sg P (λr q=>by obtain⟨c,s⟩:=am q;exact⟨_,c,s,Φ⟩) z C
   .exact⟨df,bs bm P λr q J=>by
     obtain⟨c,s⟩:=am J;exact b8 bm s Φ q rfl⟩
  .rw[G,T2,Z]
  .obtain⟨c,s⟩:=am J;exact cn cE s Φ q
 .
  have G:dJ f (i+1)={dJ f i with d7:=(dJ f i).d7++[dK y]}:=by
   rw[bN];unfold kg;have cF:2<=(dK y).1.length:=by show 2<=y.sc.length;omega
   generalize dK y=g at cF ⊢;obtain⟨sc,cs⟩:=g
   match sc,cF with
   |_::_::_,_=>rfl
  rw[aL dV.p 4 ac rfl,bA a8.p a8.i rfl (show dd.rangeAt da 0 (dS y)from bf.range)];refine iS cX.u a8.i Ω rfl rfl λeW eX dr eY az ds=>?_;have bn:=bl.W az;have dt:=bQ.W az;have bo:=ac.W az;have du:=bj.W az;refine jo cX.u a8.i rfl bn (by simpa using ds.sl) (cA y be).one Ω Ω λbF bG eZ bp bH cG=>?_;have cH:=bo.V cG λhe=>cn bn bo Φ he;rw[aT dV.p rfl];refine bq cX.i (dg bp.sl).1 (dg bp.sl).2 cH Ξ λdv cI e0 dw=>?_;have R:af (λr=>hp Y r\/r=A) dr dv:=(cG.Y λr _ h=>.inl h).F (cI.Y λr _ h=>.inr h);have e1:=az.size;refine bP _ ⟨du.V R λr q=>?_,B,H,a1,bF,bG,L++[y],?_,dt.V R (λr q=>?_),by rw[G];exact Z,aJ,bp.V cI (λr q J=>?_),λz C=>?_,?_,λr q=>?_⟩
  .rcases q with q|rfl
   .obtain⟨rfl,c,s⟩:=eb bn q;have:=aM _ q;refine⟨Ω,λhe=>?_,.inr (.inr ⟨⟨c,s⟩,this⟩)⟩;subst he;exact m6 (eC s (cz.W az)) Φ
   .exact⟨Ω,E,.inl ⟨_,bo⟩⟩
  .rw[G];exact dw
  .rcases q with q|rfl
   .obtain⟨rfl,c,s⟩:=eb bn q;exact⟨_,c,s,Φ,Φ⟩
   .exact⟨_,_,bo,Φ,Φ⟩
  .have J:r=A:=J;subst J;exact cn bp cH Φ q
  .rcases j4.1 C with C|C
   .exact aw z C
   .rw[j6.1 C];exact be
  .rw[G,Z5,ab];rfl
  .rcases bH r q with h|h
   .exact aM r h
   .omega
def sw(w:x4)(S:Nat->Prop)(e:p9):Prop:=∀r,S r->∃c,ag w r e c
theorem yq{k:o7}{g:Nat}(h:aA k a w g v l)(f:af S w I)(j:sw w S e)(p:a≠e):aA k a I g v l:=bs h f λr q J=>by
 obtain⟨c,s⟩:=j r J;exact b8 h s p q rfl
theorem E5{α:Type}{f:α->List x1}{k:Nat}{g:Nat}{L:List α}(h:bh f k a w g v L)(j:af S w I)(p:sw w S e)(q:a≠e):bh f k a I g v L:=h.V j λr s J=>by
 obtain⟨c,x⟩:=p r J;exact cn h x q s
theorem yr{r:Nat}{c:List x1}(h:ag w r a c)(f:af S w I)(j:sw w S e)(p:a≠e):ag I r a c:=h.V f λJ=>by
 obtain⟨c,q⟩:=j r J;exact p (eC h q)
theorem E6{g:Nat}{c:List x1}(h:ag w g e c):sw w (λr=>r=g) e:=λr a=>by
 have a:r=g:=a;subst a;exact⟨c,h⟩
theorem sx{k:o7}{g:Nat}(h:aA k e w g v l):sw w (λr=>lc v r) e:=λr f=>by
 have f:=f;obtain⟨rfl,_⟩:=bV h f;obtain⟨_,⟨p,_⟩|⟨cap,full,_,q,_⟩⟩:=h
 .obtain⟨a,n,c,j,_⟩:=f;rw[p]at j;cases j
 .exact⟨_,q⟩
def aC(x:bz):Λ:=((W3 x.un.length).map λv:Nat=>(v:Int)).filter λv=>!dropped x.mask v
theorem ys{P:V5}{k:o7}{t:p9}{b:Nat}{K:x1->x4->Prop}(a:P.underlying t=σ (.slice e))(hi:aP P e 1 b z)(f:∀v g I,g=w.heap.size->Ext w I->aA k e I g v []->K v I):aH P (X2 t 0 #[]) w K:=
 lL a hi Ω (cs:=#[]) (by simp[Instr.fill]) λg I h j p=>f _ g I h j (aA.of (b0.full (by simpa using p) Ξ (by simp[maxLen])))
theorem QC{n:aI}(h:yp w B v n){g:Nat}(j:ag I g dV v.cells.toList):∃d9 gz a f a1 e gr L,ag I g dV [Δ n.k,d9,Δ n.zero,a,e]/\aA .i64 aj w gz d9 n.co/\iX w f a a1/\a1.map (·.l)=n.unary/\bh dS 3 a8 w gr e L/\(∀h∈L,fY w n.co h)/\L.map dK=n.d7/\(∀r,lc d9 r->B<=r)/\∀h∈L,∀r,qP h r->B<=r:=by
 obtain⟨d9,gz,a,f,a1,e,gr,L,rfl,p,q,x,s,y,z⟩:=h;obtain⟨_,_,_,A⟩:=dr p.ls;obtain⟨_,_,_,_,_,C,_⟩:=q.1.sl;obtain⟨_,_,_,_,_,E,_⟩:=s.sl;refine⟨d9,gz,a,f,a1,e,gr,L,?_,p,q,x,s,y,z⟩;rw[A,C,E]at j ⊢;exact j
def z12:List x1:=[Δ 0,.slice ν 0 0,Δ 0,.slice ν 0 0,.slice ν 0 0,.slice ν 0 0,.slice ν 0 0,.slice ν 0 0]
theorem QD(u:Λ):aC (newVar u)=(W3 u.length).map λv:Nat=>(v:Int):=by
 unfold aC newVar dropped;rw[List.filter_eq_self.2];intro a _;simp
section
variable{P:V5}{w:x4}{t:p9}{cx cy:Bool}{a b:Nat}{K:x1->Prop}
theorem QE(f:a<2 ^ 62)(h:b<2 ^ 62):ab P (aN .or t cx cy (Δ a) (Δ b)) w K=K (Δ ((a ||| b:Nat):Int)):=ab.of λI _=>by
 have e:(T9 64 (a:Int) ||| T9 64 (b:Int)).toNat=a ||| b:=by
  rw[n8,n8,BitVec.toNat_or,BitVec.toNat_ofNat,BitVec.toNat_ofNat,Nat.mod_eq_of_lt Ω,Nat.mod_eq_of_lt Ω]
 have p:a ||| b<2 ^ 62:=Nat.or_lt_two_pow f h;have hw:W6.wrap ((a ||| b:Nat):Int)=((a ||| b:Nat):Int):=li Ω Ω;have j:(T9 W6.bits (a:Int) ||| T9 W6.bits (b:Int)).toNat=a ||| b:=e;simp only[aN,eqGuard,binOp,Op.intBits,j,hw];rfl
theorem E7(j:a<2 ^ 62)(f:b<2 ^ 62):ab P (aN .and t cx cy (Δ a) (Δ b)) w K=K (Δ ((a &&& b:Nat):Int)):=ab.of λI _=>by
 have e:(T9 64 (a:Int) &&& T9 64 (b:Int)).toNat=a &&& b:=by
  rw[n8,n8,BitVec.toNat_and,BitVec.toNat_ofNat,BitVec.toNat_ofNat,Nat.mod_eq_of_lt Ω,Nat.mod_eq_of_lt Ω]
 have p:a &&& b<2 ^ 62:=Nat.and_lt_two_pow _ f;have hw:W6.wrap ((a &&& b:Nat):Int)=((a &&& b:Nat):Int):=li Ω Ω;have h:(T9 W6.bits (a:Int) &&& T9 W6.bits (b:Int)).toNat=a &&& b:=e;simp only[aN,eqGuard,binOp,Op.intBits,h,hw];rfl
theorem QF{k:o7}{n:Nat}(a:n<62):ab P (aN .shl t cx cy (Δ 1) (.int k (n:Int))) w K=K (Δ ((2 ^ n:Nat):Int)):=by
 rw[Be Ω];have e:min ((n:Int).toNat) W6.bits=n:=Q6 (by show n<=64;omega);have f:2 ^ n<2 ^ 62:=Nat.pow_lt_pow_right Ω a;rw[e,Int.one_mul,show((2:Int) ^ n)=((2 ^ n:Nat):Int) by simp];generalize 2 ^ n=q at f ⊢;rw[li Ω Ω]
end
theorem E8(a n:Nat):(a / 2 ^ n &&& 1=1)↔a.testBit n=ro:=by
 rw[Nat.and_one_is_mod,Nat.testBit_eq_decide_div_mod_eq,ne]
theorem E9{b n:Nat}{v:Int}(q:mv b n):al x8 IU [kc b n,Δ v] w λr I=>r= .bool (decide (0<=v/\v<n)&&b.testBit v.toNat)/\Ext w I:=by
 refine aB func98 ?_;refine bo λg U A e f=>?_;refine aV (λr aa=>r= .bool (decide (0<=v/\v<n)&&b.testBit v.toNat)/\Ext w aa) (λ_ _ h=>h) λay j=>?_;rw[bA b3.p b3.i rfl f.range];refine Cf.Y ?_;rintro _ B _ ⟨rfl,a⟩;rw[ak];refine⟨λh=>?_,λh=>j _ _ ⟨by rw[ms h];rfl,e.F a⟩⟩;obtain⟨x,C⟩:=q;obtain⟨s,rfl⟩:∃s:Nat,v=s:=⟨v.toNat,Ω⟩;have y:=f.W a;have E:(2:Nat) ^ n<=2 ^ 32:=S4 Ω x;have z:b / 2 ^ s<2 ^ 64:=Nat.lt_of_le_of_lt (Nat.div_le_self _ _) Ω;rw[aL b3.p 0 y rfl,mu Ω,show(1:Int)=((1:Nat):Int)from rfl,u64_and z Ω,bk];refine j _ _ ⟨?_,e.F a⟩;congr 1;rw[m7 h,S0,U9,ne,u6,<-E8];omega
theorem QG(m v:Nat):dropped (m:Int) (v:Int)=m.testBit v:=by unfold dropped;rw[u6,u6]
def bt(w:x4)(ad ae:Nat)(A R:ah)(n:aI)(s:am)(t:aw):Prop:=StateM w ad ae A R n s t/\t.bM=s.cells/\mG t/\bd n.k n.co s/\lg n
theorem bt.W{A R:ah}{n:aI}{s:am}{t:aw}(h:bt w ad ae A R n s t)(a:Ext w I):bt I ad ae A R n s t:=⟨h.1.W a,h.2⟩
theorem StateM.parts{A R:ah}{n:aI}{s:am}{t:aw}(h:StateM w ad ae A R n s t):∃a e f j bc p L q,ag w ad b9 [Γ a,Γ ae,e,f,j]/\gu w a n/\c3 w ae q t/\aA .i64 aj w bc e (ix s)/\bh oi 3 dU w p f L/\mH R w L s:=by
 obtain⟨a,e,f,j,_,bc,p,ge,L,E,q,w0,r,⟨x,y,G⟩,⟨z,H,I,J⟩,B,⟨C,F⟩,K,M⟩:=h;exact⟨a,e,f,j,bc,p,L,q,r,x.W y,z,B,C,F⟩
theorem sy{s:am}{i:Nat}(h:i<s.d6.length):(ix s)[i]?=σ (gv s i:Int):=by
 unfold ix;rw[v8,List.getElem?_range h];rfl
theorem vc{s:am}{t:aw}(a:t.bM=s.cells)(J:mG t):s.cells.length<=100000000:=by
 rw[<-a];unfold aw.bM;rw[u9];exact J.1
theorem vd{s:am}{i:Nat}{x:bz}(h:s.d6[i]?=σ x):gv s i+x.un.length+2<=s.cells.length:=by
 have h1:=qL h (j:=x.un.length+1) Ω;have a:(gP x)[x.un.length+1]? ≠ν:=by
  rw[Ne,List.getElem?_eq_none_iff];show¬(x.un.length+1+1<=x.un.length+1);omega
 rw[<-h1]at a;have:=(x5.1 (Option.ne_none_iff_exists'.1 a).choose_spec).1;omega
theorem Fa{s:am}{f:ch}(h:s.d7[j]?=σ f):eW s j+f.cs.length+1<=s.cells.length:=by
 have h1:=x0 h (j:=f.cs.length) Ω;have a:(ih f)[f.cs.length]? ≠ν:=by
  rw[Ne,List.getElem?_eq_none_iff];show¬(f.cs.length+1<=f.cs.length);omega
 rw[<-h1]at a;have:=(x5.1 (Option.ne_none_iff_exists'.1 a).choose_spec).1;omega
section
variable{w:x4}{ad ae:Nat}{A R:ah}{n:aI}{s:am}{t:aw}
theorem Fb(h:bt w ad ae A R n s t):al x8 IQ [Γ ad] w λv I=>(∃a,v=Γ a/\gu I a n)/\Ext w I:=by
 obtain⟨a,j,q,r,bc,x,L,y,e,f,z,B,C,E⟩:=h.1.parts;refine aB func93 ?_;rw[cR dx.u];simp only[Z3,aX];rw[aG b9.p 0 e rfl];exact⟨⟨a,rfl,f⟩,Ext.refl _⟩
theorem yt(h:bt w ad ae A R n s t):al x8 Ic [Γ ad] w λv I=>v=Δ (n.co.length:Int)/\Ext w I:=by
 refine aB func46 ?_;refine(Fb h).Y ?_;rintro _ U _ ⟨⟨j,rfl,a⟩,e⟩;refine(x3 a).Y ?_;rintro _ aa _ ⟨rfl,f⟩;exact⟨rfl,e.F f⟩
theorem ou(h:bt w ad ae A R n s t):al x8 Js [Γ ad] w λv I=>v=Δ n.k/\Ext w I:=by
 refine aB func155 ?_;refine(Fb h).Y ?_;rintro _ U _ ⟨⟨j,rfl,a⟩,e⟩;refine(PN a).Y ?_;rintro _ aa _ ⟨rfl,f⟩;exact⟨rfl,e.F f⟩
theorem yu{i:Int}(h:bt w ad ae A R n s t):al x8 Iu [Γ ad,Δ i] w λv I=>v= .bool (decide (0<=i/\i<n.co.length))/\Ext w I:=by
 refine aB func65 ?_;refine aV (λv U=>v= .bool (decide (0<=i/\i<n.co.length))/\Ext w U) (λ_ _ h=>h) λay a=>?_;rw[cH,ak];refine⟨λe=>?_,λe=>a _ _ ⟨by rw[ms Ω],Ext.refl _⟩⟩;refine(yt h).Y ?_;rintro _ U _ ⟨rfl,f⟩;rw[aR];refine a _ _ ⟨?_,f⟩;congr 1;exact decide_eq_decide.2 ⟨λh=>⟨e,h⟩,λh=>h.2⟩
theorem sz(h:bt w ad ae A R n s t):al x8 HZ [Γ ad] w λv I=>v=Δ s.zero/\Ext w I:=by
 obtain⟨j,q,r,x,bc,y,L,z,a,B,e,C,E,G⟩:=h.1.parts;refine aB func13 ?_;rw[cR dx.u];simp only[Z3,aX];rw[aG b9.p 1 a rfl];refine(mF e rfl (show t.bM[0]?=σ s.zero by rw[h.2.1];exact PG s)).Y ?_;rintro _ U _ ⟨rfl,f⟩;exact⟨rfl,f⟩
theorem sA(h:bt w ad ae A R n s t):al x8 H0 [Γ ad] w λv I=>v=Δ (s.d7.length:Int)/\Ext w I:=by
 obtain⟨j,q,r,x,bc,y,L,z,a,B,C,E,e,f⟩:=h.1.parts;refine aB func15 ?_;rw[cR dx.u];simp only[Z3,aX];rw[aG b9.p 3 a rfl,dE fa.u e];exact⟨by rw[f.1],Ext.refl _⟩
def du(s:am)(i:Nat):Bool:=match s.d6[i]? with
 |some x=>decide (x.gone≠0)
 |none=>rs
theorem sB{i:Int}(h:bt w ad ae A R n s t):al x8 If [Γ ad,Δ i] w λv I=>v= .bool (decide (0<=i)&&du s i.toNat)/\Ext w I:=by
 refine aB func48 ?_;refine aV (λv U=>v= .bool (decide (0<=i)&&du s i.toNat)/\Ext w U) (λ_ _ h=>h) λay e=>?_;intro aa f _ _;refine(yu (h.W f)).Y ?_;rintro _ J _ ⟨rfl,r⟩;have a:=f.F r;have K:=h.2.2.2.1.d6;rw[ak];refine⟨λz=>?_,λM=>e _ _ ⟨?_,a⟩⟩
 .obtain⟨N,O,P,Q,bc,S,L,V,j,W,B,C,X,Y⟩:=(h.W a).1.parts;obtain⟨x,q⟩:=aF (l:=s.d6) (i:=i.toNat) Ω;rw[aG b9.p 1 j rfl,aG b9.p 2 j rfl,gI (y:=i) (i:=i.toNat) Ω aq.u aj.i Ψ C.ls (sy Ω)];have E:t.bM[gv s i.toNat+0]?=σ x.gone:=by rw[h.2.1,qL q Ω];rfl
  refine(mF B rfl E).Y ?_;rintro _ Z _ ⟨rfl,G⟩;rw[bF];refine e _ _ ⟨?_,a.F G⟩;rw[m7 z.1,S0];unfold du;rw[q]
 .by_cases H:0<=i
  .unfold du;rw[Y4 Ω,Bool.and_false]
  .rw[ms H];rfl
def et(n:aI)(i v:Int):Prop:=0<=i/\i<n.co.length/\0<=v/\v<n.co.getD i.toNat 0
instance (n:aI) (i v:Int):Decidable (et n i v):=inferInstanceAs (Decidable (_/\_))
theorem et.var{i v:Int}(h:et n i v)(a:bd n.k n.co s):∃x,s.d6[i.toNat]?=σ x/\v.toNat<x.un.length/\x.un.length<=32/\n.co.getD i.toNat 0=x.un.length:=by
 obtain⟨h1,p,q,j⟩:=h;have r:=a.d6;obtain⟨x,f⟩:=aF (l:=s.d6) (i:=i.toNat) Ω;obtain⟨z,e⟩:=aF (l:=n.co) (i:=i.toNat) Ω;have w:=a.eD.2.2 z (x6 e);have y:=(a.var i.toNat x z f e).1;rw[u4,e,V9]at j ⊢;exact⟨x,f,Ω,Ω,Ω⟩
theorem yv{i v:Int}(h:bt w ad ae A R n s t):al x8 IL [Γ ad,Δ i,Δ v] w λr I=>r=Δ (if et n i v then((gv s i.toNat+2+v.toNat:Nat):Int)else-1)/\Ext w I:=by
 have ab:=h.2.2.2.1.d6;refine aB func85 ?_;refine aV (λr U=>r= .bool (decide (¬et n i v))/\Ext w U) ?_ ?_
 .rintro _ U ⟨rfl,q⟩;rw[ak];refine⟨λG=>⟨by rw[m5 G],q⟩,λf=>?_⟩;have f:=X5.1 f;obtain⟨x,H,ac,af,_⟩:=f.var h.2.2.2.1;obtain⟨J,K,M,N,bc,O,L,P,a,B,Q,C,S,V⟩:=(h.W q).1.parts;have E:=vd H;have ag:=vc h.2.1 h.2.2.1;obtain⟨h1,ah,ai,am⟩:=id f;rw[aG b9.p 2 a rfl,gI (y:=i) (i:=i.toNat) Ω aq.u aj.i Ψ C.ls (sy Ω),aO,li Ω Ω,aO,li Ω Ω,m3 f];refine⟨?_,q⟩;congr 1;omega
 .intro ay z;refine(yu h).Y ?_;rintro _ aa _ ⟨rfl,j⟩;rw[bC,bY];refine⟨λa=>?_,λa=>?_⟩
  .have a:¬(0<=i/\i<n.co.length):=λW=>by rw[m7 W]at a;cases a
   exact z _ _ ⟨by rw[m7];exact λe=>a ⟨e.1,e.2.1⟩,j⟩
  have a:0<=i/\i<n.co.length:=by simpa using a
  rw[aR,ak];refine⟨λX=>z _ _ ⟨by rw[m7];exact λe=>by have:=e.2.2.1;omega,j⟩,λX=>?_⟩;obtain⟨J,K,M,N,bc,O,L,P,Y,B,Q,C,S,V⟩:=(h.W j).1.parts;rw[aG b9.p 0 Y rfl];refine(Ev B h.2.2.2.2).Y ?_;rintro _ an _ ⟨Z,rfl⟩;rw[m3 a.1,cH];refine z _ _ ⟨?_,j.F Z⟩;congr 1;refine decide_eq_decide.2 ⟨λh e=>?_,λh=>?_⟩
  .have:=e.2.2.2;omega
  .refine Int.not_lt.1 λE=>h ⟨a.1,a.2,Ω,E⟩
def fj(s:am)(i v:Nat):Int:=match s.d6[i]? with
 |some x=>x.un.getD v 0
 |none=>0
theorem pJ{i v:Int}(h:bt w ad ae A R n s t):al x8 AF [Γ ad,Δ i,Δ v] w λr I=>r=(if et n i v then .tuple #[Δ (fj s i.toNat v.toNat),Δ 0]else .tuple #[Δ 0,Δ 1])/\Ext w I:=by
 refine aB func36 ?_;rw[cR dx.u];simp only[Z3,aX];refine(yv h).Y ?_;rintro _ U _ ⟨rfl,e⟩;by_cases a:et n i v
 .rw[m3 a,m3 a];refine cc Ω ?_;obtain⟨x,f,j,C,_⟩:=a.var h.2.2.2.1;obtain⟨E,G,H,J,bc,K,L,M,q,N,y,O,P,Q⟩:=(h.W e).1.parts;rw[aG b9.p 1 q rfl];have z:t.bM[gv s i.toNat+2+v.toNat]?=σ (x.un.getD v.toNat 0):=by
   rw[h.2.1,R5,qL f Ω,show 2+v.toNat=v.toNat+1+1 by omega];show x.un[v.toNat]?=_;rw[u4,x7 j];rfl
  refine(mF y rfl z).Y ?_;rintro _ aa _ ⟨rfl,B⟩;refine⟨?_,e.F B⟩;unfold fj;rw[f]
 .rw[m5 a,m5 a,aR,ak];exact⟨λ_=>⟨rfl,e⟩,λh=>Ω⟩
def e7(s:am)(j:Nat):Bool:=match s.d7[j]? with
 |some f=>decide (f.live≠0)
 |none=>rs
theorem ve{j:Int}(h:bt w ad ae A R n s t):al x8 Ig [Γ ad,Δ j] w λv I=>v= .bool (decide (0<=j)&&e7 s j.toNat)/\Ext w I:=by
 refine aB func49 ?_;refine aV (λv U=>v= .bool (decide (0<=j)&&e7 s j.toNat)/\Ext w U) (λ_ _ h=>h) λay a=>?_;intro aa e _ _;rw[cH,ak];refine⟨λq=>?_,λq=>a _ _ ⟨by rw[ms q];rfl,e⟩⟩;refine(sA (h.W e)).Y ?_;rintro _ N _ ⟨rfl,G⟩;have r:=e.F G;rw[aR,ak];refine⟨λO=>?_,λP=>a _ _ ⟨?_,r⟩⟩
 .obtain⟨Q,S,V,W,bc,X,L,Y,B,Z,H,ab,C,x⟩:=(h.W r).1.parts;obtain⟨f,z⟩:=aF (l:=s.d7) (i:=j.toNat) Ω;obtain⟨y,E⟩:∃y,L[j.toNat]?=σ y:=⟨_,x7 (by rw[x.1];omega)⟩;obtain⟨_,_,J⟩:=x.2 j.toNat y f E z;rw[aG b9.p 1 B rfl,aG b9.p 3 B rfl,b7 (i:=j.toNat) Ω fa.u dU.i C (by rw[x.1];omega),aT dU.p rfl,aD Ψ (C.range E 2 _ rfl)];have K:t.bM[eW s j.toNat+0]?=σ f.live:=by rw[h.2.1,x0 z Ω];rfl
  refine(mF (i:=eW s j.toNat) H (by rw[J]) K).Y ?_;rintro _ ac _ ⟨rfl,M⟩;rw[bF];refine a _ _ ⟨?_,r.F M⟩;rw[m7 q,S0];unfold e7;rw[z]
 .unfold e7;rw[Y4 Ω,Bool.and_false]
end
def vf(s:am)(n:aI)(i:Int)(b m:Nat):Prop:=mv b m/\(¬(0<=i/\i<n.co.length)->b=0/\m=0)/\∀x,0<=i->s.d6[i.toNat]?=σ x->m=x.un.length/\∀j:Nat,b.testBit j=(decide (j<x.un.length)&& !dropped x.mask (j:Int))
section
variable{w:x4}{ad ae:Nat}{A R:ah}{n:aI}{s:am}{t:aw}
theorem jP{i:Int}(h:bt w ad ae A R n s t):al x8 H4 [Γ ad,Δ i] w λv I=>(∃b m,v=kc b m/\vf s n i b m)/\Ext w I:=by
 have bo:=h.2.2.2.1.d6;refine aB func25 ?_;refine bB b3.i λB U bp an P=>?_;have P:=P;refine(yu (h.W an)).Y ?_;rintro _ aa _ ⟨rfl,ao⟩;have Q:=P.W ao;have S:=an.F ao;rw[bC,bY];refine⟨λa=>?_,λa=>?_⟩
 .have a:¬(0<=i/\i<n.co.length):=λaN=>by rw[m7 aN]at a;cases a
  rw[di (cs:=#[.int .u64 0,Δ 0]) Ψ];refine b4 (vs:=[.int .u64 0,Δ 0]) b3.i rfl rfl (by intro u hu;simp at hu;rcases hu with rfl|rfl<;>rfl) Q λbq aP br aQ=>?_;rw[fP b3.p b3.i rfl aQ.range];refine⟨⟨0,0,rfl,⟨Ω,Ξ⟩,λ_=>⟨rfl,rfl⟩,λx ap aR=>?_⟩,S.put aP Ω⟩;have:=(x5.1 aR).1;exact m6 ⟨ap,Ω⟩ a
 have a:0<=i/\i<n.co.length:=by simpa using a
 obtain⟨x,E⟩:=aF (l:=s.d6) (i:=i.toNat) Ω;obtain⟨z,W⟩:=aF (l:=n.co) (i:=i.toNat) Ω;have aS:=h.2.2.2.1.eD.2.2 z (x6 W);obtain⟨bs,_,bx,bz⟩:=h.2.2.2.1.var i.toNat x z E W;obtain⟨aT,aU,aV,aW,bc,aX,L,aY,G,au,_⟩:=(h.W S).1.parts;rw[aG b9.p 0 G rfl];refine(Ev au h.2.2.2.2).Y ?_;rintro _ bD _ ⟨X,rfl⟩;rw[m3 a.1,u4,W,V9];refine Mc.Y ?_;rintro _ bE _ ⟨Y,rfl⟩;rw[m3 aS];obtain⟨m,rfl⟩:∃m:Nat,z=m:=⟨z.toNat,Ω⟩;rw[bu,bw,u6];have av:=(S.F X).F Y;refine bB b3.i λe bF bG aw aZ=>?_;refine b4 (vs:=[.int .u64 ((2 ^ m-1:Nat):Int),Δ (m:Int)]) b3.i rfl rfl (by intro u hu;simp at hu;rcases hu with rfl|rfl<;>rfl) aZ λa1 ax bH a2=>?_;have z5:=av.size;have az:=(av.F aw).put ax Ω;have bJ:=(((Q.W X).W Y)).lt;have a6:ag a1 B b3 [.int .u64 0,Δ 0]:=(((Q.W X).W Y).W aw).V ax λhe=>by have he:=he;omega
 intro bK Z _ _;have aA:=az.F Z;obtain⟨aT,aU,aV,aW,bc,aX,L,aY,G,au,a7,a8,_⟩:=(h.W aA).1.parts;have bL:=vd E;have bN:=vc h.2.1 h.2.2.1;rw[aG b9.p 1 G rfl,aG b9.p 2 G rfl,gI (y:=i) (i:=i.toNat) Ω aq.u aj.i Ψ a8.ls (sy Ω),aO,li Ω Ω];have ba:t.bM[gv s i.toNat+1]?=σ x.mask:=by rw[h.2.1,qL E Ω];rfl
 refine(mF a7 Ω ba).Y ?_;rintro _ bb _ ⟨rfl,ab⟩;have aC:=(a2.W Z).W ab;have bd:=(a6.W Z).W ab;obtain⟨mk,aD⟩:∃mk:Nat,x.mask=mk:=⟨x.mask.toNat,Ω⟩;rw[bA b3.p b3.i rfl (show bb.rangeAt e 0 [.int .u64 ((2 ^ m-1:Nat):Int),Δ (m:Int)]from aC.range)];refine(xf).Y ?_;rintro _ bO _ ⟨rfl,ac⟩;have be:=aA.F ab;have bf:B≠e:=Ω
 have bP:=az.size;have bQ:w.heap.size<=e:=Ω
 have bR:w.heap.size<=B:=Ω
 refine bZ.range m (λq f=>Ext w f/\ag f B b3 [.int .u64 0,Δ 0]/\∃b:Nat,ag f e b3 [.int .u64 (b:Int),Δ (m:Int)]/\mv b m/\∀j:Nat,b.testBit j=(decide (j<m)&& !(decide (j<q)&&mk.testBit j))) Ω
  ⟨be.F ac,bd.W ac,_,aC.W ac,⟨Ω,by have:=Nat.two_pow_pos m;omega⟩,λj=>by rw[Ce];simp⟩ ?_ ?_
 .rintro q f bg bS ⟨H,J,b,C,K,M⟩ bh;refine bI Ω ?_;refine cW (λN=>Ext w N/\ag N B b3 [.int .u64 0,Δ 0]/\∃b:Nat,ag N e b3 [.int .u64 (b:Int),Δ (m:Int)]/\mv b m/\∀j:Nat,b.testBit j=(decide (j<m)&& !(decide (j<q+1)&&mk.testBit j))) ?_ ?_
  .rintro N bi;rw[aO];exact bh _ bi
  intro ay aE;have bj:mk / 2 ^ q<2 ^ 62:=Nat.lt_of_le_of_lt (Nat.div_le_self _ _) Ω;rw[aD,Df Ω,show(1:Int)=((1:Nat):Int)from rfl,E7 bj Ω,bk,ak];have aH:(((mk / 2 ^ q &&& 1:Nat):Int)=((1:Nat):Int))↔mk.testBit q=ro:=by rw[<-E8];omega
  refine⟨λaf=>?_,λah=>?_⟩
  .have af:=aH.1 af;rw[bA b3.p b3.i rfl (show f.rangeAt e 0 [.int .u64 (b:Int),Δ (m:Int)]from C.range)];refine(Me K).Y ?_;rintro _ bT _ ⟨rfl,ai⟩;rw[m3 ⟨Ω,Ω⟩,u6];refine b4 (vs:=[.int .u64 ((k5 b (2 ^ q):Nat):Int),Δ (m:Int)]) b3.i rfl rfl (by intro u hu;simp at hu;rcases hu with rfl|rfl<;>rfl) (C.W ai) λbU aI bV bl=>?_;have aJ:∀j:Nat,(k5 b (2 ^ q)).testBit j=(decide (j<m)&& !(decide (j<q+1)&&mk.testBit j)):=λj=>by
    rw[B6,M,Nat.testBit_two_pow];by_cases aK:j<m
    .by_cases O:j=q
     .subst O;simp[af]
     .have am:decide (j<q+1)=decide (j<q):=decide_eq_decide.2 ⟨λh=>Ω,λh=>Ω⟩;rw[am,m7 aK,m7 (show j<64 by omega),ms (show¬q=j from λh=>O h.symm)];simp
    .simp[aK]
   refine aE _ ⟨(H.F ai).then aI λr bW he=>by have he:r=e:=he;omega,(J.W ai).V aI λhe=>bf he,_,bl,⟨Ω,L5 λj aL=>by rw[aJ,ms Ω];rfl⟩,aJ⟩
  .have ah:mk.testBit q=rs:=by simpa using λh=>ah (aH.2 h)
   refine aE _ ⟨H,J,b,C,K,λj=>?_⟩;rw[M];by_cases O:j=q
   .subst O;simp[ah]
   .have am:decide (j<q+1)=decide (j<q):=decide_eq_decide.2 ⟨λh=>Ω,λh=>Ω⟩;rw[am]
 .rintro f bg ⟨H,J,b,C,K,M⟩;refine cc Ω ?_;rw[bA b3.p b3.i rfl (show f.rangeAt e 0 [.int .u64 (b:Int),Δ (m:Int)]from C.range)];refine b4 (vs:=[.int .u64 (b:Int),Δ (m:Int)]) b3.i rfl rfl (by intro u hu;simp at hu;rcases hu with rfl|rfl<;>rfl) J λbX bm b0 bn=>?_;rw[fP b3.p b3.i rfl bn.range];refine⟨⟨b,m,rfl,K,λh=>m6 a h,λy ap aM=>?_⟩,H.put bm Ω⟩;rw[E]at aM;cases aM;refine⟨Ω,λj=>?_⟩;rw[M,aD,QG,show x.un.length=m by omega];by_cases aL:j<m<;>simp[aL]
theorem Fc{f:ch}(e:bd k co s)(j:f∈s.d7):ca f.ai/\f.cs.length=(aQ f.ai).toNat/\aQ f.ai<=4096:=by
 obtain⟨a,J,_⟩:=e.d7 f j;rw[J];refine⟨⟨?_,og e.eD.2.2 λv h=>⟨(a.scope.1 v h).1,a.d6 v h⟩⟩,a.len,a.small⟩;have:=a.scope.2;simp[b1];exact this
def gQ(s:am)(j:Nat)(tl:Λ):Option Nat:=match s.d7[j]? with
 |some f=>if f.live≠0 then(cz f.ai tl 0).map λm=>eW s j+1+m.toNat else ν
 |none=>ν
def nD(s:am)(j:Nat)(tl:Λ):Int:=match s.d7[j]? with
 |some f=>br f.ai f.cs tl
 |none=>0
theorem Fe(h:bt w ad ae A R n s t)(N:aM .i64 w aS tl):al x8 IM [Γ ad,Δ (j:Int),aS] w λv I=>v=Δ (match gQ s j tl with|some p=>(p:Int)|none=>-1)/\Ext w I:=by
 refine aB func86 ?_;refine(ve h).Y ?_;rintro _ U _ ⟨rfl,B⟩;rw[m7 Ω,S0,u6,bC,bY];refine⟨λa=>⟨?_,B⟩,λa=>?_⟩
 .have a:e7 s j=rs:=by simpa using a
  have:gQ s j tl=ν:=by
   unfold gQ;unfold e7 at a;cases e:s.d7[j]? with
   |none=>rfl
   |some f=>
    rw[e]at a;have a:f.live=0:=by simpa using a
    simp[a]
  rw[this]
 have a:e7 s j=ro:=by simpa using a
 obtain⟨f,e,O⟩:∃f,s.d7[j]?=σ f/\f.live≠0:=by
  unfold e7 at a;cases e:s.d7[j]? with
  |none=>rw[e]at a;cases a
  |some f=>rw[e]at a;exact⟨f,rfl,by simpa using a⟩
 obtain⟨J,ag,ah⟩:=Fc h.2.2.2.1 (x6 e);obtain⟨P,Q,S,V,bc,K,L,W,C,X,Y,Z,x,z⟩:=(h.W B).1.parts;obtain⟨y,r⟩:∃y,L[j]?=σ y:=⟨_,x7 (by rw[z.1];exact(x5.1 e).1)⟩;have E:=(x5.1 r).1;obtain⟨_,ab,M⟩:=z.2 j y f r e;have ac:U.rangeAt K (j*3+1) [y.d9]:=λq v G=>by
  match q,G with
  |0,G=>cases G;exact x.range r 1 _ rfl
 rw[aG b9.p 3 C rfl,b7 rfl fa.u dU.i x E,aT dU.p rfl,bA (cs:=[y.d9]) bD.p bD.i rfl ac];refine(By ab.ls (N.W B) J).Y ?_;rintro _ aa _ ⟨rfl,af⟩;have H:=B.F af;unfold mq gQ;rw[e];simp only[m3 O];cases hi:cz f.ai tl 0 with
 |none=>
  simp only[Option.map_none];rw[bu,bw,bF,ak];exact⟨λ_=>⟨trivial,H⟩,λh=>m6 (show(3:Int)≠0 by decide) h⟩
 |some m=>
  simp only[Y3];rw[bu,bw,bF,ak];refine⟨λh=>m6 rfl h,λ_=>?_⟩;have aj:=pi J.2 hi;have am:=Fa e;have an:=vc h.2.1 h.2.2.1;obtain⟨P,Q,S,V,bc,K,L,W,C,X,Y,Z,x,z⟩:=(h.W H).1.parts;obtain⟨y,r⟩:∃y,L[j]?=σ y:=⟨_,x7 (by rw[z.1];exact(x5.1 e).1)⟩;have E:=(x5.1 r).1;obtain⟨_,_,M⟩:=z.2 j y f r e;rw[aG b9.p 3 C rfl,b7 rfl fa.u dU.i x E,aT dU.p rfl,aD Ψ (x.range r 2 _ rfl),M,aO,li Ω Ω,aO,li Ω Ω];refine⟨?_,H⟩;congr 1;omega
theorem Ff{p:Nat}(e:bd k co s)(h:gQ s j tl=σ p):s.cells[p]?=σ (nD s j tl)/\∃f,s.d7[j]?=σ f/\f.live≠0/\∃m:Nat,cz f.ai tl 0=σ (m:Int)/\m<f.cs.length/\p=eW s j+(m+1):=by
 unfold gQ at h;cases a:s.d7[j]? with
 |none=>rw[a]at h;cases h
 |some f=>
  rw[a]at h;simp only at h;split at h
  .rename_i r;obtain⟨m,hm,rfl⟩:=X0.1 h;obtain⟨w,x,y⟩:=Fc e (x6 a);have z:=pi w.2 hm;obtain⟨q,rfl⟩:∃q:Nat,m=q:=⟨m.toNat,Ω⟩;refine⟨?_,f,rfl,r,q,hm,Ω,Ω⟩;rw[show eW s j+1+(q:Int).toNat=eW s j+(q+1) by omega,x0 a Ω];unfold nD br;rw[a];simp only[hm];show f.cs[q]?=_;rw[u6,u4,x7 Ω];rfl
  .cases h
theorem yw(h:bt w ad ae A R n s t)(e:aM .i64 w aS tl):al x8 H9 [Γ ad,Δ (j:Int),aS] w λv I=>v=(if(gQ s j tl).isSome then .tuple #[Δ (nD s j tl),Δ 0]else .tuple #[Δ 0,Δ 1])/\Ext w I:=by
 refine aB func37 ?_;rw[cR dx.u];simp only[Z3,aX];refine(Fe h e).Y ?_;rintro _ U _ ⟨rfl,a⟩;cases ac:gQ s j tl with
 |none=>
  simp only;rw[aR,ak];exact⟨λ_=>⟨rfl,a⟩,λh=>Ω⟩
 |some p=>
  simp only;refine cc Ω ?_;obtain⟨x,y,z,B,bc,C,L,E,f,G,q,H,J,K⟩:=(h.W a).1.parts;rw[aG b9.p 1 f rfl];refine(mF q rfl (by rw[h.2.1];exact(Ff h.2.2.2.1 ac).1)).Y ?_;rintro _ aa _ ⟨rfl,r⟩;exact⟨rfl,a.F r⟩
end
theorem eP.parts{a:Nat}{e f q:x1}{A R:ah}{n:aI}{s:am}{t:aw}(h:eP w ad ae a e f q A R n s t):∃bc j L p,ag w ad b9 [Γ a,Γ ae,e,f,q]/\gu w a n/\c3 w ae p t/\aA .i64 aj w bc e (ix s)/\bh oi 3 dU w j f L/\mH R w L s:=by
 obtain⟨_,bc,j,ge,L,E,p,w0,r,⟨x,y,G⟩,⟨z,H,I,J⟩,B,⟨C,F⟩,K,M⟩:=h;exact⟨bc,j,L,p,r,x.W y,z,B,C,F⟩
theorem QH{a b:Int}(e:0<=a/\a<=k)(f:0<=b/\b<=k)(hk:1<=k/\k<=2147483648):al x8 A2 [Δ a,Δ b,Δ k] w λv I=>v= .tuple #[Δ (min (a+b) k),Δ 0]/\Ext w I:=by
 refine CK.Y ?_;rintro _ U _ ⟨rfl,h⟩;refine⟨?_,h⟩;unfold rM;rw[m3 ⟨⟨hk,e.1,e.2⟩,hk,f.1,f.2⟩]
def Room(t:aw):Prop:=t.marks=[]\/t.olds.length<100000000
def dL(s:am)(i v:Nat):am:=match s.d6[i]? with
 |some x=>{s with d6:=s.d6.set i {x with mask:=((x.mask.toNat ||| 2 ^ v:Nat):Int)}}
 |none=>s
theorem bd.vg{s:am}{i:Nat}{x y:bz}(h:bd k co s)(e:s.d6[i]?=σ x)(r:y.un.length=x.un.length)(w:∀c∈y.un,0<=c/\c<=k)(hm:0<=y.mask/\y.mask<4294967296):bd k co {s with d6:=s.d6.set i y}:=
 ⟨h.ft,h.eD,h.zero,by show(s.d6.set i y).length=_;rw[o5];exact h.d6,λp z q a f=>by
  have a:(s.d6.set i y)[p]?=σ z:=a;rw[Y6]at a;by_cases j:i=p
  .subst j;rw[m3 rfl,m3 (x5.1 e).1]at a;cases a;exact⟨r.F (h.var i x q e f).1,w,hm⟩
  .rw[m5 j]at a;exact h.var p z q a f,h.d7⟩
theorem bd.Fg{s:am}{f g:ch}(h:bd k co s)(e:s.d7[j]?=σ f)(h1:g.sc=f.sc)(p:g.ai=f.ai)(q:g.cs.length=f.cs.length)(r:∀c∈g.cs,0<=c/\c<=k):bd k co {s with d7:=s.d7.set j g}:=
 ⟨h.ft,h.eD,h.zero,h.d6,h.var,λx a=>by
  rcases V0 a with a|rfl
  .exact h.d7 x a
  .obtain⟨⟨w,y,z,A,B,F⟩,C,E⟩:=h.d7 f (x6 e);refine⟨⟨?_,?_,?_,?_,?_,r⟩,?_,?_⟩
   .show lf x.sc;rw[h1];exact w
   .show x.sc.Pairwise _;rw[h1];exact y
   .show ∀v∈x.sc,_;rw[h1];exact z
   .show x.cs.length=(aQ (b1 co x.sc)).toNat;rw[h1,q];exact A
   .show aQ (b1 co x.sc)<=_;rw[h1];exact B
   .rw[h1,p];exact C
   .rw[h1];exact E⟩
theorem QI{r:Nat}{c:List x1}(a:ag w r e c)(he:¬(e=c8\/e=ej\/e=gE\/e=dW\/e=b9\/e=dU\/e=gD)):¬er w r:=by
 rintro (⟨p,q,f,h⟩|j)
 .rw[eC a f]at he;exact he h
 .exact j _ a rfl
section
variable{w:x4}{ad ae:Nat}{A R:ah}{n:aI}{s:am}{t:aw}
theorem mG.set(h:mG t)(a:Room t)(p:Nat)(x:Int):mG (t.set p x):=by
 refine⟨by rw[aw.EA];exact h.1,?_,by rw[aw.ya];exact h.2.2⟩;rcases a with a|a
 .rw[aw.yb a];exact h.2.1
 .have:=aw.EB t p x;omega
theorem Fh{s':am}{p:Nat}{x:Int}(h:bt w ad ae A R n s t)(q:y=(p:Int))(ac:p<s.cells.length)(z:s.cells.set p x=s'.cells)(J:mI s s')(B:bd n.k n.co s')(C:Room t):
  al x8 AQ [Γ ae,Δ y,Δ x] w λr I=>r=Δ 0/\af (er w) w I/\∃aK,Grow A w aK I/\bt I ad ae aK R n s' (t.set p x):=by
 obtain⟨E,f,j,_,G⟩:=id h;obtain⟨H,K,L⟩:=E.sr;have M:p<t.cells.length:=by rw[<-f]at ac;unfold aw.bM at ac;rw[u9]at ac;exact ac
 refine(uZ K.min q M j).Y ?_;rintro _ U _ ⟨rfl,N,a,O⟩;obtain⟨aK,P,Q⟩:=L (λr=>H r\/N r) U _ ⟨a.1.Y λr _ h=>h.1,λr e=>e.elim .inl λh=>(a.2.1 r h).imp (λh=>h.1) id,λr e=>.inl e⟩ (O.Y λr h=>.inr h);exact⟨rfl,a.1.Y λr _ h=>.inl h.2,aK,P,Q.same J,by rw[aw.rx,f,z],j.set C p x,B,G⟩
theorem yx{i v:Int}(h:bt w ad ae A R n s t)(K:Room t):al x8 IA [Γ ad,Δ i,Δ v] w λr I=>(¬et n i v->r=Δ 1/\Ext w I)/\
  (et n i v->r=Δ 0/\af (er w) w I/\∃aK x,Grow A w aK I/\bt I ad ae aK R n (dL s i.toNat v.toNat) (t.set (gv s i.toNat+1) x)):=by
 refine aB func71 ?_;rw[cR dx.u];simp only[Z3,aX];refine(yv h).Y ?_;rintro _ U _ ⟨rfl,f⟩;by_cases e:et n i v
 rotate_left
 .rw[m5 e,aR,ak];exact⟨λ_=>⟨λ_=>⟨by trivial,f⟩,λh=>m6 h e⟩,λh=>Ω⟩
 rw[m3 e];refine cc Ω ?_;obtain⟨x,a,M,ac,ag⟩:=e.var h.2.2.2.1;obtain⟨h1,ah,ai,am⟩:=id e;have an:=h.2.2.2.1.d6;obtain⟨z,N⟩:=aF (l:=n.co) (i:=i.toNat) Ω;obtain⟨_,O,ao,ap⟩:=h.2.2.2.1.var i.toNat x z a N;have au:=vd a;have av:=vc h.2.1 h.2.2.1;obtain⟨aw,ax,ay,az,P⟩:=(h.W f).1;obtain⟨bc,aA,L,aC,E,aD,Q,S,aE,aH⟩:=P.parts;rw[aG b9.p 2 E rfl,gI (y:=i) (i:=i.toNat) Ω aq.u aj.i Ψ S.ls (sy Ω),aO,li Ω Ω];intro aa j _ _;have V:=f.F j;have G:=E.W j;have W:=Q.W j;obtain⟨q,rfl⟩:∃q:Nat,v=q:=⟨v.toNat,Ω⟩;obtain⟨mk,H⟩:∃mk:Nat,x.mask=mk:=⟨x.mask.toNat,Ω⟩;rw[u6]at M;rw[aG b9.p 1 G rfl,aG b9.p 1 G rfl,QF Ω];have X:t.bM[gv s i.toNat+1]?=σ x.mask:=by rw[h.2.1,qL a Ω];rfl
 refine(mF (i:=gv s i.toNat+1) W Ω X).Y ?_;rintro _ aI _ ⟨rfl,J⟩;refine⟨.inl J,?_⟩;have aJ:(2:Nat) ^ q<=2 ^ 31:=S4 Ω Ω;rw[H,QE Ω Ω];have B:=V.F J;have aL:mk ||| 2 ^ q<2 ^ 32:=Nat.or_lt_two_pow Ω Ω;have C:dL s i.toNat (q:Int).toNat={s with d6:=s.d6.set i.toNat {x with mask:=((mk ||| 2 ^ q:Nat):Int)}}:=by
  unfold dL;rw[a];simp only[H,u6]
 refine(Fh (p:=gv s i.toNat+1) (s':=dL s i.toNat (q:Int).toNat) (h.W B) Ω Ω ?_ ?_ ?_ K).Y ?_
 .rw[C,Es a Ω];rfl
 .rw[C];exact Ey a rfl
 .rw[C];exact h.2.2.2.1.vg a rfl O ⟨by simp only;omega,by simp only;omega⟩
 rintro _ aM _ ⟨rfl,Y,aK,Z,ab⟩;exact⟨λh=>m6 e h,λ_=>⟨rfl,jp B Y,aK,_,(Grow.W B).F Z,ab⟩⟩
end
theorem yy{cL:x1}{v:Int}(h:aM .i64 w cL l):al x8 H5 [cL,Δ v] w λr I=>r= .bool (decide (v∈l))/\Ext w I:=by
 refine aB func30 ?_;rw[aY aq.u h];refine cb.range l.length (λi _ U=>Ext w U/\v∉l.take i) h.le ⟨Ext.refl _,Ξ⟩ ?_ ?_
 .rintro i _ U k hi ⟨a,e⟩ hk;obtain⟨x,f⟩:=aF (l:=l) hi;refine bI Ω ?_;rw[bi aq.u aj.i Ψ (h.W a) f,bk,ak];refine⟨λhe=>⟨by rw[m7];rw[<-he];exact x6 f,a⟩,λj=>?_⟩;rw[aO];refine hk _ _ ⟨a,λhm=>?_⟩;rw[r8,f,o9,j4,j6]at hm;rcases hm with hm|hm
  .exact e hm
  .exact j hm.symm
 .rintro _ U k ⟨a,e⟩;rw[o6]at e;rw[aR,ak];exact⟨λh=>Ω,λ_=>⟨by rw[ms e],a⟩⟩
theorem Fi{x:bz}{v:Int}(h:0<=v/\v<x.un.length):v∈aC x↔dropped x.mask v=rs:=by
 unfold aC;rw[S1,j0];constructor
 .rintro⟨_,a⟩;simpa using a
 .intro a;exact⟨⟨v.toNat,T6.2 Ω,Ω⟩,by simp[a]⟩
def b2(s:am):Prop:=∀f∈s.d7,f.live≠0->∀v∈f.sc,∀x,s.d6[v.toNat]?=σ x->x.gone=0
theorem gu.put{g x:Nat}{c:List x1}{n:aI}(h:gu w x n)(a:ag w g a6 c)(f:af (λr=>r=g) w I):gu I x n:=by
 have p:=E6 a;have y:∀r,r=g->∃e c,ag w r e c/\e≠iJ/\e≠cZ/\e≠aj/\e≠au/\e≠ax:=λr j=>by
  subst j;exact⟨_,c,a,Φ,Φ,Φ,Φ,Φ⟩
 obtain⟨z,A,B,C,gr,a1,L,nm,d9,gz,fv2,h1,E,F,G,H,J,K⟩:=h;refine⟨z,A,B,C,gr,a1,L,nm,d9,gz,fv2,yr h1 f p Φ,yr E f p Φ,yq F f p Φ,G.V f λr j=>?_,H,J.V f λr j=>?_,K⟩
 .obtain⟨e,c,a,_,_,_,q,s⟩:=y r j;exact⟨e,c,a,q,s⟩
 .obtain⟨e,c,a,q,s,M,N,_⟩:=y r j;exact⟨e,c,a,q,s,M,N⟩
theorem StateM.put{g:Nat}{A R:ah}{n:aI}{s:am}{t:aw}{c:List x1}(h:StateM w ad ae A R n s t)(y:ag w g a6 c)(p:af (λr=>r=g) w I)(U:¬A g):∃R',(∀r,R' r->R r/\r≠g)/\StateM I ad ae A R' n s t:=by
 obtain⟨W,X,Y,Z,⟨h1,aa,ab,ac⟩,bc,ai,ge,L,E,aj,w0,ak,⟨M,C,al⟩,⟨an,N,ao,ap⟩,aq,⟨au,O⟩,av,P⟩:=h;obtain⟨cu,Q⟩:=Ek;have z:=p.size;have q:=E6 y;have B:∀r,(w0.heap.setIfInBounds g cu)[r]?=if g=r then(if g<w0.heap.size then σ cu else ν)else w0.heap[r]?:=λr=>Array.getElem?_setIfInBounds;have ax:∀r,A r->r≠g:=λr a he=>U (he▸a);have int:∀{v:x1}{l:Λ},ki R w v l->ki (λr=>R r/\r≠g) I v l:=λ⟨⟨ay,hm⟩,az⟩=>⟨⟨ay,yq hm p q Φ⟩,λr a=>⟨az r a,b8 hm y Φ a⟩⟩;refine⟨λr=>R r/\r≠g,λr h=>h,W,X,Y,Z,⟨h1,λr a aA=>aa r a aA.1,λr a=>by have:=ab r a.1;omega,λr a=>by have:=ac r a;omega⟩,bc,ai,ge,L,E,aj,{w0 with heap:=w0.heap.setIfInBounds g cu},yr ak p q Φ,⟨?_,?_,?_⟩,
  ⟨an.V p λr a=>ax r (N r a),N,ao,ap⟩,yq aq p q Φ,⟨E5 au p q Φ,O.1,λj x f F aB=>?_⟩,E5 av p q Φ,P.1,λj x e F he=>?_⟩
 .by_cases J:∃o,w0.heap[g]?=σ o/\fL o=ro
  .obtain⟨o,S,aC⟩:=J;have aD:ag w0 g a6 c:=by
    unfold ag at y ⊢;have:=C.aZ g o S aC;rw[y]at this;rw[S,this]
   refine M.put aD ⟨Ξ,λr o a J aE=>?_⟩;show(w0.heap.setIfInBounds g cu)[r]?=σ o;rw[B,m5 λhe=>aE he.symm];exact a
  .refine M.W ⟨Ξ,λr o a aF=>?_⟩;show(w0.heap.setIfInBounds g cu)[r]?=σ o;rw[B,m5 λhe=>J ⟨o,by rw[he];exact a,aF⟩];exact a
 .refine⟨by show(w0.heap.setIfInBounds g cu).size<=_;rw[Array.size_setIfInBounds];exact Y9 C.size z,λr o a J=>?_⟩;have a:(w0.heap.setIfInBounds g cu)[r]?=σ o:=a;rw[B]at a;by_cases he:g=r
  .rw[m3 he]at a;split at a
   .cases a;rw[Q]at J;cases J
   .cases a
  .rw[m5 he]at a;exact p.aZ r o (C.aZ r o a J) J λh=>he h.symm
 .intro r o a J;have a:(w0.heap.setIfInBounds g cu)[r]?=σ o:=a;rw[B]at a;by_cases he:g=r
  .rw[m3 he]at a;split at a
   .cases a;rw[Q]at J;cases J
   .cases a
  .rw[m5 he]at a;exact⟨al r o a J,λh=>he h.symm⟩
 .obtain⟨G,H,K⟩:=O.2 j x f F aB;exact⟨int G,int H,K⟩
 .obtain⟨G,H,K⟩:=P.2 j x e F he;exact⟨G,int H,int K⟩
theorem QJ{f:b5}(j:pl.length<=60000)(h:gZ pl=σ f):∃N,N<=60000/\fp N f/\f.name≠[]/\∀b∈f.name,bT b=ro:=by
 unfold gZ at h;rw[m5 Ω]at h;cases a:jA ⟨(lex pl).1,0,rs,[]⟩with
 |none=>rw[a]at h;cases h
 |some q=>
  obtain⟨p,s⟩:=q;rw[a]at h;simp only at h;split at h
  .rename_i ao;cases h;obtain⟨h1,e⟩:=CE rfl a ao.2.2;have r:=rv pl.length pl (p8 _);obtain⟨U,aa,_⟩:=tS pl.length pl (p8 _) f.name e;exact⟨_,by show(lex pl).1.length<=60000;omega,h1,U,aa⟩
  .cases h
theorem QK:al x8 AI [.pointer ν] w λv I=>v= .pointer ν/\Ext w I:=by
 refine aB func62 ?_;rw[cR nX.u];simp only[Option.isNone_none,bH];exact⟨by trivial,Ext.refl _⟩
theorem QL(h:aM .u8 w v l)(B:l.length<=100000):al x8 Io [v] w λf I=>Ext w I/\∃g,aA .u8 cK I g f l:=by
 have e:=h;obtain⟨C,b,o,base,cap,rfl,E,hm,q,s⟩:=h;refine aB func58 ?_;rw[qh cQ.u,bY];refine⟨λx=>⟨Ext.refl _,0,?_⟩,λ_=>?_⟩
 .have:l=[]:=by
   cases base with
   |none=>
        by_cases e:0<l.length
        .have:=q e;cases this
        .exact c9 Ω
   |some a=>cases x
  subst this;exact aA.nil _ _ _ _
 .refine ys (k:=.u8) cQ.u cK.i λG g1 U H j p=>?_;refine ii cQ.u cK.i rfl p (e.W j) Θ Θ λf y aa z J A=>?_;exact⟨j.then A (λr s he=>by have:=(bV p he).1;omega),y,by simpa using z⟩
def QM(sv:x1):Prop:=∃cs:List x1,sv= .agg cs.toArray/\cs.length=8/\∀u∈cs,u.oneCell'=ro
theorem Fj:QM (.agg z12.toArray):=⟨z12,rfl,rfl,by intro u hu;simp[z12]at hu;rcases hu with rfl|rfl|rfl|rfl<;>rfl⟩
theorem yz{f:b5}(a:fp N f):(cP f).d7.length<=256:=by
 have h1:=(r2 a).2.length_eq;have h:=(mB a).2.2;have j:=Q8 fT (fU f);have p:=a.mw;have e:=(qJ f (fV f).length).2.2.2;rw[uY]at e;omega
theorem QN{n:aI}{t:aw}(e:lg n)(f:n.d7.length<=256)(h:t.bM=(dh n).cells)(a:Plain t):mG t:=by
 have h1:=va e f n.unary.length n.d7.length;rw[ye,<-h]at h1;unfold aw.bM at h1;rw[u9]at h1;refine⟨Ω,?_,?_⟩
 .rw[a.2.1];exact X7 _
 .rw[a.1];exact X7 _
section
variable{w:x4}{ad ae:Nat}{A R:ah}{n:aI}{s:am}{t:aw}
theorem QO{j:Int}(h:bt w ad ae A R n s t)(p:¬(0<=j/\j<s.d7.length)):al x8 tx [Γ ad,Δ j] w λr I=>r= .slice ν 0 0/\Ext w I:=by
 refine aB func103 ?_;refine aV (λv U=>v= .bool ro/\Ext w U) ?_ ?_
 .rintro _ U ⟨rfl,e⟩;rw[bH];exact⟨rfl,e⟩
 intro ay a;rw[aR,ak];refine⟨λ_=>a _ _ ⟨rfl,Ext.refl _⟩,λq=>?_⟩;refine(sA h).Y ?_;rintro _ x _ ⟨rfl,f⟩;rw[cH];exact a _ _ ⟨by rw[m7 Ω],f⟩
end
section
variable{w:x4}{B:Nat}{sv:x1}{k:Int}{co:Λ}{s:am}
end
def iB:List (Λ)->List (Λ)
 |[]=>[[]]
 |d::a=>d.flatMap λv=>(iB a).map (v:: ·)
theorem vh:∀{a:List (Λ)}{t:Λ},t∈iB a↔t.length=a.length/\∀(p:Nat)d v,a[p]?=σ d->t[p]?=σ v->v∈d
 |[],t=>by
  simp only[iB,j6];exact⟨λh=>by subst h;exact⟨rfl,λp d v h=>by simp at h⟩,λh=>c9 h.1⟩
 |d::a,t=>by
  simp only[iB,List.mem_flatMap,j0];constructor
  .rintro⟨v,j,bn,q,rfl⟩;obtain⟨h1,e⟩:=vh.1 q;refine⟨by simp[h1],λp f u ac hu=>?_⟩;cases p with
   |zero=>simp at ac hu;subst ac hu;exact j
   |succ p=>exact e p f u (by simpa using ac) (by simpa using hu)
  .rintro⟨h1,e⟩;cases t with
   |nil=>simp at h1
   |cons v bn=>exact⟨v,e 0 d v rfl rfl,bn,vh.2 ⟨by simpa using h1,λp f u ac hu=>e (p+1) f u (by simpa using ac) (by simpa using hu)⟩,rfl⟩
def ov:List (Int->Bool)->Λ->Bool
 |q::a,v::t=>q v&&ov a t
 |_,_=>ro
theorem Fk:∀(j:List (Λ))(a:List (Int->Bool)),a.length=j.length->iB ((j.zip a).map λp=>p.1.filter p.2)=(iB j).filter (ov a)
 |[],[],_=>rfl
 |d::j,q::a,h=>by
  have r:=Fk j a (by simpa using h);simp only[List.zip_cons_cons,T3,iB];rw[r];clear r h;induction d with
  |nil=>rfl
  |cons v d s=>
   rw[W9,List.filter_append,<-s];have e:((iB j).map (v:: ·)).filter (ov (q::a))=if q v then((iB j).filter (ov a)).map (v:: ·)else[]:=by
    rw[List.filter_map];by_cases f:q v=ro
    .rw[m3 f];congr 1;apply List.filter_congr;intro t _;show(q v&&ov a t)=_;rw[f,S0]
    .rw[m5 f];rw[List.filter_eq_nil_iff.2 λt _=>by show¬(q v&&ov a t)=ro;simp[f]];rfl
   rw[e];by_cases f:q v=ro
   .rw[m3 f,List.filter_cons_of_pos f,W9]
   .rw[m5 f,List.filter_cons_of_neg f];rfl
def i9(k:Int):Λ:=(W3 k.toNat).map λv:Nat=>(v:Int)
theorem yA:∀(s:Λ),bp s=iB (s.map i9)
 |[]=>rfl
 |k::s=>by
  simp only[bp,T3,iB,i9,List.flatMap_map,<-yA s]
theorem vi{v:Int}:v∈i9 k↔0<=v/\v<k:=by
 unfold i9;rw[j0];constructor
 .rintro⟨n,a,rfl⟩;have:=T6.1 a;omega
 .intro h;exact⟨v.toNat,T6.2 Ω,Ω⟩
def dT(f:Int->Int)(L:List (Λ))(ai cs:Λ):Λ:=((bp ai).zip cs).map λp=>if p.1∈L then f p.2 else p.2
theorem pK(f:Int->Int)(L:List (Λ))(ai cs:Λ)(h:cs.length<=(bp ai).length):(dT f L ai cs).length=cs.length:=by
 unfold dT;rw[u9,List.length_zip];omega
theorem qQ{f:Int->Int}{L:List (Λ)}{i:Nat}(a:(bp ai)[i]?=σ t)(e:cs[i]?=σ c):(dT f L ai cs)[i]?=σ (if t∈L then f c else c):=by
 unfold dT;have h:((bp ai).zip cs)[i]?=σ (t,c):=List.getElem?_zip_eq_some.2 ⟨a,e⟩;rw[v8,h];rfl
theorem QP{f:Int->Int}{L:List (Λ)}{i:Nat}(J:dG ai)(q:cs.length<=(bp ai).length)(p:(bp ai)[i]?=σ t)(r:cs[i]?=σ c)(x:t∉L):(dT f L ai cs)[i]?=σ c/\(dT f L ai cs).set i (f c)=dT f (L++[t]) ai cs:=by
 have h1:=qQ (f:=f) (L:=L) p r;rw[m5 x]at h1;refine⟨h1,?_⟩;apply X3;intro j;rw[Y6];by_cases s:i=j
 .subst s;rw[m3 rfl,m3 (x5.1 h1).1,qQ p r,m3 Ξ]
 .rw[m5 s];cases a:cs[j]? with
  |none=>
   have:=List.getElem?_eq_none_iff.1 a;rw[Y4 (by rw[pK _ _ _ _ q];exact this),Y4 (by rw[pK _ _ _ _ q];exact this)]
  |some A=>
   obtain⟨u,hu⟩:∃u,(bp ai)[j]?=σ u:=⟨_,x7 (by have:=(x5.1 a).1;omega)⟩;rw[qQ hu a,qQ hu a];have y:u≠t:=λhe=>by
    subst he;have z:=kF J p;have w:=kF J hu;rw[z]at w;have:=Z6 w;omega
   have:u∈L++[t]↔u∈L:=by simp[y]
   by_cases e:u∈L
   .rw[m3 e,m3 (this.2 e)]
   .rw[m5 e,m5 λh=>e (this.1 h)]
def l2(s:am)(i v:Nat)(c:Int):am:=match s.d6[i]? with
 |some x=>{s with d6:=s.d6.set i {x with un:=x.un.set v c}}
 |none=>s
def l3(s:am)(j m:Nat)(c:Int):am:=match s.d7[j]? with
 |some f=>{s with d7:=s.d7.set j {f with cs:=f.cs.set m c}}
 |none=>s
theorem sC{i:Nat}(h:∀x∈l,0<=x/\x<=k)(e:0<=c/\c<=k):∀x∈l.set i c,0<=x/\x<=k:=λx a=>by
 rcases V0 a with a|rfl
 .exact h x a
 .exact e
def ow(w:x4)(ad ae:Nat)(A R:ah)(n:aI)(s':am)(t:aw)(v:x1)(I:x4):Prop:=v=Δ 0/\af (er w) w I/\∃aK p x,Grow A w aK I/\bt I ad ae aK R n s' (t.set p x)
theorem ow.W{U:x4}{A R:ah}{n:aI}{s':am}{t:aw}(a:Ext w U)(h:ow U ad ae A R n s' t v I):ow w ad ae A R n s' t v I:=by
 obtain⟨h1,e,aK,p,x,f,j⟩:=h;exact⟨h1,jp a e,aK,p,x,(Grow.W a).F f,j⟩
section
variable{w:x4}{ad ae:Nat}{A R:ah}{n:aI}{s:am}{t:aw}
theorem sD(h:bt w ad ae A R n s t)(f:y<0\/¬(0<=c/\c<=n.k)):al x8 Ba [Γ ad,Δ y,Δ c] w λv I=>v=Δ (if y<0 then 1 else 3)/\Ext w I:=by
 refine aB func263 ?_;rw[cR dx.u];simp only[Z3,aX];rw[aR,ak];refine⟨λe=>⟨by rw[m3 e],Ext.refl _⟩,λe=>?_⟩;refine(ou h).Y ?_;rintro _ U _ ⟨rfl,j⟩;refine(k4 (a:=c) (k:=n.k)).Y ?_;rintro _ aa _ ⟨rfl,p⟩;have q:=f.resolve_left e;rw[ms (λh=>q h.2),bC,W7,bH,m5 e];exact⟨rfl,j.F p⟩
theorem yB{s':am}{p:Nat}(h:bt w ad ae A R n s t)(f:Room t)(j:y=(p:Int))(ac:p<s.cells.length)(q:s.cells.set p c=s'.cells)(J:mI s s')(r:bd n.k n.co s')(x:0<=c/\c<=n.k):
  al x8 Ba [Γ ad,Δ y,Δ c] w (ow w ad ae A R n s' t):=by
 refine aB func263 ?_;rw[cR dx.u];simp only[Z3,aX];refine cc Ω ?_;refine(ou h).Y ?_;rintro _ U _ ⟨rfl,z⟩;refine(k4 (a:=c) (k:=n.k)).Y ?_;rintro _ aa _ ⟨rfl,B⟩;have e:=z.F B;rw[m7 (show cC c n.k from⟨h.2.2.2.1.ft,x⟩),bC,X1,aX];obtain⟨I,K,M,N,bc,O,L,P,C,Q,S,V,W,X⟩:=(h.W e).1.parts;rw[aG b9.p 1 C rfl];refine(Fh (h.W e) j ac q J r f).Y ?_;rintro _ Y _ ⟨rfl,E,aK,G,H⟩;exact ow.W e ⟨rfl,E,aK,_,_,G,H⟩
theorem QQ(h:bt w ad ae A R n s t)(e:Room t):al x8 Kd [Γ ad,Δ c] w λv I=>(¬(0<=c/\c<=n.k)->v=Δ 3/\Ext w I)/\((0<=c/\c<=n.k)->ow w ad ae A R n {s with zero:=c} t v I):=by
 refine aB func218 ?_;by_cases a:0<=c/\c<=n.k
 .refine (yB (p:=0) h e rfl (by unfold am.cells jN;simp) (PJ s c) (Ex s c) ⟨h.2.2.2.1.ft,h.2.2.2.1.eD,a,h.2.2.2.1.d6,h.2.2.2.1.var,h.2.2.2.1.d7⟩ a).Y ?_;rintro v U _ f;exact⟨λh=>m6 a h,λ_=>f⟩
 .refine (sD h (.inr a)).Y ?_;rintro v U _ ⟨rfl,j⟩;exact⟨λ_=>⟨rfl,j⟩,λh=>m6 h a⟩
theorem Fl{i v:Int}(h:bt w ad ae A R n s t)(B:Room t):al x8 Kc [Γ ad,Δ i,Δ v,Δ c] w λr I=>
  (¬et n i v->r=Δ 1/\Ext w I)/\(et n i v->¬(0<=c/\c<=n.k)->r=Δ 3/\Ext w I)/\(et n i v->(0<=c/\c<=n.k)->ow w ad ae A R n (l2 s i.toNat v.toNat c) t r I):=by
 refine aB func217 ?_;refine(yv h).Y ?_;rintro _ U _ ⟨rfl,e⟩;by_cases a:et n i v
 .rw[m3 a];by_cases j:0<=c/\c<=n.k
  .obtain⟨x,f,H,J,_⟩:=a.var h.2.2.2.1;have K:=h.2.2.2.1.d6;obtain⟨z,C⟩:∃z,n.co[i.toNat]?=σ z:=⟨_,x7 (by have:=a.1;have:=a.2.1;omega)⟩;obtain⟨_,E,hm⟩:=h.2.2.2.1.var i.toNat x z f C;have L:=vd f;have q:l2 s i.toNat v.toNat c={s with d6:=s.d6.set i.toNat {x with un:=x.un.set v.toNat c}}:=by unfold l2;rw[f]
   refine(yB (p:=gv s i.toNat+(2+v.toNat)) (s':=l2 s i.toNat v.toNat c) (h.W e) B Ω Ω ?_ ?_ ?_ j).Y ?_
   .rw[q];refine Es f Ω ?_;rw[show 2+v.toNat=v.toNat+1+1 by omega];rfl
   .rw[q];exact Ey f Ξ
   .rw[q];exact h.2.2.2.1.vg f Ξ (sC E j) hm
   .rintro r aa _ G;exact⟨λh=>m6 a h,λ_ h=>m6 j h,λ_ _=>G.W e⟩
  .refine (sD (h.W e) (.inr j)).Y ?_;rintro r aa _ ⟨rfl,y⟩;rw[m5 Ω];exact⟨λh=>m6 a h,λ_ _=>⟨rfl,e.F y⟩,λ_ h=>m6 h j⟩
 .rw[m5 a];refine(sD (h.W e) (.inl Ω)).Y ?_;rintro r aa _ ⟨rfl,y⟩;rw[m3 Ω];exact⟨λ_=>⟨rfl,e.F y⟩,λh=>m6 h a,λh=>m6 h a⟩
theorem QR(h:bt w ad ae A R n s t)(C:Room t)(E:aM .i64 w aS tl):al x8 Kb [Γ ad,Δ (j:Int),aS,Δ c] w λr I=>
  (gQ s j tl=ν->r=Δ 1/\Ext w I)/\((gQ s j tl).isSome=ro->¬(0<=c/\c<=n.k)->r=Δ 3/\Ext w I)/\
  ((gQ s j tl).isSome=ro->(0<=c/\c<=n.k)->∀f (m:Nat),s.d7[j]?=σ f->cz f.ai tl 0=σ (m:Int)->ow w ad ae A R n (l3 s j m c) t r I):=by
 refine aB func216 ?_;refine(Fe h E).Y ?_;rintro _ U _ ⟨rfl,e⟩;cases G:gQ s j tl with
 |none=>
  simp only;refine(sD (h.W e) (.inl Ω)).Y ?_;rintro r aa _ ⟨rfl,x⟩;rw[m3 Ω];exact⟨λ_=>⟨rfl,e.F x⟩,λh=>by simp at h,λh=>by simp at h⟩
 |some p=>
  simp only;by_cases q:0<=c/\c<=n.k
  .obtain⟨K,f,a,L,m,hm,M,rfl⟩:=Ff h.2.2.2.1 G;have N:=Fa a;have y:l3 s j m c={s with d7:=s.d7.set j {f with cs:=f.cs.set m c}}:=by unfold l3;rw[a]
   obtain⟨H,_⟩:=h.2.2.2.1.d7 f (x6 a);refine(yB (p:=eW s j+(m+1)) (s':=l3 s j m c) (h.W e) C rfl Ω ?_ ?_ ?_ q).Y ?_
   .rw[y];exact PK a Ω rfl
   .rw[y];exact PS a Ξ rfl rfl
   .rw[y];exact h.2.2.2.1.Fg a rfl rfl Ξ (sC H.jK q)
   .rintro r aa _ J;refine⟨(λh=>by cases h),λ_ h=>m6 q h,λ_ _ O bP z B=>?_⟩;rw[a]at z;cases z;rw[hm]at B;have:bP=m:=by have:=Z6 B;omega
    subst this;exact J.W e
  .refine (sD (h.W e) (.inr q)).Y ?_;rintro r aa _ ⟨rfl,x⟩;rw[m5 Ω];exact⟨(λh=>by cases h),λ_ _=>⟨rfl,e.F x⟩,λ_ h=>m6 h q⟩
end
def eX(of:Int->Int)(p:Int×Int)(v:Int):Int×Int:=if p.2= -1\/of v<p.1 then(of v,v)else p
def dz(k:Int)(l:Λ)(of:Int->Int):Int×Int:=l.foldl (eX of) (k,-1)
theorem ln{s:am}{n:aI}{i:Int}{b m:Nat}{x:bz}(h:vf s n i b m)(e:0<=i)(f:s.d6[i.toNat]?=σ x):(gj b m).map (λv:Nat=>(v:Int))=aC x:=by
 obtain⟨_,_,j⟩:=h;obtain⟨rfl,p⟩:=j x e f;unfold gj aC;rw[List.filter_map];congr 1;refine List.filter_congr λq a=>?_;have a:=T6.1 a;rw[p,m7 a,S0];rfl
section
variable{w:x4}{ad ae:Nat}{A R:ah}{n:aI}{s:am}{t:aw}
def lp(n:aI)(s:am)(i:Int):Bool:=decide (0<=i/\i<n.co.length)&& !du s i.toNat
theorem QS{i:Int}(h:bt w ad ae A R n s t):al x8 Jx [Γ ad,Δ i] w λv I=>v=Δ (if lp n s i=ro then 0 else 1)/\Ext w I:=by
 refine aB func161 ?_;rw[cR dx.u];simp only[Z3,aX];refine aV (λv U=>v= .bool (!lp n s i)/\Ext w U) ?_ ?_
 .rintro _ U ⟨rfl,a⟩;rw[bY];refine⟨λj=>⟨by rw[m5 (by simpa using j)],a⟩,λj=>⟨by rw[m3 (by simpa using j)],a⟩⟩
 intro ay p;refine(sB h).Y ?_;rintro _ U _ ⟨rfl,a⟩;rw[bY];refine⟨λe=>p _ _ ⟨?_,a⟩,λe=>?_⟩
 .rw[T1]at e;unfold lp;rw[e.2,X1,Bool.and_false];rfl
 refine(jP (i:=i) (h.W a)).Y ?_;rintro _ aa _ ⟨⟨b,m,rfl,G,y,B⟩,C⟩;refine(xf).Y ?_;rintro _ H _ ⟨rfl,E⟩;rw[bk];refine p _ _ ⟨?_,(a.F C).F E⟩;congr 1;have J:=h.2.2.2.1.d6;unfold lp;by_cases f:0<=i/\i<n.co.length
 .obtain⟨x,q⟩:=aF (l:=s.d6) (i:=i.toNat) Ω;obtain⟨z,r⟩:=aF (l:=n.co) (i:=i.toNat) Ω;have h1:=(h.2.2.2.1.var i.toNat x z q r).1;have K:=h.2.2.2.1.eD.2.2 z (x6 r);have hm:=(B x f.1 q).1;rw[m7 f.1,S0]at e;rw[m7 f,e,ms Ω];rfl
 .rw[ms f,(y f).2];rfl
def Fm(w:x4)(l4:Nat)(cap:Array x1)(l:Λ)(of:Int->Int):Prop:=∀(I:x4)(v:Int),Ext w I->v∈l->al x8 l4 (Δ v::cap.toList) I λr a=>r=Δ (of v)/\Ext I a
theorem QT{i:Int}{x:bz}{of:Int->Int}{l4:Nat}{cap:Array x1}(h:bt w ad ae A R n s t)(M:Laid w)(aL:0<=i)(f:s.d6[i.toNat]?=σ x)(aM:Fm w l4 cap (aC x) of):
  al x8 Jy [Γ ad,Δ i,.func (.func l4) #[] cap] w λr I=>Ext w I/\r= .tuple #[Δ (dz n.k (aC x) of).1,Δ (dz n.k (aC x) of).2]:=by
 refine iK func162 ?_;refine bo λaN U bd N E=>?_;have E:=E;refine(ou (h.W N)).Y ?_;rintro _ aa _ ⟨rfl,G⟩;refine bB au.i λO be bf an ao=>?_;refine bB aj.i λga bg bh P ap=>?_;have bi:=(N.F G).size;have z3:=an.size;have z4:=P.size;refine bq au.i rfl rfl (ao.W P) Φ λbj aq bl aO=>?_;have bm:=ao.lt;have bn:=ap.lt;refine bq aj.i rfl rfl (ap.V aq Ω) Φ λbp av br aP=>?_;have aQ:=aO.V av Ω;have aw:=((an.F P).then aq λr a he=>by have he:r=O:=he;omega).put av Ω;have ax:=(N.F G).F aw;refine(jP (i:=i) (h.W ax)).Y ?_;rintro _ bs _ ⟨⟨b,m,rfl,Q⟩,az⟩;refine(ns).Y ?_;rintro _ W _ ⟨aS,bc,rfl,bu,X⟩;have bw:=Q.1;have aA:=ln Q aL f;have B:=az.F aS;have y:=ax.F B;have bx:=y.size;have bA:=B.size;have bC:=E.lt;have bD:=az.size;have z12:=G.size;obtain⟨S,H⟩:∃S:ah,S=λr=>r=O\/r=ga:=⟨_,rfl⟩;have J:∀r,S r->w.heap.size<=r:=λr a=>by rw[H]at a;rcases a with rfl|rfl<;>omega
 have Y:∀r,S r->r≠aN/\r≠bc:=λr a=>by rw[H]at a;rcases a with rfl|rfl<;>omega
 let st:Nat->Int×Int:=λj=>((aC x).take j).foldl (eX of) (n.k,-1);have aT:=E.W (G.F (aw.F B));refine kX.old ⟨_,rs,jX,#[Γ bc],_,_,_,_,λj I=>af S W I/\ag I O au [Δ (st j).1]/\ag I ga aj [Δ (st j).2],λ_ _ _=>False,rfl,(nr (g:=bc) Q.1).s,?_,
  λ_ _ f h=>⟨h.1.W f,h.2.W f⟩,λ_ _ _ f h=>⟨h.1.F (f.V S),h.2.1.W f,h.2.2.W f⟩,λ_ _ _ _ _ h=>h,⟨X,M.W y⟩,⟨af.refl _ _,aQ.W B,aP.W B⟩,?_,?_,λ_ _ h=>h.elim,λ_ _ _ h=>h.elim⟩
 .rintro _ _ _ _ ⟨_,_,_,_,rfl⟩;rfl
 .rintro _ j _ aU ⟨_,_⟩ ⟨bE,rfl,v,aW,aX⟩ ⟨z,K,L⟩;cases aX;intro aB p _ _;have aE:(aC x)[j]?=σ (v:Int):=by rw[<-aA,v8,aW];rfl
  have aF:st (j+1)=eX of (st j) v:=by
   show((aC x).take (j+1)).foldl _ _=_;rw[r8,aE,Q0];rfl
  have aY:=((y.then z λr a h=>by have:=J r h;omega)).F p;have aZ:=(aT.V z λh=>(Y _ h).1 rfl).W p;rw[aD Ψ (aZ.cell rfl)];refine al.Y (aM aB v aY (x6 aE)) ?_;rintro _ aG _ ⟨rfl,Z⟩;have ab:=p.F Z;have ac:=K.W ab;have ai:=L.W ab;refine aV (λr am=>r= .bool (decide ((st j).2= -1\/of v<(st j).1))/\Ext aG am) ?_ ?_
  .rintro _ am ⟨rfl,C⟩;have aH:=ab.F C;rw[ak];refine⟨λa1=>?_,λa2=>?_⟩
   .refine bq au.i rfl rfl (ac.W C) Ξ λbF aI bG a6=>?_;refine bq aj.i rfl rfl ((ai.W C).V aI Ω) Ξ λa7 aJ bH a8=>?_;have ba:=a6.V aJ Ω;have q:af S W a7:=((z.F (aH.V S)).F (aI.Y λr _ h=>by rw[H];exact .inl h)).F (aJ.Y λr _ h=>by rw[H];exact .inr h);have e:st (j+1)=(of v,(v:Int)):=by rw[aF];unfold eX;rw[m3 a1]
    refine⟨⟨X.V q λh=>(Y _ h).2 rfl,(M.W (y.then q λr a h=>by have:=J r h;omega))⟩,⟨q,?_,?_⟩,λh=>by cases h⟩
    .rw[e];exact ba
    .rw[e];exact a8
   .have e:st (j+1)=st j:=by rw[aF];unfold eX;rw[m5 a2]
    have q:af S W am:=z.F (aH.V S);refine⟨⟨X.V q λh=>(Y _ h).2 rfl,(M.W (y.then q λr a h=>by have:=J r h;omega))⟩,⟨q,?_,?_⟩,λh=>by cases h⟩
    .rw[e];exact ac.W C
    .rw[e];exact ai.W C
  .intro ay aK;rw[aD Ψ (ai.cell rfl),bk,ak];refine⟨λh1=>aK _ _ ⟨by rw[m7 (.inl h1)],Ext.refl _⟩,λh1=>?_⟩;rw[aD Ψ (ac.cell rfl),aR];refine aK _ _ ⟨?_,Ext.refl _⟩;congr 1;exact decide_eq_decide.2 ⟨.inr,λh=>h.resolve_left h1⟩
 .rintro k aU rfl ⟨z,K,L⟩;intro aB p _ _;have bb:st (gj b m).length=dz n.k (aC x) of:=by
   show((aC x).take _).foldl _ _=_;rw[j5 (by rw[<-aA,u9];exact p8 _)];rfl
  rw[bb]at K L;rw[aD Ψ ((K.W p).cell rfl),aD Ψ ((L.W p).cell rfl)];intro aG Z _;exact⟨((y.then z λr a h=>by have:=J r h;omega).F p).F Z,rfl⟩
end
theorem Fo{x:bz}{v:Int}(h:v∈aC x):0<=v/\v<x.un.length:=by
 unfold aC at h;obtain⟨h,_⟩:=S1.1 h;obtain⟨q,a,rfl⟩:=j0.1 h;have:=T6.1 a;omega
theorem QU{s:am}{n:aI}{i v:Int}{b m:Nat}{x:bz}(h:vf s n i b m)(f:0<=i)(j:s.d6[i.toNat]?=σ x):(decide (0<=v/\v<m)&&b.testBit v.toNat)=decide (v∈aC x):=by
 obtain⟨_,_,p⟩:=h;obtain⟨rfl,q⟩:=p x f j;by_cases a:0<=v/\v<x.un.length
 .rw[m7 a,S0,q,m7 (show v.toNat<x.un.length by omega),S0,show((v.toNat:Nat):Int)=v by omega];have:=Fi a;cases e:dropped x.mask v with
  |false=>rw[m7 (this.2 e)];rfl
  |true=>rw[ms λh=>by rw[this.1 h]at e;cases e];rfl
 .rw[ms a,ms λh=>a (Fo h)];rfl
def yC(s:am)(j:Nat)(tl:Λ):Int:=if(gQ s j tl).isSome then nD s j tl else 0
def cp(n:aI)(s:am)(i v:Int):Int:=if et n i v then fj s i.toNat v.toNat else 0
theorem qR{n:aI}{s:am}{i v:Int}(a:bd n.k n.co s):0<=cp n s i v/\cp n s i v<=n.k:=by
 have hk:=a.ft;have p:=a.d6;unfold cp;split
 .rename_i h;obtain⟨x,e,f,_⟩:=h.var a;obtain⟨z,j⟩:∃z,n.co[i.toNat]?=σ z:=⟨_,x7 (by have:=(x5.1 e).1;omega)⟩;have:=(a.var i.toNat x z e j).2.1;unfold fj;rw[e];simp only;rw[u4,x7 f];exact this _ (Q4 f)
 .omega
section
variable{w:x4}{ad ae:Nat}{A R:ah}{n:aI}{s:am}{t:aw}
theorem QV{K:x1->x4->Prop}{i v:Int}(h:bt w ad ae A R n s t)(f:∀e I,Ext w I->K (.tuple #[Δ (cp n s i v),Δ e]) I):al x8 AF [Γ ad,Δ i,Δ v] w K:=by
 refine(pJ h).Y ?_;rintro _ U _ ⟨rfl,a⟩;have:=f;unfold cp at this;split
 .rename_i J;rw[m3 J]at this;exact this 0 U a
 .rename_i J;rw[m5 J]at this;exact this 1 U a
theorem QW{i:Int}(h:bt w ad ae A R n s t):al x8 Jz [Γ ad,Δ i] w λr I=>Ext w I/\∃cap,r= .func (.func A3) #[] cap/\∀l,Fm I A3 cap l (cp n s i):=by
 refine aB func163 ?_;refine bo λg1 U z x a=>?_;refine bo λB aa C p f=>?_;rw[lK];have q:=x.F p;refine⟨q,_,rfl,λl I v j _=>?_⟩;refine aB func220 ?_;have a:=a;have f:=f;rw[aD Ψ (((a.W p).W j).cell rfl),aD Ψ ((f.W j).cell rfl)];refine QV (h.W (q.F j)) λe E y=>?_;rw[bu,bw];exact⟨rfl,y⟩
theorem Fp{i:Int}(f:bd n.k n.co s)(h:lp n s i=ro):0<=i/\∃x,s.d6[i.toNat]?=σ x/\x.gone=0:=by
 unfold lp at h;rw[T1]at h;have h1:=rc h.1;have j:=f.d6;obtain⟨x,e⟩:=aF (l:=s.d6) (i:=i.toNat) Ω;have a:=h.2;unfold du at a;rw[e]at a;exact⟨h1.1,x,e,by simpa using a⟩
theorem QX{i:Int}(h:bt w ad ae A R n s t)(p:Laid w):al x8 AK [Γ ad,Δ i] w λr I=>Ext w I/\(lp n s i=rs->r= .tuple #[Δ 0,Δ (-1),Δ 1])/\
  ∀x,lp n s i=ro->s.d6[i.toNat]?=σ x->r= .tuple #[Δ (dz n.k (aC x) (cp n s i)).1,Δ (dz n.k (aC x) (cp n s i)).2,Δ 0]:=by
 refine aB func100 ?_;refine(QS h).Y ?_;rintro _ U _ ⟨rfl,a⟩;cases q:lp n s i with
 |false=>
  rw[m5 Φ,bF,ak];exact⟨λ_=>⟨a,λ_=>rfl,λ_ h=>by cases h⟩,λh=>m6 Φ h⟩
 |true=>
  obtain⟨y,x,f,_⟩:=Fp h.2.2.2.1 q;rw[m3 rfl,bF,ak];refine⟨λh=>m6 rfl h,λ_=>?_⟩;refine(QW (h.W a)).Y ?_;rintro _ aa _ ⟨z,cap,rfl,B⟩;have e:=a.F z;refine(QT (h.W e) (p.W e) y f (B _)).Y ?_;rintro _ E _ ⟨C,rfl⟩;rw[bu,bw];exact⟨e.F C,(λh=>by cases h),λG _ j=>by rw[f]at j;cases j;rfl⟩
theorem sE{f:ch}(h:bt w ad ae A R n s t)(a:s.d7[j]?=σ f):al x8 tx [Γ ad,Δ (j:Int)] w λr I=>Ext w I/\∃g,w.heap.size<=g/\aA .i64 aj I g r f.sc:=by
 have J:=(x5.1 a).1;refine aB func103 ?_;refine aV (λv U=>v= .bool rs/\Ext w U) ?_ ?_
 .rintro _ U ⟨rfl,e⟩;rw[aX];obtain⟨K,M,N,O,bc,P,L,Q,B,S,V,W,x,q⟩:=(h.W e).1.parts;obtain⟨y,z⟩:∃y,L[j]?=σ y:=⟨_,x7 (by rw[q.1];omega)⟩;obtain⟨C,_,_⟩:=q.2 j y f z a;rw[aG b9.p 3 B rfl,b7 rfl fa.u dU.i x (by rw[q.1];omega),aT dU.p rfl,aD Ψ (x.range z 0 _ rfl)];have X:f.sc.length<=6:=(h.2.2.2.1.d7 f (x6 a)).1.scope.2;refine(mr C.ls Ω).Y ?_;rintro v aa _ ⟨E,g,Y,hm⟩;have:=e.size;exact⟨e.F E,g,Ω,hm⟩
 intro ay G;rw[aR,ak];refine⟨λZ=>Ω,λ_=>?_⟩;refine(sA h).Y ?_;rintro _ ab _ ⟨rfl,H⟩;rw[cH];exact G _ _ ⟨by rw[ms Ω],H⟩
end
def bb(s:am)(i:Int):Λ:=match s.d6[i.toNat]? with
 |some x=>aC x
 |none=>[]
def pL(s:am)(sc:Λ)(pos:Int):Nat->Nat->Λ->List (Λ)
 |0,_,tl=>[tl]
 |m+1,p,tl=>if(p:Int)=pos then pL s sc pos m (p+1) tl else(bb s (sc.getD p 0)).flatMap λv=>pL s sc pos m (p+1) (tl.set p v)
section
variable{ad ae:Nat}{A R:ah}{n:aI}{s:am}{t:aw}
end
end Go.Proofs.YtnhkbjhpbbobaaaGreatDoor
