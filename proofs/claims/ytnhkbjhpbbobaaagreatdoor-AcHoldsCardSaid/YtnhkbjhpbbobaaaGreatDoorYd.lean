/- own texts, made small by a tool (wip/ holds them as they were written): no statement of the seat. -/
import Derived.Test.YtnhkbjhpbbobaaaGreatDoorYc
set_option linter.defProp false
set_option linter.unusedVariables false
set_option linter.unusedSimpArgs false
set_option linter.unnecessarySimpa false
open Array renaming getElem?_eq_some_iff→Z0
open BitVec renaming ofInt→T8
open Bool renaming false→v6,true→v2,not_true→X3,not_false→W6,or_eq_false_iff→U1,eq_iff_iff→U6,and_eq_true→U9,true_and→Q4
open Decidable renaming not_not→X5
open Go renaming Value→x4,World→x6,TypeId→o5,IntKind→j4,Program→V5
open Go.Builtin renaming append_→Z9,len_→V1
open Go.Instr renaming loadAt→u6,fieldAt→u7,storeAt→j0,indexAt→b8,extract→Y8,buildSlice→X2,sliceAt→U4,alloc→Q8
open Go.IntKind renaming i64→W5
open Go.Proofs.Tryz renaming prog→v8
open Int renaming toNat_natCast→u9,le_refl→S9
open List renaming getElem?_eq_some_iff→x5,mem_of_getElem?→x7,getElem?_eq_getElem→x8,getElem?_map→u4,getD_eq_getElem?_getD→u5,length_map→r8,take_add_one→r9,replicate→o6,length_set→o7,length_take→o8,take_length→o9,length_append→n9,mem_map→j5,mem_append→j9,mem_singleton→c9,take_of_length_le→b9,eq_nil_of_length_eq_zero→Z2,map_append→Z4,getElem?_append_right→Z7,length_cons→Y1,getElem?_append_left→Y2,getElem?_eq_none→Y5,getElem?_take_of_lt→Y6,getElem?_set→Y7,ext_getElem?→X0,mem_iff_getElem?→X8,range→X9,drop_eq_getElem_cons→W3,mem_or_eq_of_mem_set→W8,length_eq_one_iff→V6,flatMap_cons→V8,append_nil→U2,mem_of_mem_take→T1,map_set→T2,map_cons→T3,set_append_right→T4,length_singleton→T5,append_assoc→T6,mem_range→S1,foldl_append→S2,map_map→S5,mem_filter→S8,getElem?_drop→R3,length→Q2,getElem_mem→P6
open Nat renaming le_refl→o4,le_trans→X1,mul_le_mul_right→X4,zero_le→W0,sub_self→V0,add_mul→U7,mul_one→T0,pow_le_pow_right→S4,add_assoc→Q3,eq_zero_or_pos→Q9
open Option renaming toList_some→j6,isNone_some→Y0,map_some→Y3,map_eq_some_iff→Y9,getD_some→W7,map→U8,isSome_some→R2,isSome_none→Q1
open Option.some renaming inj→Z5,injEq→X7
open Prod.mk renaming injEq→S7
set_option maxHeartbeats 16000000
open Option renaming some→σ,none→ν
variable{aj all cs l pl co t tl:Λ}{I w:x6}{B N ad ae gs gz j:Nat}{c k n y:Int}{a e:o5}{aV sv lc v z:x4}{K:x4->Prop}{S:Nat->Prop}
namespace Go.Proofs.YtnhkbjhpbbobaaaGreatDoor
open Go Go.Vc Go.RowKit Go.Proofs Go.Proofs.Tryz
set_option maxRecDepth 100000
def kf(s:am)(sc aj cs:Λ):am:={s with d9:=s.d9++[⟨sc,aj,1,cs⟩]}
def pz(s:am)(t:aA)(cs:Λ):aA:=(oe t (1::cs)).set 1 ((s.d9.length+1:Nat):Int)
def PM{s:am}{t:aA}{sc:Λ}(h:t.b5=s.cells):(pz s t cs).b5=(kf s sc aj cs).cells:=by
 unfold pz kf;rw[aA.ru,Ex,h,<-PE];rfl
def PN{bn:Nat}{bo aJ bp:x4}{A R:ah}{n:aI}{s:am}{t:aA}{aS:x4}{sc:Λ}{g bM:Nat}{Z:x4}(h:eZ w ad ae bn bo aJ bp A R n s t)(cc:t.b5=s.cells)(cd:aM .i64 w aS sc)(dl:∀r,lw aS r->¬A r)(bq:dm w g bM Z aj k cs)(bN:¬A g/\¬A bM/\∀r,lw Z r->¬A r)(dn:sc.length<=1000)(aT:t.cells.length+cs.length+1<=100000000)(bc:t.olds.length+cs.length+1<=100000000)(hm:t.marks.length<=100000000)(dp:s.d9.length<=1000000):
  ak v8 I6 [Γ ad,aS,Γ g] w λv I=>v=Δ (s.d9.length:Int)/\af (eH w) w I/\∃aN R' br,Grow A w aN I/\eZ I ad ae bn bo br bp aN R' n (kf s sc aj cs) (pz s t cs)/\(∀r,R r->R' r)/\∀r,R' r->R r\/lw Z r\/w.heap.size<=r:=by
 have dq:t.cells.length=s.cells.length:=by rw[<-cc];simp[aA.b5]
 have dr:=xT s;have ce:fu (kf s sc aj cs) s.d9.length=t.cells.length:=by
  unfold fu kf;simp only[List.take_left];omega
 have cf:∀j,j<s.d9.length->fu (kf s sc aj cs) j=fu s j:=λj bs=>by
  unfold fu kf;simp only[List.take_append_of_le_length (show j<=s.d9.length by omega)]
 have cg:jM (kf s sc aj cs)=jM s:=rfl;refine az func134 ?_;refine c8 (λU=>af (eH w) w U/\∃aN R' br,Grow A w aN U/\eZ U ad ae bn bo br bp aN R' n (kf s sc aj cs) (oe t (1::cs))/\(∀r,R r->R' r)/\∀r,R' r->R r\/lw Z r\/w.heap.size<=r) ?_ ?_
 .rintro U ⟨ci,ds,cj,ck,cl,cm,cn,cp⟩;intro V bt _ _;have bO:=cm.W bt;obtain⟨_,bd,bx,ge,L,E,_,w0,al,_,_,_,⟨aZ,be⟩,_⟩:=id bO;have bf:L.length=s.d9.length+1:=by rw[be.1];simp[kf]
  rw[aL cU.p 1 al rfl,aL cU.p 3 al rfl,ef gi.u aZ];obtain⟨bP,cq,cr⟩:=bO.xZ;have ct:=xX t (1::cs) (1::cs).length;have cu:=xY t (1::cs) (1::cs).length;have cw:=sh t (1::cs) (1::cs).length;simp only[Y1]at ct cu;refine(uO cq rfl (by show 1<(fZ _ _ _).cells.length;simp only[Y1];omega) ⟨by show(fZ _ _ _).cells.length<=_;simp only[Y1];omega,by show(fZ _ _ _).olds.length<=_;simp only[Y1];omega,by show(fZ _ _ _).marks.length<=_;rw[cw];exact hm⟩).Y ?_;rintro _ cz _ ⟨rfl,cA,cB,cC⟩;obtain⟨cD,cE,cF,bQ⟩:=cr cA cz _ cB cC;obtain⟨_,bd,bx,ge,cG,E,_,w0,al,_,_,_,⟨aZ,cH⟩,_⟩:=id bQ;have dt:cG.length=s.d9.length+1:=by rw[cH.1];simp[kf]
  rw[aL cU.p 3 al rfl,ef gi.u aZ,dA,m1 Ω Ω];refine⟨by congr 1;omega,uT ci (jo bt cD),cE,cj,ck,cl.F ((Grow.W bt).F cF),?_,cn,cp⟩;have e:pz s t cs=(oe t (1::cs)).set 1 (L.length:Int):=by unfold pz;rw[bf]
  rw[e];exact bQ
 intro ax cI;intro aK aO _ _;have bR:=h.W aO;obtain⟨_,bd,bx,ge,L,E,_,w0,al,_⟩:=id bR;rw[aL cU.p 3 al rfl];have z4:=aO.size;have bg:∀{C:x6}{ac Q:x4}{a1 W:Nat},Ext aK C->w.heap.size<=a1->w.heap.size<=W->aB .i64 ai C a1 ac sc->aB .i64 av C W Q (1::cs)->(∀r,lw ac r\/lw Q r->¬A r)->
   ak v8 AI [Γ ad,Q] C λcJ ay=>
    (Ext aK ay\/b6 v8 (u6 gi (.pointer (σ ⟨ad,0+3,ν⟩))) aJ ay/\b6 v8 (u7 cU (Γ ad) 3) (.pointer (σ ⟨ad,0+3,ν⟩)) ay/\b6 v8 (bU (Γ ad)) (Γ ad) ay/\True)/\
    ab v8 (Instr.build gj #[(0,ac),(1,.agg #[Z]),(2,cJ)]) ay λt22=>
    aG v8 (X2 gi 1 #[(0,t22)]) ay λcK an=>
     (Ext aK an\/b6 v8 (u6 gi (.pointer (σ ⟨ad,0+3,ν⟩))) aJ an/\b6 v8 (u7 cU (Γ ad) 3) (.pointer (σ ⟨ad,0+3,ν⟩)) an/\b6 v8 (bU (Γ ad)) (Γ ad) an/\True)/\
    aG v8 (Z9 #[gi,gi] gi #[aJ,cK]) an λcM bh=>
     ab v8 (bU (Γ ad)) bh λt25=>
     ab v8 (u7 cU t25 3) bh λcN=>
     aG v8 (j0 gi cN cM) bh λ(_:Unit)aV=>
      ax aV:=by
  intro C ac Q a1 W B bS S G M bz;have cO:=bR.W B;refine(Ez cO M.ls (λr y=>bz r (.inr y)) (by simp only[Y1];omega) (by simp only[Y1];omega) hm).Y ?_;rintro _ ay _ ⟨rfl,cP,a2,aW,cQ⟩;obtain⟨⟨bT,bV,cR,bX⟩,bd,bx,ge,L,E,bP,w0,al,⟨cS,cT,bY⟩,⟨cV,bZ,b1,aE⟩,bA,⟨aZ,be⟩,bB,cW⟩:=id cQ;have aC:=bw G aW.1 λr y=>bz r (.inl y);have bi:=((Classical.choose_spec (show∃gs,aB .i64 ai w gs Z aj from by obtain⟨⟨_,gs,_,q,_⟩,_⟩:=bq;exact⟨gs,q⟩)).W aO).W B;have cX:=bw bi aW.1 bN.2.2;refine⟨.inr (uS al (λK=>by rw[aU cU.p rfl]) Ψ rfl),?_⟩;rw[dk (cs:=#[ac,Z,Δ (t.cells.length:Int)]) (by obtain⟨_,_,_,rfl⟩:=c5 G.ls;obtain⟨_,_,_,rfl⟩:=c5 bi.ls;kernel_rfl)];let a:qE:=⟨ac,Z,t.cells.length⟩;have cY:∀u∈qF a,u.oneCell'=v2:=by
   intro u hu;simp[qF]at hu;rcases hu with rfl|rfl|rfl
   .exact G.ls.cells.2
   .exact bi.ls.cells.2
   .rfl
  refine iO (f:=qF) (a:=a) gi.u gj.i Ω rfl rfl λdu dv an dw H cZ=>?_;refine⟨.inr (uS (al.W H) (λK=>by rw[aU cU.p rfl]) Ψ rfl),?_⟩;have a6:=aZ.W H;have bf:=be.1;refine jl gi.u gj.i rfl a6 (by simpa using cZ.sl) cY Ω Ω λc0 c1 bh a7 c2 b2=>?_;have a8:=al.W H;have b3:=a8.aa b2 λhe=>cL a6 a8 Φ he;rw[b0,aU cU.p rfl];refine bu gi.i (eB a7.sl).1 (eB a7.sl).2 b3 Ξ λaV bC dx bD=>?_;have bD:=bD;have ao:af (λr=>lm aJ r\/r=ad) an aV:=(b2.Y λr _ h=>.inl h).F (bC.Y λr _ h=>.inr h);have z9:=B.size;have dy:=aW.1.size;have dz:=H.size;have dC:=ao.size;have bE:∀r,(lm aJ r\/r=ad)->a2 r:=λr y=>y.elim (λy=>(aE r (.inr (.inl y))).1) λy=>y▸bT;have bF:∀r,(lm aJ r\/r=ad)->¬R r:=λr y=>bV r (bE r y);have c3:af (eH w) w aV:=uT (jo (aO.F B) cP) (jo H (ao.Y λr _ y=>by
   rcases y with y|rfl
   .obtain⟨_,c,aT⟩:=dU a6 y;exact .inl ⟨_,c,‹r=_› ▸aT,Φ⟩
   .exact .inl ⟨_,_,a8,Φ⟩))
  let c4:ah:=λr=>a2 r\/(an.heap.size<=r/\r<aV.heap.size);let bG:ah:=λr=>R r\/(lw Z r/\r<ay.heap.size)\/(lw ac r/\r<ay.heap.size);have dD:∀r,r<w.heap.size->a2 r->A r:=λr y h=>(aW.2.1 r h).elim id λh=>Ω
  have bH:∀r,lw ac r->w.heap.size<=r/\r<C.heap.size:=λr y=>by obtain⟨h1,aX⟩:=bW G y;omega
  have b4:∀r,lw Z r->r<C.heap.size:=λr y=>by obtain⟨h1,aX⟩:=bW bi y;omega
  have bj:∀r,lw ac r\/lw Z r->¬a2 r:=λr y c6=>by
   rcases aW.2.1 r c6 with h|h
   .rcases y with y|y
    .exact bz r (.inl y) h
    .exact bN.2.2 r y h
   .rcases y with y|y
    .have:=bH r y;omega
    .have:=b4 r y;omega
  refine cI _ ⟨c3,c4,bG,c0,(Grow.W (aO.F B)).F (aW.F ((Grow.W H).F ⟨ao.Y λr _ y=>bE r y,λr y=>y.imp id And.left,λr y=>.inl y⟩)),?_,λr y=>.inl y,λr y=>?_⟩
  rotate_left
  .rcases y with y|y|y
   .exact .inl y
   .exact .inr (.inl y.1)
   .exact .inr (.inr (bH r y.1).1)
  have b7:∀{v:x4}{ba:Nat}{l:Λ},aB .i64 ai an ba v l->(∀r,lw v r->¬a2 r)->aB .i64 ai aV ba v l:=λhm c7=>bw hm ao λr y J=>c7 r y (bE r J);have b8:∀r,bG r->r<an.heap.size:=λr y=>by
   rcases y with y|y|y
   .have:=cR r y;omega
   .omega
   .omega
  refine⟨⟨.inl bT,λr y aF=>?_,λr y=>by have:=b8 r y;omega,λr y=>y.elim (λy=>by have:=bX r y;omega) And.right⟩,bd,c1,ge,L++[a],E,bP,w0,bD,⟨cS,uQ (cT.F H) ao λr o y bc J=>bF r J (bY r o y bc),λr o y bc=>.inl (bY r o y bc)⟩,⟨(cV.W H).aa ao λr y J=>?_,λr y=>.inl (bZ r y),b1,λr y=>?_⟩,?_,⟨a7.aa bC λr y he=>?_,?_⟩,(bB.W H).aa ao λr y J=>?_,?_⟩
  .have:=b8 r aF;rcases y with y|y
   .rcases aF with aF|aF|aF
    .exact bV r y aF
    .exact bj r (.inr aF.1) y
    .exact bj r (.inl aF.1) y
   .omega
  .rcases J with J|rfl
   .exact (aE r (.inr (.inl J))).2 y
   .exact b1 y
  .rcases y with y|y|y
   .exact⟨.inl (aE r (.inl y)).1,(aE r (.inl y)).2⟩
   .obtain⟨h1,aX⟩:=a7.lw y;rcases c2 r y with h|h
    .exact⟨.inl (aE r (.inr (.inl h))).1,(aE r (.inr (.inl h))).2⟩
    .refine⟨.inr ⟨h,by have:=bC.size;omega⟩,λc9=>?_⟩;have:=bX r (bZ r c9);omega
   .exact⟨.inl (aE r (.inr (.inr y))).1,(aE r (.inr (.inr y))).2⟩
  .rw[cg];exact bw (bA.W H) ao λr y J=>by
    rcases J with J|rfl
    .obtain⟨rfl,c,aT⟩:=dU a6 J;exact ch (bA.W H) aT Φ y rfl
    .exact ch (bA.W H) a8 Φ y rfl
  .have he:r=ad:=he;subst he;exact cL a7 b3 Φ y
  .refine⟨by rw[n9,bf];simp[kf],λj x f bk aP=>?_⟩;have aP:(s.d9++[⟨sc,aj,1,cs⟩])[j]?=σ f:=aP;by_cases bs:j<s.d9.length
   .rw[Y2 Ω]at bk;rw[Y2 bs]at aP;obtain⟨da,db,dc⟩:=((((mE.aa be (H.aa λ_=>False) λ_ _ _ h=>h).aa ao λr _ y J=>bF r J y).Y (R':=bG) λr y=>.inl y)).2 j x f bk aP;exact⟨da,db,by rw[cf j bs];exact dc⟩
   .have bI:j=s.d9.length:=by have:=(x5.1 aP).1;simp at this;omega
    rw[Z7 Ω,bf,bI,V0]at bk;rw[Z7 Ω,bI,V0]at aP;cases bk;cases aP;refine⟨⟨⟨_,b7 (aC.W H) λr y=>bj r (.inl y)⟩,λr y=>.inr (.inr ⟨y,?_⟩)⟩,⟨⟨_,b7 (cX.W H) λr y=>bj r (.inr y)⟩,λr y=>.inr (.inl ⟨y,?_⟩)⟩,?_⟩
    .have:=bH r y;omega
    .have:=b4 r y;omega
    .rw[bI,ce]
  .rcases J with J|rfl
   .obtain⟨rfl,c,aT⟩:=dU a6 J;exact cL (bB.W H) aT Φ y
   .exact cL (bB.W H) a8 Φ y
  .exact ((nB.aa cW (H.aa λ_=>False) λ_ _ _ h=>h).aa ao λr _ y J=>bF r J y).Y λr y=>.inl y
 have aY:=bq.W aO;have b9:=cd.W aO;have dd:∀r,A r->r<w.heap.size:=h.1.2.2.2;obtain⟨_,⟨_,_,dE⟩,dF,dG⟩:=id bq;have dH:cs.length<=4096:=Ω
 have bl:∀{ap:x6}{aQ aR:x4}{X:Nat}{K:x4->x6->Prop},Ext aK ap->aK.heap.size<=X->aB .i64 av ap X aQ [1]->aM .i64 ap aR cs->
   (∀Q W C,Ext aK C->af (λr=>r=X) ap C->w.heap.size<=W->aB .i64 av C W Q (1::cs)->(Ext aK C->K Q C))->aG v8 (Z9 #[aw,aw] aw #[aQ,aR]) ap K:=by
  intro ap aQ aR X K z bm aq aD de;refine kt aw.u av.i rfl aq aD Θ Θ λQ W C S M au=>?_;have B:=z.put au Ω;have df:=z.size;exact de Q W C B au Ω M B
 have aH:∀{v:x4}{ba:Nat}{dg:j4}{e:o5}{dh:x6}{l:Λ},aB dg e dh ba v l->w.heap.size<=ba->∀r,lw v r->¬A r:=λhm dI r y di=>by
  obtain⟨h1,_⟩:=bW hm y;have:=dd r di;omega
 refine⟨?_,?_⟩
 .refine (k1 b9 Ω).Y ?_;rintro ac dj _ ⟨N,a1,bS,G⟩;have z5:=N.size;refine⟨.inl N,?_,?_⟩
  .refine (qs (aY.W N)).Y ?_;rintro _ ca _ ⟨rfl,O⟩;have Y:=N.F O;have dJ:=Y.size;have dK:=O.size;have cb:=(aY.W N).W O;refine⟨.inl Y,?_,?_⟩
   .refine eU aw.u av.i rfl λaQ X ap bm z aq=>?_;refine⟨.inl (Y.F z),?_⟩;refine(n8 (cb.W z)).Y ?_;rintro aR bJ _ ⟨P,bK,bL,aD⟩;have ag:=(Y.F z).F P;refine⟨.inl ag,?_⟩;refine bl ag Ω (aq.W P) aD.ls λQ W C B au S M _=>⟨.inl B,?_⟩;have aC:=bw (((G.W O).W z).W P) au λr y he=>by have he:r=X:=he;obtain⟨h1,aX⟩:=bW G y;omega
    exact bg B Ω S aC M λr y=>y.elim (aH G Ω r) (aH M S r)
   .refine (n8 cb).Y ?_;rintro aR ap _ ⟨z,bK,bL,aD⟩;refine⟨.inl (Y.F z),?_⟩;have df:=z.size;refine eU aw.u av.i rfl λaQ X bJ bm P aq=>?_;have ag:=(Y.F z).F P;refine⟨.inl ag,?_⟩;refine bl ag Ω aq (aD.ls.W P) λQ W C B au S M _=>⟨.inl B,?_⟩;have aC:=bw (((G.W O).W z).W P) au λr y he=>by have he:r=X:=he;obtain⟨h1,aX⟩:=bW G y;omega
    exact bg B Ω S aC M λr y=>y.elim (aH G Ω r) (aH M S r)
  .refine eU aw.u av.i rfl λaQ X ca bm O aq=>?_;have Y:=N.F O;refine⟨.inl Y,?_⟩;refine(qs ((aY.W N).W O)).Y ?_;rintro _ ap _ ⟨rfl,z⟩;have bb:=Y.F z;refine⟨.inl bb,?_⟩;refine(n8 (((aY.W N).W O).W z)).Y ?_;rintro aR bJ _ ⟨P,bK,bL,aD⟩;have ag:=bb.F P;refine⟨.inl ag,?_⟩;refine bl ag Ω ((aq.W z).W P) aD.ls λQ W C B au S M _=>⟨.inl B,?_⟩;have aC:=bw (((G.W O).W z).W P) au λr y he=>by have he:r=X:=he;obtain⟨h1,aX⟩:=bW G y;omega
   exact bg B Ω S aC M λr y=>y.elim (aH G Ω r) (aH M S r)
 .refine eU aw.u av.i rfl λaQ X dj bm N aq=>?_;refine⟨.inl N,?_⟩;have z5:=N.size;have dL:=uy aq Ξ;refine(k1 (b9.W N) Ω).Y ?_;rintro ac ca _ ⟨O,a1,bS,G⟩;have Y:=N.F O;refine⟨.inl Y,?_⟩;refine(qs ((aY.W N).W O)).Y ?_;rintro _ ap _ ⟨rfl,z⟩;have bb:=Y.F z;refine⟨.inl bb,?_⟩;refine(n8 (((aY.W N).W O).W z)).Y ?_;rintro aR bJ _ ⟨P,bK,bL,aD⟩;have ag:=bb.F P;refine⟨.inl ag,?_⟩;refine bl ag Ω (((aq.W O).W z).W P) aD.ls λQ W C B au S M _=>⟨.inl B,?_⟩;have aC:=bw ((G.W z).W P) au λr y he=>by have he:r=X:=he;obtain⟨h1,aX⟩:=bW G y;omega
  exact bg B Ω S aC M λr y=>y.elim (aH G Ω r) (aH M S r)
def jp{P:V5}{t G:o5}{k:j4}{b g:Nat}{x:x4}{m:Λ}{K:x4->x6->Prop}(y:P.underlying t=σ (.slice e))(hi:aR P e 1 b z)(A:z.cells.size=1)(h:aB k e w g v l)(B:aM k w x m)(C:(l.length+m.length)*b<=140737488355328)(E:l.length+m.length<=9223372036854775807)(F:∀a f I,aB k e I f a (l++m)->(∀r,lw a r->lw v r\/w.heap.size<=r)->af (λr=>lw v r) w I->K a I):aG P (Z9 #[t,t] G #[v,x]) w K:=by
 rcases h.2 with⟨p,H⟩|⟨cap,cs,p,M,N⟩
 .have J:=Z2 H;subst J;have aW:aB k e w w.heap.size v []:=by rw[p];exact aB.nil _ _ _ _
  refine kt y hi A aW B C E λa f I q hm s=>F a f I hm (λr j=>.inr ?_) (s.Y λr j he=>by have he:r=w.heap.size:=he;omega);obtain⟨L,_⟩:=bW hm j;omega
 .refine kt y hi A h B C E λa f I q hm s=>F a f I hm (λr j=>?_) (s.Y λr j he=>⟨_,_,_,p,he.symm⟩);obtain⟨L,_⟩:=bW hm j;rcases q with q|q
  .exact .inl ⟨_,_,_,p,by show g=r;omega⟩
  .exact .inr Ω
def addVar(s:am)(u:Λ):am:={s with d6:=s.d6++[newVar u]}
def PO(s:am)(u:Λ):jM (addVar s u)=jM s++[((3+(s.d6.flatMap iT).length:Nat):Int)]:=by
 unfold jM addVar;rw[n9,T5,List.range_succ,Z4];congr 1
 .apply List.map_congr_left;intro i hi;have:=S1.1 hi;unfold ie;simp only[List.take_append_of_le_length (show i<=s.d6.length by omega)]
 .simp[ie]
def PP{s:am}{u:Λ}(a:s.d9=[]):(addVar s u).cells=s.cells++(0::0::u):=by
 unfold am.cells addVar kc;simp only[a,List.flatMap_nil,U2,List.flatMap_append,List.flatMap_singleton,T6];rfl
def e8(n:aI)(i j:Nat):am:=⟨n.zero,(n.unary.take i).map newVar,(n.d9.take j).map (lS n.co),[]⟩
def EA{n:aI}{i:Nat}{u:Λ}(h:n.unary[i]?=σ u):e8 n (i+1) 0=addVar (e8 n i 0) u:=by
 unfold e8 addVar;simp only[r9,h,j6,Z4,List.map_singleton]
def PQ{n:aI}{i:Nat}{g:cR}(h:n.d9[j]?=σ g):e8 n i (j+1)=kf (e8 n i j) g.1 (bN n.co g.1) g.2:=by
 unfold e8 kf;simp only[r9,h,j6,Z4,List.map_singleton];rfl
def x0(n:aI):e8 n n.unary.length n.d9.length=c6 n:=by
 unfold e8 c6;rw[o9,o9]
theorem x1{α β:Type}{f:α->List β}{b:Nat}:∀{L:List α},(∀x∈L,(f x).length<=b)->(L.flatMap f).length<=L.length*b
 |[],_=>Ξ
 |x::L,h=>by
  rw[V8,n9,Y1,U7];have:=x1 λy a=>h y (.tail _ a);have:=h x (.head _);omega
def uU{n:aI}(a:lb n)(A:n.d9.length<=256)(i j:Nat):(e8 n i j).cells.length<=2000000:=by
 rw[xT];have h1:=x1 (f:=iT) (b:=34) (L:=(e8 n i j).d6) λx h=>by
  obtain⟨u,hu,rfl⟩:=j5.1 (show x∈(n.unary.take i).map newVar from h);obtain⟨p,ac⟩:=X8.1 (T1 hu);have B:=a.lQ;have C:=(x5.1 ac).1;obtain⟨z,q⟩:=aD (l:=n.co) (i:=p) Ω;have s:=(a.unary p z u q ac).1;have e:=a.co.2.2 z (x7 q);show u.length+2<=34;omega
 have s:=x1 (f:=jn) (b:=4097) (L:=(e8 n i j).d9) λx h=>by
  obtain⟨g,w,rfl⟩:=j5.1 (show x∈(n.d9.take j).map (lS n.co)from h);have e:=(a.d9 g (T1 w)).1;have r:=e.len;have y:=e.small;show g.2.length+1<=4097;omega
 have e:(e8 n i j).d6.length<=64:=by
  show((n.unary.take i).map newVar).length<=64;rw[r8,o8];have:=a.lQ;have:=a.co.2.1;omega
 have r:(e8 n i j).d9.length<=256:=by
  show((n.d9.take j).map (lS n.co)).length<=256;rw[r8,o8];omega
 have y:=X4 34 e;have E:=X4 4097 r;omega
def Plain(t:aA):Prop:=t.marks=[]/\t.olds=[]/\iI t []/\t.ky=0
def Plain.set{t:aA}(h:Plain t)(i:Nat)(x:Int):Plain (t.set i x):=⟨(aA.xV _ _ _).F h.1,(aA.xW h.1 _ _).F h.2.1,h.2.2.1.set,(aA.Er _ _ _).F h.2.2.2⟩
def Plain.lay{t:aA}(h:Plain t)(l:Λ):Plain (oe t l):=⟨(sh _ _ _).F h.1,(Ev h.1 _ _).F h.2.1,h.2.2.1.fZ l _,(Eu _ _ _).F h.2.2.2⟩
def Plain.put{s:am}{t:aA}(h:Plain t)(cs:Λ):Plain (pz s t cs):=(h.lay _).set _ _
def PR(w:x6)(R0:ah)(n:aI)(v:x4)(I:x6):Prop:=Ext w I/\∃ad ae A R t,v=Γ ad/\StateM I ad ae A R n (c6 n) t/\t.b5=(c6 n).cells/\Plain t/\(∀r,A r->w.heap.size<=r)/\∀r,R r->R0 r\/w.heap.size<=r
def PS{w0:x6}{R0:ah}{C:Nat}{n:aI}(aJ:gB w0 C n)(ao:Ext w0 w)(ba:∀r o,w0.heap[r]?=σ o->fK o=v2->R0 r)(aK:∀r,R0 r->r<w.heap.size)(y:lb n)(bb:n.d9.length<=256):ak v8 Az [Γ C] w (PR w R0 n):=by
 have h:=aJ.W ao;have bO:=y.lQ;have cT:=y.co.2.1;refine az func62 ?_;rw[di nS.u];simp only[Y0,a7];refine(PA (n:=3) Ω).Y ?_;rintro _ U _ ⟨ap,ae,rfl,bP⟩;rw[dk (cs:=#[Γ C,Γ ae,.slice ν 0 0,.slice ν 0 0,.slice ν 0 0]) Ψ];refine bn λad V cV O P=>?_;have P:=P;have cW:=ap.size;have cX:=O.size;have cY:=P.lt;have bQ:eZ V ad ae C (.slice ν 0 0) (.slice ν 0 0) (.slice ν 0 0) (λr=>r=ad\/(w.heap.size<=r/\r<U.heap.size)) R0 n ⟨0,[],[],[]⟩ ⟨o6 3 ⟨0,0⟩,[],[],0⟩:=by
  refine⟨⟨.inl rfl,λr q I=>?_,λr q=>?_,λr q=>?_⟩,0,0,0,[],[],λr=>w.heap.size<=r/\r<U.heap.size,w0,P,⟨aJ,ao.F (ap.F O),ba⟩,⟨(bP.cut).W O,λr q=>.inr q,λq=>?_,λr q=>?_⟩,aB.nil _ _ _ _,⟨bk.nil _ _ _ _ _,rfl,λj x f Q=>by simp at Q⟩,bk.nil _ _ _ _ _,rfl,λj x f Q=>by simp at Q⟩
  .have I:=aK r I;rcases q with q|q<;>omega
  .have q:=aK r q;omega
  .rcases q with q|q<;>omega
  .omega
  .rcases q with q|q|q
   .obtain⟨a,cZ,c,aM,c0⟩:=q;cases aM
   .exact (fi q).elim
   .exact (fi q).elim
 intro c1 S _ _;have bR:=bQ.W S;rw[aL cU.p 1 (P.W S) rfl];refine(PH (h.W ((ap.F O).F S))).Y ?_;rintro _ c2 _ ⟨rfl,aq⟩;refine⟨.inl aq,?_⟩;have bS:=bR.W aq;obtain⟨aP,bT,bU⟩:=bS.sg;refine(uO bT rfl Φ ⟨Ξ,Ξ,Ξ⟩).Y ?_;rintro _ bV _ ⟨_,bX,bZ,b1⟩;obtain⟨b2,bc,aQ⟩:=bU bX bV _ bZ b1;have aQ:=aQ.same (Eo ⟨0,[],[],[]⟩ n.zero);have z3:=S.size;have z4:=aq.size;have b4:=((ap.F O).F S).F aq;have be:=b4.then bc.1 λr q he=>by rcases he with he|he<;>omega
 refine(xU (h.W be)).Y ?_;rintro _ c3 _ ⟨rfl,bf⟩;refine bY.range n.co.length (λi au=>∃A G t,Ext w au/\eZ au ad ae C G (.slice ν 0 0) (.slice ν 0 0) A R0 n (e8 n i 0) t/\t.b5=(e8 n i 0).cells/\Plain t/\∀r,A r->w.heap.size<=r) Ω
  ⟨b2,_,_,be.F bf,aQ.W bf,?_,?_,λr q=>?_⟩ ?_ ?_
 .rw[aA.ru];rfl
 .exact Plain.set ⟨rfl,rfl,⟨rfl,rfl,λc z=>by rw[(List.mem_replicate.1 z).2];exact o4 _,W0 _⟩,rfl⟩ _ _
 .rcases bc.2.1 r q with he|he
  .rcases he with he|he<;>omega
  .omega
 .rintro i au b6 hi ⟨A,G,t,M,aR,W,X,ax⟩ b7;obtain⟨u,hu⟩:=aD (l:=n.unary) (i:=i) Ω;obtain⟨bg,bh⟩:=aD (l:=n.co) (i:=i) Ω;have c4:u.length<=32:=by
   have c5:=(y.unary i bg u bh hu).1;have c7:=y.co.2.2 bg (x7 bh);omega
  refine bC Ω ?_;refine(El (h.W M) y).Y ?_;rintro c8 c9 _ ⟨b8,_,b9⟩;obtain⟨da,db,ca⟩:=b9 u Ω (by rw[u9];exact hu);intro bi bj _ _;have aT:=b8.F bj;have bl:=aR.W aT;obtain⟨⟨_,_,_,Y⟩,bd,bm,ge,L,E,aP,w0,ay,_⟩:=id bl;have dc:=aT.size;have dd:=M.size;rw[aL cU.p 2 ay rfl];refine BA (l:=[0,0]) aw.u av.i Ω rfl Ψ λcb de df dg aC bo=>?_;refine⟨.inl aC,?_⟩;refine jp aw.u av.i rfl bo ((ca.W bj).ls.W aC) Θ Θ λcc dh dj cd ce cf=>?_;have bp:∀r,lw cb r->bi.heap.size<=r:=λr q=>by obtain⟨aM,_⟩:=bW bo q;omega
  have aE:=aC.then cf λr q he=>by have:=bp r he;omega
  refine⟨.inl aE,?_⟩;have cg:=bl.W aE;have ci:∀r,lw cc r->bi.heap.size<=r:=λr q=>by
   rcases ce r q with h|h
   .exact bp r h
   .have:=aC.size;omega
  have cj:t.cells.length<=2000000:=by
   have h1:=uU y bb i 0;rw[<-W]at h1;unfold aA.b5 at h1;rwa [r8]at h1
  have ck:t.olds.length=0:=by rw[X.2.1];rfl
  have cl:t.marks.length=0:=by rw[X.1];rfl
  refine(Ez cg cd.ls (λr q s=>by have:=Y r s;have:=ci r q;omega) Θ Θ Ω).Y ?_;rintro _ dl _ ⟨rfl,_,aV,aW,cm⟩;obtain⟨⟨bq,br,cn,bs⟩,bd,bm,ge,L,E,aP,w0,ay,⟨cp,cq,bt⟩,⟨cr,bx,bz,aF⟩,ct,⟨cu,cw⟩,cz,cA⟩:=id cm;refine⟨.inr (uS ay (λK=>by rw[aU cU.p rfl]) Ψ rfl),?_⟩;refine eU an.u ai.i rfl λdm dn bA dp B cB=>?_;have aX:=ay.W B;refine⟨.inr (uS aX (λK=>by rw[aU cU.p rfl]) Ψ rfl),?_⟩;have bB:(jM (e8 n i 0)).length=i:=by
   unfold jM e8;simp only[r8,List.length_range,o8];omega
  have bD:=ct.W B;refine jp an.u ai.i rfl bD cB.ls (by rw[bB];simp;omega) (by rw[bB];simp;omega) λcC cD dq Z cE bE=>?_;have bF:=aX.aa bE λhe=>ch bD aX Φ he rfl;rw[b0,aU cU.p rfl];refine bu an.i Z.ls.cells.1 Z.ls.cells.2 bF Ξ λbG aY dr aZ=>?_;have aZ:=aZ;rw[aO];have z:af (λr=>lw G r\/r=ad) bA bG:=(bE.Y λr _ h=>.inl h).F (aY.Y λr _ h=>.inr h);have ds:=aE.size;have z12:=aW.1.size;have dt:=B.size;have du:=z.size;have bH:∀r,aV r->w.heap.size<=r:=λr q=>(aW.2.1 r q).elim (ax r) λh=>Ω
  have bI:∀r,(lw G r\/r=ad)->aV r:=λr q=>q.elim (λq=>(aF r (.inl q)).1) λq=>q▸bq;have cF:(e8 n (i+1) 0).cells=(e8 n i 0).cells++(0::0::u):=by rw[EA hu];exact PP rfl
  have cG:t.cells.length=3+((e8 n i 0).d6.flatMap iT).length:=by
   have h1:=congrArg Q2 W;rw[xT]at h1;unfold aA.b5 at h1;rw[r8]at h1;have:((e8 n i 0).d9.flatMap jn).length=0:=by simp[e8]
   omega
  refine b7 _ ⟨λr=>aV r\/(bA.heap.size<=r/\r<bG.heap.size),cC,oe t ([0,0]++u),?_,⟨⟨.inl bq,λr q I=>?_,λr q=>by have:=cn r q;omega,λr q=>?_⟩,cD,bm,ge,L,E,aP,w0,aZ,⟨cp,uQ (cq.F B) z λr o q cH J=>br r (bI r J) (bt r o q cH),bt⟩,⟨(cr.W B).aa z λr q J=>?_,λr q=>.inl (bx r q),bz,λr q=>?_⟩,?_,⟨(cu.W B).aa z λr q J=>?_,?_⟩,(cz.W B).aa z λr q J=>?_,?_⟩,?_,X.lay _,λr q=>?_⟩
  .exact ((M.F (aT.F aE)).then aW.1 λr q he=>by have:=ax r he;omega).F B |>.then z λr q J=>by have:=bH r (bI r J);omega
  .rcases q with q|q
   .exact br r q I
   .have I:=aK r I;omega
  .rcases q with q|q
   .have:=bs r q;omega
   .exact q.2
  .rcases J with J|rfl
   .exact (aF r (.inl J)).2 q
   .exact bz q
  .rcases q with q|q|q
   .have dv:=(bW Z q);rcases cE r q with h|h
    .exact⟨.inl (aF r (.inl h)).1,(aF r (.inl h)).2⟩
    .refine⟨.inr ⟨h,by have:=aY.size;omega⟩,λcI=>by have:=bs r (bx r cI);omega⟩
   .exact (fi q).elim
   .exact (fi q).elim
  .rw[EA hu,PO,<-cG];exact bw Z aY λr q he=>by
    have he:r=ad:=he;subst he;exact ch Z bF Φ q rfl
  .exact (fi q).elim
  .refine⟨cw.1,λj x f Q a1=>?_⟩;have a1:((n.d9.take 0).map (lS n.co))[j]?=σ f:=a1;simp at a1
  .exact (fi q).elim
  .refine⟨cA.1,λj x e Q he=>?_⟩;have he:([]:List uP)[j]?=σ e:=he;simp at he
  .rw[Ex,cF,W];rfl
  .rcases q with q|q
   .exact bH r q
   .omega
 .rintro au b6 ⟨A,G,t,M,aR,W,X,ax⟩;refine b3 Ω ?_;refine(Ek (h.W M)).Y ?_;rintro _ dw _ ⟨rfl,bJ⟩;refine bY.range n.d9.length (λj ab=>∃A R aG t,Ext w ab/\eZ ab ad ae C G aG (.slice ν 0 0) A R n (e8 n n.co.length j) t/\t.b5=(e8 n n.co.length j).cells/\Plain t/\(∀r,A r->w.heap.size<=r)/\∀r,R r->R0 r\/w.heap.size<=r) Ω
   ⟨A,_,_,t,M.F bJ,aR.W bJ,W,X,ax,λ_ h=>.inl h⟩ ?_ ?_
  .rintro j ab cJ cK ⟨A,R,aG,t,H,ac,N,ag,aj,a2⟩ cL;obtain⟨g,aH⟩:=aD (l:=n.d9) cK;have a6:=(y.d9 g (x7 aH)).1;refine bC Ω ?_;refine(PI (h.W H) y aH).Y ?_;rintro aS dx _ ⟨al,gs,dy,bK⟩;refine(PK aJ (ao.F (H.F al)) aH).Y ?_;rintro _ dz _ ⟨am,gt,dA,cM,rfl,dC,dD,cN,bL⟩;have z0:=ao.size;have cO:∀r,lw cM r->r<w.heap.size:=λr q=>by obtain⟨c,a8⟩:=bL r q;have:=a8.lt;omega
   have cP:=(ac.W al).W am;have Y:∀r,A r->r<ab.heap.size:=ac.1.2.2.2;have dE:=al.size;have cj:t.cells.length<=2000000:=by
    have h1:=uU y bb n.co.length j;rw[<-N]at h1;unfold aA.b5 at h1;rwa [r8]at h1
   have ck:t.olds.length=0:=by rw[ag.2.1];rfl
   have cl:t.marks.length=0:=by rw[ag.1];rfl
   have dF:g.2.length<=4096:=by have:=a6.len;have:=a6.small;omega
   have dG:=a6.scope.2;refine(PN (sc:=g.1) cP N (bK.ls.W am) (λr q s=>by have:=Y r s;obtain⟨aM,_⟩:=bW bK q;omega) cN ⟨λs=>by have:=Y _ s;omega,λs=>by have:=Y _ s;omega,λr q s=>by have:=aj r s;have:=cO r q;omega⟩ Ω Ω Ω Ω ?_).Y ?_
   .show ((n.d9.take j).map (lS n.co)).length<=_;rw[r8,o8];omega
   rintro _ dH _ ⟨rfl,_,aN,R',cQ,bM,cR,dI,cS⟩;rw[aO];have bN:=PQ (i:=n.co.length) aH;refine cL _ ⟨aN,R',cQ,pz (e8 n n.co.length j) t g.2,((H.F al).F am).then bM.1 (λr q s=>by have:=aj r s;omega),?_,?_,ag.put _,λr q=>?_,λr q=>?_⟩
   .rw[bN];exact cR
   .rw[bN];exact PM N
   .rcases bM.2.1 r q with h|h
    .exact aj r h
    .have:=H.size;have:=am.size;omega
   .rcases cS r q with h|h|h
    .exact a2 r h
    .exact .inl (by obtain⟨c,a8⟩:=bL r h;exact ba r _ a8 rfl)
    .exact .inr (by have:=H.size;have:=al.size;have:=am.size;omega)
  .rintro ab cJ ⟨A,R,aG,t,H,ac,N,ag,aj,a2⟩;refine b3 Ω ?_;have e:e8 n n.co.length n.d9.length=c6 n:=by rw[<-bO];exact x0 n
   rw[e]at ac N;exact⟨H,ad,ae,A,R,t,rfl,⟨C,G,aG,_,ac⟩,N,ag,aj,a2⟩
def PT(L:Bytes l)(W:l.length<=100000):ak v8 JH [cf l] w λv I=>v=lK l/\Ext w I:=by
 refine az func180 ?_;refine i9 (λad ae U=>Ext w U/\∃(m:Λ)(s:Int),ad=cf m/\ae=Δ s/\Bytes m/\m.length<=100000/\qm l m s) ?_ ?_
 .rintro _ _ U ⟨M,m,s,rfl,rfl,H,ay,J⟩;rw[pf db.u,bl,al];refine⟨λN=>?_,λN=>?_⟩
  .have O:m=[]:=Z2 Ω;exact⟨by rw[tU J (by rw[O];rfl)],M⟩
  have O:m≠[]:=λh=>N (by rw[h];rfl);refine q4.range m.length (λi _ _ P Q f=>Ext U f/\∃(n:Int)(a:Bool),P= .int .u64 n/\Q= .bool a/\nZ n a ((m.take i).foldl ff 0)/\(m.take i).all gL=v2) Ω ⟨Ext.refl _,0,v6,rfl,rfl,Ln,rfl⟩ ?_ ?_
  .rintro i af t3 _ _ f ag hi ⟨B,n,a,rfl,rfl,p,C⟩ ah;obtain⟨b,q⟩:=aD (l:=m) hi;have aA:=H b (x7 q);rw[pf db.u];refine bC Ω ?_;refine BF (λ_ _ P Q j=>Ext U j/\∃(n:Int)(a:Bool),P= .int .u64 n/\Q= .bool a/\nZ n a ((m.take (i+1)).foldl ff 0)/\(m.take (i+1)).all gL=v2) ?_ ?_
   .rintro aB aC a3 a4 j ai;rw[aO];exact ah _ _ _ _ _ ai
   intro ax z;refine aY (λv j=>f=j/\v= .bool (!gL b)) ?_ ?_
   rotate_left
   .intro R e;rw[rx rfl db.u H q,aT,al];refine⟨λh=>e _ _ ⟨rfl,by unfold gL;rw[s2 Ω];rfl⟩,λh=>?_⟩;rw[rx rfl db.u H q,bP];refine e _ _ ⟨rfl,?_⟩;unfold gL;congr 1;by_cases X:57<b
    .rw[rs X,s2 Ω];rfl
    .rw[s2 X,rs Ω];rfl
   rintro _ _ ⟨rfl,rfl⟩;cases S:gL b with
   |false=>
    rw[W6,bO];exact⟨by rw[tU J (Cs q S)],M.F B⟩
   |true=>
    rw[X3,a7];have aj:=ty S;have K:=Lm p aj;rw[Cq q,Cp q,C,S]at z;have am:=p.1;have an:=p.2.1;refine aY (λv j=>f=j/\v= .bool (a||decide (461168601842738790<n))) ?_ ?_
    rotate_left
    .intro R e;rw[bP,al];refine⟨λh=>e _ _ ⟨rfl,by rw[rs h,Bool.or_true]⟩,λh=>e _ _ ⟨rfl,by rw[s2 h,Bool.or_false]⟩⟩
    rintro _ _ ⟨rfl,rfl⟩;by_cases E:a=v2\/461168601842738790<n
    .have r:(a||decide (461168601842738790<n))=v2:=by rcases E with h|h<;>simp[h]
     rw[ms E,r]at K;rw[r,bL,X3,a7];exact z _ _ _ _ _ ⟨B,n,v2,rfl,rfl,K,rfl⟩
    .have r:(a||decide (461168601842738790<n))=v6:=by
      cases a with
      |true=>exact ro (.inl rfl) E
      |false=>simp;omega
     rw[rc E,r]at K;have aE:¬461168601842738790<n:=λh=>E (.inr h);rw[r,bL,W6,bO,fB,rx rfl db.u H q,dA,wrap_u8 Ω Ω,fC cO.u fN.u,m2 Ω Ω,m2 Ω Ω,aO,m2 Ω Ω];exact z _ _ _ _ _ ⟨B,_,v6,rfl,rfl,K,rfl⟩
  .rintro af t3 _ _ f ag ⟨B,n,a,rfl,rfl,p,C⟩;rw[o9]at C p;rw[pf db.u];refine b3 Ω ?_;have Y:=Lo p;have am:=p.1;have an:=p.2.1;have ao:∀{x:Int},x=m.foldl ff 0->0<=x->x<=4611686018427387904->(ab v8 (convert fN av (.int .u64 x)) f λap=>
     ab v8 (aP .mul av v6 v6 (Δ s) ap) f λaq=>(λv I=>v=lK l/\Ext w I) (.tuple #[aq,(Δ 0)]) f):=by
    intro x au N h1;rw[fC fN.u av.u,m1 Ω Ω,fB];have hw:W5.wrap (s*x)=s*x:=by
     rcases J.1 with rfl|rfl<;>exact m1 Ω Ω
    rw[hw];refine⟨?_,M.F B⟩;rw[Cv J (Cr O C),au]
   refine aY (λv j=>f=j/\v= .int .u64 (m.foldl ff 0)) ?_ ?_
   .rintro _ _ ⟨rfl,rfl⟩;have Z:=tH C ⟨S9 _,Φ⟩;exact ao rfl Z.1 Z.2
   intro R e;refine aY (λv j=>f=j/\v= .bool (a||decide (4611686018427387904<n))) ?_ ?_
   .rintro _ _ ⟨rfl,rfl⟩;rw[cb];refine⟨λh=>e _ _ ⟨rfl,?_⟩,λh=>e _ _ ⟨rfl,?_⟩⟩
    .have aW:a=v2\/4611686018427387904<n:=by simpa using h
     rw[Y,ms aW]
    .have aW:¬(a=v2\/4611686018427387904<n):=by
      intro G;rcases G with G|G
      .simp[G]at h
      .simp[G]at h
     rw[Y,rc aW]
   .intro aF aa;cases a with
    |true=>rw[bO];exact aa _ _ ⟨rfl,rfl⟩
    |false=>rw[a7,bP];exact aa _ _ ⟨rfl,by rw[Bool.false_or]⟩
 .intro ax z;refine aY (λv V=>w=V/\∃c:Bool,v= .bool c/\(c=v2↔l[0]?=σ 45)) ?_ ?_
  .rintro _ _ ⟨rfl,c,rfl,ac⟩;rw[cb];refine⟨λaw=>?_,λr=>?_⟩
   .obtain⟨m,rfl⟩:∃m,l=45::m:=by
     have:=ac.1 aw;cases l with
     |nil=>simp at this
     |cons x m=>exact⟨m,by simp at this;rw[this]⟩
    rw[BJ (y:=1) (i:=1) rfl db.u Ξ];exact z _ _ _ ⟨Ext.refl _,m,-1,rfl,rfl,λb A=>L b (.tail _ A),by simp at W;omega,Ct⟩
   .refine z _ _ _ ⟨Ext.refl _,l,1,rfl,rfl,L,W,Cu λb A he=>?_⟩;subst he;have:=ac.2 A;rw[r]at this;cases this
  .intro R e;rw[pf db.u,bP,al];refine⟨λh=>?_,λh=>e _ _ ⟨rfl,v6,rfl,?_⟩⟩
   .obtain⟨b,A⟩:=aD (l:=l) (i:=0) Ω;rw[rx (y:=0) rfl db.u L A,bl];refine e _ _ ⟨rfl,_,rfl,?_⟩;rw[sp,A];exact⟨λh=>by rw[h],λh=>Z5 h⟩
   .have:l=[]:=Z2 Ω;subst this;simp
def PU{s:Go.Sem x4}(h:ab v8 s w λu=>u=v)(hk:K v):ab v8 s w K:=by
 obtain⟨u,h1,rfl⟩:=h;exact⟨u,h1,hk⟩
abbrev iU:Type:=Λ×Int
def ih(x:iU):List x4:=[cf x.1,Δ x.2]
def x2(x:iU):∀u∈ih x,u.oneCell'=v2:=by
 intro u hu;simp[ih]at hu;rcases hu with rfl|rfl<;>rfl
def kg(w:x6)(v:x4)(L:List iU):Prop:=cg w 2 v L.length (L.flatMap ih)
def x3{g:Nat}{L:List iU}(h:bk ih 2 cD w g v L):kg w v L:=h.sl
def EB{L:List iU}(h:kg w v L):ab v8 (V1 #[fA] a #[v]) w K=K (Δ (L.length:Int)):=by
 obtain⟨_,_,_,_,_,rfl,_⟩:=h;exact jd fA.u
def PV{k n:Nat}{cs:List x4}(h:cg w k v n cs)(f:af S w I)(p:∀r,lm v r->¬S r):cg I k v n cs:=by
 obtain⟨h1,b,o,base,cap,rfl,q,s,e,x⟩:=h;refine⟨h1,b,o,base,cap,rfl,q,s,e,?_⟩;rcases Q9 n with a|a
 .have:cs=[]:=Z2 (by rw[h1,a,Nat.zero_mul]);subst this;intro j v y;simp at y
 .have z:=e a;exact iH f (p b ⟨⟨b,o,ν⟩,n,cap,by rw[z],rfl⟩) x
def kg.aa{L:List iU}(h:kg w v L)(a:af S w I)(e:∀r,lm v r->¬S r):kg I v L:=PV h a e
def EC{x:iU}{L:List iU}(h:kg w v (x::L))(a:∀b o,w.rangeAt b o (ih x)->K (.pointer (σ ⟨b,o,ν⟩))):ab v8 (b8 fA v (Δ 0)) w K:=by
 obtain⟨_,b,o,base,cap,rfl,_,_,e,f⟩:=h;have:=eT (P:=v8) (w:=w) (K:=K) (k:=.i64) (c:=cap) fA.u cD.i (show 0<(x::L).length by simp) e;rw[show((0:Nat):Int)=0 from rfl]at this;rw[this];refine a _ _ λj u hu=>?_;have p:=(x5.1 hu).1;rw[Nat.zero_mul,Nat.add_zero];exact f j u (by rw[V8,Y2 p];exact hu)
def PW{x:iU}{L:List iU}(h:kg w v (x::L))(s:∀j,(∀I,kg I v (x::L)->kg I j L)->(∀r,lm j r->lm v r)->K j):ab v8 (U4 fA v (σ (Δ 1)) ν ν) w K:=by
 have B:=h;obtain⟨_,b,o,base,cap,rfl,C,_⟩:=h;rw[ip fA.u cD.i (oY 1 1 rfl) kY fo Ξ Ω (o4 _)];refine s _ (λI y=>?_) λr z=>?_
 .have:=cg.part (l:=1) (h:=(x::L).length) (m:=cap) y Ξ (o4 _) Ω (o4 _);have e:(((x::L).flatMap ih).drop (1*2)).take (((x::L).length-1)*2)=L.flatMap ih:=by
   rw[V8];have A:(L.flatMap ih).length=L.length*2:=iN λ_ _=>rfl;show(L.flatMap ih).take _=_;rw[b9 (by rw[A,Y1,Nat.add_sub_cancel];exact o4 _)]
  rw[e]at this;exact this
 .obtain⟨a,n,c,f,p⟩:=z;split at f
  .cases f;exact⟨_,_,_,rfl,p⟩
  .cases base with
   |none=>cases f
   |some q=>cases f;exact⟨_,_,_,rfl,p⟩
def PX{g n:Nat}{L:List iU}(x:y=(n:Int))(h:bk ih 2 cD w g v L)(z:n<=L.length)(A:∀p,kg w p (L.take n)->(∀r,lm p r->lm v r)->K p):ab v8 (U4 fA v ν (σ (Δ y)) ν) w K:=by
 have B:=x3 h;obtain⟨_,b,o,base,cap,rfl,F,_⟩:=h.sl;rw[ip fA.u cD.i jZ (oZ n y x) fo (W0 _) Ω (o4 _)];refine A _ ?_ λr C=>?_
 .have:=cg.part (l:=0) (h:=n) (m:=cap) B (W0 _) z Ω (o4 _);have e:((L.flatMap ih).drop (0*2)).take ((n-0)*2)=(L.take n).flatMap ih:=by
   rw[Nat.zero_mul,List.drop_zero,Nat.sub_zero,rQ (f:=ih) n λ_ _=>rfl]
  rw[e]at this;have E:(L.take n).length=n-0:=by rw[o8];omega
  unfold kg;rw[E];exact this
 .obtain⟨a,n,c,j,s⟩:=C;split at j
  .cases j;exact⟨_,_,_,rfl,s⟩
  .cases base with
   |none=>cases j
   |some q=>cases j;exact⟨_,_,_,rfl,s⟩
def PY(w:x6)(pl:Λ)(v:x4)(I:x6):Prop:=Ext w I/\∃a L,∃bad:Int,v= .tuple #[a,Δ bad]/\kg I a L/\L.map (·.1)=(lex pl).1/\(0<=bad↔(lex pl).2=v6)/\(∀r,lm a r->w.heap.size<=r)/\∀r,lm a r->∃c,ag I r cD c
def PZ{p:x4}(ac:aM .u8 w p pl)(ay:Bytes pl)(ba:pl.length<=65536):ak v8 IY [p] w (PY w pl):=by
 refine az func119 ?_;rw[a1 cT.u ac];refine q4.range pl.length (λi _ _ z H U=>Ext w U/\∃g L,∃(j:List (Λ))(A:Λ)(op:Bool),H= .bool op/\bk ih 2 cD U g z L/\L.map (·.1)=(if op then j++[A]else j)/\(op=v2->A.length<=i)/\L.length<=i/\jE (pl.drop i) j A op=lex pl/\∀r,lm z r->w.heap.size<=r) ac.le
  ⟨Ext.refl _,0,[],[],[],v6,rfl,bk.nil _ _ _ _ _,rfl,(λh=>by cases h),o4 _,LI pl,λr B=>(fi B).elim⟩ ?_ ?_
 rotate_left
 .rintro aA t3 z H U aB ⟨E,g,L,j,A,op,rfl,C,y,_,_,q,G⟩;refine b3 Ω ?_;rw[List.drop_length]at q;have q:(if op then j++[A]else j,v2)=lex pl:=q;exact⟨E,z,L,-1,rfl,x3 C,by rw[y,<-q],by rw[<-q];simp,G,λr B=>by obtain⟨rfl,c,V⟩:=dU C B;exact⟨c,V⟩⟩
 rintro i aA t3 z H U aB hi ⟨E,g,L,j,A,op,rfl,C,y,aj,bb,q,G⟩ aC;obtain⟨b,W⟩:=aD (l:=pl) hi;have bc:=ay b (x7 W);have am:pl.drop i=b::pl.drop (i+1):=by rw[W3 hi,(x5.1 W).2]
 rw[am]at q;unfold jE at q;refine bC Ω ?_;refine BF (λ_ _ z H X=>Ext w X/\∃g L,∃(j:List (Λ))(A:Λ)(op:Bool),H= .bool op/\bk ih 2 cD X g z L/\L.map (·.1)=(if op then j++[A]else j)/\(op=v2->A.length<=i+1)/\L.length<=i+1/\jE (pl.drop (i+1)) j A op=lex pl/\∀r,lm z r->w.heap.size<=r) ?_ ?_
 .rintro bd be a3 a4 X aE;rw[aO];exact aC _ _ _ _ _ aE
 intro ax an;rw[bh cT.u cO.i Ψ (ac.W E) W];refine aY (λv I=>U=I/\v= .bool (cH b)) ?_ ?_
 rotate_left
 .intro Y s;unfold cH at s;rw[bl,al];refine⟨λh=>s _ _ ⟨rfl,by rw[rs (.inl h)]⟩,λh1=>?_⟩;rw[bl,al];refine⟨λh=>s _ _ ⟨rfl,by rw[rs (.inr (.inl h))]⟩,λQ=>?_⟩;rw[bl,al];refine⟨λh=>s _ _ ⟨rfl,by rw[rs (.inr (.inr (.inl h)))]⟩,λaG=>?_⟩;rw[bl];refine s _ _ ⟨rfl,?_⟩;congr 1;rw[U6,sp,sp];exact⟨λh=>.inr (.inr (.inr h)),λh=>by rcases h with h|h|h|h;exact ro h h1;exact ro h Q;exact ro h aG;exact h⟩
 rintro _ _ ⟨rfl,rfl⟩;cases J:cH b with
 |true=>
  rw[bO];rw[ms J]at q;exact an _ _ _ _ _ ⟨E,g,L,_,[],v6,rfl,C,y,(λh=>by cases h),Ω,q,G⟩
 |false=>
  rw[a7];rw[rc (by rw[J];simp)]at q;refine aY (λv I=>U=I/\v= .bool (!bV b)) ?_ ?_
  rotate_left
  .intro Y s;unfold bV at s;rw[aT,al];refine⟨λh=>s _ _ ⟨rfl,by rw[s2 Ω];rfl⟩,λh=>?_⟩;rw[bP];refine s _ _ ⟨rfl,?_⟩;by_cases Q:126<b
   .rw[rs Q,s2 Ω];rfl
   .rw[s2 Q,rs Ω];rfl
  rintro _ _ ⟨rfl,rfl⟩;cases hw:bV b with
  |false=>
   rw[W6,bO];rw[rc (by rw[hw];simp)]at q;refine aY (λv I=>U=I/\∃R,kg U v R/\R.map (·.1)=j/\(∀r,lm v r->w.heap.size<=r)/\∀r,lm v r->lm z r) ?_ ?_
   .rintro v _ ⟨rfl,R,Z,aH,S,aI⟩;exact⟨E,v,R,(i:Int),rfl,Z,by rw[aH,<-q],by rw[<-q];simp,S,λr B=>by obtain⟨rfl,c,V⟩:=dU C (aI r B);exact⟨c,V⟩⟩
   .intro Y s;cases op with
    |false=>
     rw[a7];rw[rc Ξ]at y;exact s _ _ ⟨rfl,L,x3 C,y,G,λ_ h=>h⟩
    |true=>
     rw[bO];rw[ms rfl]at y;have aa:L.length=j.length+1:=by have:=congrArg Q2 y;simpa using this
     rw[ef fA.u C,dA,m1 Ω Ω];refine PX (n:=j.length) Ω C Ω λN Z S=>s _ _ ⟨rfl,_,Z,?_,λr B=>G r (S r B),S⟩;rw[List.map_take,y,List.take_left]
  |true=>
   rw[X3,a7];rw[ms hw]at q;refine aY (λz ad=>Ext w ad/\∃g M,∃x:iU,bk ih 2 cD ad g z (M++[x])/\M.map (·.1)=j/\x.1=(if op then A else[])/\(M++[x]).length<=i+1/\∀r,lm z r->w.heap.size<=r) ?_ ?_
   .rintro bf ad ⟨ao,aJ,M,x,aK,aL,ae,aN,ap⟩;intro af ag _ _;have O:=aK.W ag;have aq:(M++[x])[M.length]?=σ x:=Ξ
    have bg:(M++[x]).length=M.length+1:=Ξ
    rw[ef fA.u O,dA,m1 Ω Ω,ck (i:=M.length) Ω fA.u cD.i O Ω,aU cD.p rfl,aF (o:=M.length*2+0) Ψ (O.range aq 0 _ rfl),aO,m1 Ω Ω];obtain⟨bi,au⟩:∃N,aM .u8 af N [b]/\ab v8 (U4 cT p (σ (Δ (i:Int))) (σ (Δ ((i:Int)+1))) ν) af (λv=>v=N):=by
     have aP:=ac.W (ao.F ag);have:=tJ (P:=v8) (low:=σ (Δ (i:Int))) (high:=σ (Δ ((i:Int)+1))) (K:=λv=>aM .u8 af v [b]) cT.u cO.i aP (oY i _ rfl) (oZ (i+1) ((i:Int)+1) Ω) Ω Ω λN av=>by
      have e:((ints .u8 pl).drop (i*1)).take ((i+1-i)*1)=ints .u8 [b]:=by
       simp only[T0,show i+1-i=1 by omega];rw[ints,<-List.map_drop,<-List.map_take,am];rfl
      rw[e]at av;exact aM.of av
     obtain⟨v,aQ,aR⟩:=this;exact⟨v,aR,v,aQ,rfl⟩
    refine PU au.2 ?_;have bj:x.1.length<=65536:=by
     rw[ae];cases op with
     |true=>rw[ms rfl];have:=aj rfl;omega
     |false=>simp
    rw[wV cT.u cO.u db.u au.1,wU Θ,ck (i:=M.length) Ω fA.u cD.i O Ω,aU cD.p rfl];refine k6 (a':=(x.1++[b],x.2)) db.i rfl rfl O aq rfl Ω λbm aS bn aw=>?_;have e:(M++[x]).set M.length (x.1++[b],x.2)=M++[(x.1++[b],x.2)]:=by
     rw[T4 _ _ (o4 _),V0];rfl
    rw[e]at aw;refine an _ _ _ _ _ ⟨(ao.F ag).then aS (λr B he=>by have:=ap r he;omega),aJ,_,j,x.1++[b],v2,rfl,aw,by rw[Z4,aL];rfl,λ_=>?_,by simp at aN ⊢;omega,?_,ap⟩
    .rw[n9,ae];cases op with
     |true=>rw[ms rfl];have:=aj rfl;simp;omega
     |false=>simp
    .rw[<-q,ae];cases op with
     |true=>rfl
     |false=>rfl
   .intro Y s;cases op with
    |true=>
     rw[bL,X3,a7];rw[ms rfl]at y;have aa:L.length=j.length+1:=by have:=congrArg Q2 y;simpa using this
     obtain⟨M,x,rfl⟩:∃M x,L=M++[x]:=by
      have:L≠[]:=λh=>by rw[h]at aa;simp at aa
      exact⟨L.dropLast,L.getLast this,(List.dropLast_concat_getLast this).symm⟩
     rw[Z4]at y;obtain⟨aV,ah⟩:=List.append_inj' y Ξ;refine s _ _ ⟨E,g,M,x,C,aV,?_,Ω,G⟩;rw[ms rfl];have ah:[x.1]=[A]:=ah;exact(List.cons.inj ah).1
    |false=>
     rw[bL,W6,bO];rw[rc Ξ]at y;rw[dk (cs:=#[cf [],Δ (i:Int)]) Ψ];refine iO (f:=ih) (a:=(([],(i:Int)):iU)) fA.u cD.i Ω rfl rfl λv9 bo bp bq ai aW=>?_;have aX:=C.W ai;refine jl fA.u cD.i rfl aX (by simpa using aW.sl) (x2 _) Ω Ω λN aZ br a2 a6 a8=>?_;have bs:=E.size;have z9:=ai.size;refine s _ _ ⟨(E.F ai).then a8 (λr B he=>by have:=G r he;omega),aZ,L,_,a2,y,rfl,Θ,λr B=>?_⟩;rcases a6 r B with h|h
     .exact G r h
     .omega
structure x9 where
 v:x4
 t:Λ
 c:Int
def pA(y:x9):List x4:=[y.v,Δ y.c]
def lT(w:x6)(g:Nat)(v:x4)(l:List (Λ×Int)):Prop:=∃L:List x9,bk pA 2 cp w g v L/\(∀y∈L,∃gy,aB .i64 av w gy y.v y.t)/\L.map (λy=>(y.t,y.c))=l
structure kh where
 aS:x4
 lc:x4
 o:Int
 cq:x4
def fE(h:kh):List x4:=[h.aS,h.lc,Δ h.o,h.cq]
def ii(w:x6)(h:kh)(x:cE):Prop:=(∃g,aB .i64 av w g h.aS x.scope)/\(∃g,aB .i64 av w g h.lc x.co)/\h.o=x.other/\∃g,lT w g h.cq x.lines
def iu(w:x6)(r:Nat):Prop:=∃e c,ag w r e c/\e≠av/\e≠cp
def eQ{g:Nat}(h:aB .i64 av w g v l)(f:af S w I)(j:∀r,S r->iu w r\/w.heap.size<=r):aB .i64 av I g v l:=bw h f λr a J=>by
 rcases j r J with⟨e,c,p,q,_⟩|s
 .exact ch h p (λhe=>q he.symm) a rfl
 .obtain⟨x,y⟩:=bW h a;omega
def ya{α:Type}{f:α->List x4}{k:Nat}{g:Nat}{L:List α}(h:bk f k e w g v L)(p:af S w I)(q:∀r,S r->(∃a c,ag w r a c/\a≠e)\/w.heap.size<=r):bk f k e I g v L:=h.aa p λr j J=>by
 rcases q r J with⟨a,c,s,x⟩|y
 .exact cL h s (λhe=>x he.symm) j
 .obtain⟨z,A⟩:=h.lw j;omega
def lT.dV{g:Nat}{l:List (Λ×Int)}(h:lT w g v l)(a:af S w I)(f:∀r,S r->iu w r\/w.heap.size<=r):lT I g v l:=by
 obtain⟨L,h1,j,p⟩:=h;refine⟨L,ya h1 a λr q=>(f r q).imp (λ⟨e,c,s,_,x⟩=>⟨e,c,s,x⟩) id,λy z=>?_,p⟩;obtain⟨gy,hm⟩:=j y z;exact⟨gy,eQ hm a f⟩
def ii.dV{h:kh}{x:cE}(au:ii w h x)(a:af S w I)(e:∀r,S r->iu w r\/w.heap.size<=r):ii I h x:=by
 obtain⟨⟨g1,h1⟩,⟨f,j⟩,p,q,s⟩:=au;exact⟨⟨g1,eQ h1 a e⟩,⟨f,eQ j a e⟩,p,q,s.dV a e⟩
def ii.W{h:kh}{x:cE}(au:ii w h x)(a:Ext w I):ii I h x:=au.dV (a.aa λ_=>False) λ_ h=>h.elim
def ii.one{h:kh}{x:cE}(au:ii w h x):∀u∈fE h,u.oneCell'=v2:=by
 obtain⟨⟨g1,h1⟩,⟨f,a⟩,j,p,L,e,_⟩:=au;intro u hu;simp[fE]at hu;rcases hu with rfl|rfl|rfl|rfl
 .exact h1.ls.cells.2
 .exact a.ls.cells.2
 .rfl
 .exact (eB e.sl).2
def oh(w:x6)(a:x4)(e:List iU)(gs:Nat)(sv:x4)(L:List kh)(X:List cE):Prop:=(kg w a e/\∀r,lm a r->∃c,ag w r cD c)/\bk fE 4 be w gs sv L/\X.length=L.length/\∀(i:Nat)h x,L[i]?=σ h->X[i]?=σ x->ii w h x
def oh.dV{p:x4}{y:List iU}{L:List kh}{X:List cE}(h:oh w p y gs sv L X)(j:af S w I)(q:∀r,S r->(∃e c,ag w r e c/\e≠av/\e≠cp/\e≠cD/\¬lm sv r)\/w.heap.size<=r):oh I p y gs sv L X:=by
 obtain⟨⟨h1,z⟩,A,C,E⟩:=h;have hw:∀r,lm p r->¬S r:=λr a J=>by
  obtain⟨c,f⟩:=z r a;rcases q r J with⟨e,F,B,_,_,s,_⟩|G
  .exact s (ft B f)
  .have:=f.lt;omega
 refine⟨⟨h1.aa j hw,λr a=>?_⟩,A.aa j λr a J=>?_,C,λi au x hi H=>(E i au x hi H).dV j λr a=>(q r a).imp (λ⟨e,c,f,K,M,_⟩=>⟨e,c,f,K,M⟩) id⟩
 .obtain⟨c,f⟩:=z r a;exact⟨c,f.aa j (hw r a)⟩
 .rcases q r J with⟨e,F,B,_,_,_,s⟩|G
  .exact s a
  .obtain⟨N,O⟩:=A.lw a;omega
def iV(a:x4)(e f bad h big j m5:Int)(sv:x4):List x4:=[a,Δ e,Δ f,Δ bad,Δ h,Δ big,Δ j,Δ m5,sv]
def P0(N:Nat)(so:Option aK)(a:List iU)(e bad big m5:Int)(L:List kh)(X:List cE):Prop:=match so with
 |some s=>bad=0/\e≠0/\(big≠0↔s.big=v2)/\(s.big=v6->m5=s.m5)/\True/\a.map (·.1)=s.hp/\(∀t∈s.hp,Bytes t/\t.length<=65536)/\X.map (λx=>(x.co,x.lines))=s.m6/\L.length+a.length<=100000
 |none=>bad≠0/\L.length<=N
def bS(w:x6)(g B:Nat)(H:ah)(N:Nat)(so:Option aK):Prop:=100000<=N/\∃w0 a e gs sv L X,∃(h f bad j big p m5:Int),w0.heap.size=B/\af (λr=>r=g) w0 w/\(∃c,ag w0 g bI c)/\ag w g bI (iV a h f bad j big p m5 sv)/\oh w0 a e gs sv L X/\(∀r,lm sv r->H r)/\P0 N so e f bad big m5 L X
theorem oh.g{g:Nat}{e:x4}{f:List iU}{L:List kh}{X:List cE}(h:oh w e f gs sv L X)(p:af (λr=>r=g) w I)(q:∃c,ag w g bI c):oh I e f gs sv L X:=
 h.dV p λr a=>.inl (by
  have a:r=g:=a;subst a;obtain⟨c,j⟩:=q;exact⟨_,c,j,Φ,Φ,Φ,λs=>cL h.2.1 j Φ s⟩)
def bS.new{g:Nat}{H:ah}{so:Option aK}(h:bS w g B H N so)(a:af S w I)(e:∀r,S r->B<=r):bS I g B H N so:=by
 obtain⟨s,w0,x,y,gs,sv,L,X,z,A,bad,C,big,E,m5,h1,f,j,F,G,K,M⟩:=h;have p:g<w0.heap.size:=by obtain⟨c,O⟩:=j;exact O.lt
 exact⟨s,w0,x,y,gs,sv,L,X,z,A,bad,C,big,E,m5,h1,⟨X1 f.size a.size,λr o q J p=>a.aX r o (f.aX r o q J p) J λP=>by
  have:=e r P;have:=(Z0.1 q).1;omega⟩,j,F.aa a λJ=>by have:=e g J;omega,G,K,M⟩
def bS.W{g:Nat}{H:ah}{so:Option aK}(h:bS w g B H N so)(a:Ext w I):bS I g B H N so:=h.new (a.aa λ_=>False) λ_ h=>h.elim
def bS.base{g:Nat}{H:ah}{so:Option aK}(h:bS w g B H N so):bS w g w.heap.size H N so:=by
 obtain⟨e,w0,f,j,gs,sv,L,X,p,q,bad,r,big,s,m5,h1,x,y,a,z,A,C⟩:=h;exact⟨e,w,f,j,gs,sv,L,X,p,q,bad,r,big,s,m5,rfl,af.refl _ _,⟨_,a⟩,a,z.g x y,A,C⟩
def bS.dV{g:Nat}{H:ah}{so:Option aK}(h:bS w g B H N so)(j:af S w I)(p:∀r,S r->(∃e c,ag w r e c/\e≠av/\e≠cp/\e≠cD/\e≠bI/\¬H r)\/w.heap.size<=r):bS I g I.heap.size H N so:=by
 obtain⟨s,w0,x,y,gs,sv,L,X,z,A,bad,C,big,E,m5,h1,F,G,f,K,q,M⟩:=h.base;have O:=K.g F G;have a:=f.aa j λJ=>by
  rcases p g J with⟨e,c,a,_,_,_,P,_⟩|Z
  .exact P (ft a f)
  .have:=f.lt;omega
 refine⟨s,I,x,y,gs,sv,L,X,z,A,bad,C,big,E,m5,rfl,af.refl _ _,⟨_,a⟩,a,O.dV j λr Q=>(p r Q).imp (λ⟨e,c,a,R,U,V,_,W⟩=>⟨e,c,a,R,U,V,λY=>W (q r Y)⟩) id,q,M⟩
def bS.lt{g:Nat}{H:ah}{so:Option aK}(h:bS w g B H N so):g<B/\B<=w.heap.size:=by
 obtain⟨f,w0,j,p,gs,sv,L,X,q,r,bad,s,big,x,m5,h1,a,⟨c,e⟩,_⟩:=h;have:=e.lt;have:=a.size;omega
def jq{g:Nat}{H:ah}{so:Option aK}(h:bS w g B H N so):∃a,∃(e f bad j big p m5:Int),∃sv,ag w g bI (iV a e f bad j big p m5 sv)/\(so.isSome=v2↔bad=0):=by
 obtain⟨x,w0,a,y,gs,sv,L,X,e,f,bad,j,big,p,m5,h1,z,A,r,C,E,q⟩:=h;refine⟨a,e,f,bad,j,big,p,m5,sv,r,?_⟩;cases so with
 |none=>exact⟨(λh=>by cases h),λh=>ro h q.1⟩
 |some s=>exact⟨λ_=>q.1,λ_=>rfl⟩
def mF{g:Nat}{H:ah}{so:Option aK}(h:bS w g B H N so):ab v8 (bU (Γ g)) w (λa=>ab v8 (u7 bI a 3) w λt45=>ab v8 (u6 ai t45) w λt46=>ab v8 (aP .eql ai v6 v2 t46 (Δ 0)) w K)=K (.bool so.isSome):=by
 obtain⟨f,j,q,bad,r,big,s,m5,sv,e,hi⟩:=jq h;rw[aL bI.p 3 e rfl,bl];congr 2;rw[U6,sp];exact hi.symm
def si{g:Nat}{H:ah}{so:Option aK}(h:bS w g B H N so):ab v8 (bU (Γ g)) w (λf=>ab v8 (u7 bI f 3) w λt45=>ab v8 (u6 ai t45) w λt46=>ab v8 (aP .neq ai v6 v2 t46 (Δ 0)) w K)=K (.bool (!so.isSome)):=by
 obtain⟨q,r,s,bad,x,big,y,m5,sv,j,hi⟩:=jq h;rw[aL bI.p 3 j rfl,bK];congr 2;cases e:so.isSome with
 |true=>have a:=hi.1 e;simp[a]
 |false=>
  have a:bad≠0:=λa=>by rw[hi.2 a]at e;cases e
  simp[a]
def qH(w:x6)(g B:Nat)(H:ah)(N:Nat)(so:Option aK)(I:x6):Prop:=af (λr=>r=g) w I/\bS I g B H N so
def pB{g:Nat}{H:ah}{so:Option aK}{e at_:Int}(h:bS w g B H N so)(he:e≠0):ak v8 oP [Γ g,Δ e,Δ at_] w λ_ I=>qH w g B H N ν I:=by
 refine az func124 ?_;rw[mF h];cases so with
 |none=>rw[Q1,a7];exact⟨af.refl _ _,h⟩
 |some s=>
  rw[R2,bO];obtain⟨j,w0,q,r,gs,sv,L,X,x,y,bad,Q,big,z,m5,h1,A,C,E,G,J,K⟩:=h;rw[b0,aU bI.p rfl];refine bu (g:=g) (o:=3) ai.i rfl rfl E (by simp[iV]) λU M R O=>?_;rw[b0,aU bI.p rfl];refine bu (g:=g) (o:=4) ai.i rfl rfl O (by simp[iV]) λV P S a=>?_;have a:=a;have f:=M.F P;obtain⟨_,_,_,_,_,_,_,_,W⟩:=K;exact⟨f,j,w0,q,r,gs,sv,L,X,x,y,e,at_,big,z,m5,h1,A.F f,C,a,G,J,he,Ω⟩
def oi{g:Nat}{H:ah}{so:Option aK}{b:Bool}{at_:Int}(h:bS w g B H N so):ak v8 tq [Γ g,.bool b,Δ at_] w λ_ I=>qH w g B H N (so.map (bi b)) I:=by
 refine az func121 ?_;obtain⟨A,w0,C,E,gs,sv,L,X,G,J,bad,K,big,Y,m5,h1,M,O,e,P,Q,f⟩:=id h;refine aY (λv U=>w=U/\v= .bool (b&&decide (big=0)&&so.isSome)) ?_ ?_
 .rintro _ _ ⟨rfl,rfl⟩;rw[cb];refine⟨λR=>?_,λZ=>⟨af.refl _ _,A,w0,C,E,gs,sv,L,X,G,J,bad,K,big,Y,m5,h1,M,O,e,P,Q,?_⟩⟩
  .rw[U9,U9]at R;obtain⟨⟨aa,ag⟩,ab⟩:=R;rw[b0,aU bI.p rfl];refine bu (g:=g) (o:=5) ai.i rfl rfl e (by simp[iV]) λU ac aj ad=>?_;rw[b0,aU bI.p rfl];refine bu (g:=g) (o:=6) ai.i rfl rfl ad (by simp[iV]) λV ae am j=>?_;have j:=j;have S:=ac.F ae;refine⟨S,A,w0,C,E,gs,sv,L,X,G,J,bad,K,5,at_,m5,h1,M.F S,O,j,P,Q,?_⟩;cases so with
   |none=>cases ab
   |some s=>
    obtain⟨q,r,W,x,y⟩:=f;exact⟨q,r,⟨λ_=>by show(s.big||b)=v2;rw[aa,Bool.or_true],λ_=>Ω⟩,λau=>x (U1.1 au).1,y⟩
  .cases so with
   |none=>exact f
   |some s=>
    obtain⟨q,r,W,x,y⟩:=f;refine⟨q,r,?_,λau=>x (U1.1 au).1,y⟩;show big≠0↔(s.big||b)=v2;cases b with
    |false=>rw[Bool.or_false];exact W
    |true=>
     have a:big≠0:=by simpa using Z
     simp[a]
 .intro ax z;cases b with
  |false=>rw[a7];exact z _ _ ⟨rfl,Ξ⟩
  |true=>
   rw[bO,aL bI.p 5 e rfl,bl,al];refine⟨λa=>?_,λa=>z _ _ ⟨rfl,by rw[s2 a];simp⟩⟩;rw[mF h];exact z _ _ ⟨rfl,by rw[rs a];simp⟩
def kF(so:Option aK):Option (Λ×aK):=so.bind ea
def ED{g:Nat}{H:ah}{so:Option aK}(h:bS w g B H N so):ak v8 IZ [Γ g] w λv I=>qH w g B H N ((kF so).map (·.2)) I/\∃(t:Λ)(n:Int),v= .agg #[cf t,Δ n]/\Bytes t/\t.length<=65536/\∀q,kF so=σ q->t=q.1:=by
 have aA:=h.lt;refine az func120 ?_;refine bE cD.i λe U bj y z=>?_;have h1:=h.W y;have zero:∀{f:x6},qH U g B H N ν f->ag f e cD [.string ⟨#[]⟩,Δ 0]->kF so=ν->(ab v8 (Instr.build cD #[]) f λt9=>
   aG v8 (j0 cD (Γ e) t9) f λ(_:Unit)V=>
   ab v8 (do loadVar cD (<-asAddr (Γ e))) V λaB=>(λv I=>qH w g B H N ((kF so).map (·.2)) I/\∃(t:Λ)(n:Int),v= .agg #[cf t,Δ n]/\Bytes t/\t.length<=65536/\∀q,kF so=σ q->t=q.1) aB V):=by
  intro f j G P;rw[dk (cs:=#[.string ⟨#[]⟩,Δ 0]) Ψ];refine b1 (vs:=[.string ⟨#[]⟩,Δ 0]) cD.i rfl rfl (by intro v Y;simp at Y;rcases Y with rfl|rfl<;>rfl) G λaC Z bk aD=>?_;rw[fe cD.p cD.i rfl aD.range,P];have aE:=y.size;have bm:=aA;refine⟨⟨iJ ((y.aa _).F j.1) Z λr a he=>?_,j.2.new Z λr a=>?_⟩,[],0,rfl,(λb aF=>by cases aF),Ξ,λq Q=>by cases Q⟩
  .have he:r=e:=he;omega
  .have a:r=e:=a;omega
 rw[si h1];cases so with
 |none=>
  rw[Q1,W6,bO];exact zero ⟨af.refl _ _,h1⟩ z rfl
 |some s=>
 rw[R2,X3,a7];obtain⟨aH,w0,bn,R,gs,sv,L,X,aI,aJ,bad,aM,big,aN,m5,aO,ac,ad,A,J,aP,aQ⟩:=id h1;have aR:=J.g ac ad;obtain⟨⟨K,bo⟩,_⟩:=id aR;obtain⟨aS,ae,aT,aV,aW,ai,aj,aX,aY⟩:=id aQ;rw[aL bI.p 0 A rfl,EB K,bl,al];refine⟨λam=>?_,λam=>?_⟩
 .have aZ:R=[]:=Z2 Ω;have C:s.hp=[]:=by rw[<-ai,aZ];rfl
  have P:kF (σ s)=ν:=by show ea s=ν;unfold ea;rw[C]
  intro f M _ _;have G:=A.W M;rw[aL bI.p 2 G rfl,aL bI.p 1 G rfl];refine(pB (h1.W M) ae).Y ?_;rintro _ aC _ j;have a1:=z.lt;exact zero ⟨(M.aa _).F j.1,j.2⟩ ((z.W M).aa j.1 λhe=>by have he:=he;omega) P
 .obtain⟨x,E,rfl⟩:∃x l,R=x::l:=by
   cases R with
   |nil=>exact ro rfl am
   |cons x l=>exact⟨x,l,rfl⟩
  have C:s.hp=x.1::E.map (·.1):=by rw[<-ai];rfl
  have a2:kF (σ s)=σ (x.1,{s with hp:=E.map (·.1)}):=by show ea s=_;unfold ea;rw[C]
  have an:=aj x.1 (by rw[C];exact .head _);rw[aL bI.p 0 A rfl];refine EC K λb o a6=>?_;rw[bz cD.p cD.i rfl a6];refine bE cD.i λbp bq br a8 ba=>?_;refine b1 (vs:=ih x) cD.i rfl rfl (x2 x) ba λbs bb bt ao=>?_;have O:=a8.put bb Ω;have ap:=A.W O;rw[aL bI.p 0 ap rfl];refine PW (K.aa (O.aa λ_=>False) λ_ _ h=>h) λaq au bc=>?_;have av:=au U K;rw[b0,aU bI.p rfl];refine bu (g:=g) (o:=0) fA.i (eB av).1 (eB av).2 ap (by simp[iV]) λaw S bw W=>?_;have W:=W;have a1:=A.lt;have bx:=ao.lt;have bA:=z.lt;have aE:=y.size;have bd:=ao.aa S λhe=>by have he:=he;omega
  rw[bz cD.p cD.i rfl bd.range];have be:ag aw e cD [.string ⟨#[]⟩,Δ 0]:=(ag.W z O).aa S λhe=>by have he:=he;omega
  refine b1 (vs:=ih x) cD.i rfl rfl (x2 x) be λbB ax bC bf=>?_;rw[fe cD.p cD.i rfl bf.range];have ay:=(O.aa _).F S;rw[a2];refine⟨⟨iJ ((y.aa _).F ay) ax λr a he=>?_,?_⟩,x.1,x.2,rfl,an.1,an.2,λq Q=>by cases Q;rfl⟩
  .have he:r=e:=he;omega
  .have bg:oh w0 aq E gs sv L X:=⟨⟨au w0 J.1.1,λr a=>J.1.2 r (bc r a)⟩,J.2⟩;have bh:bS aw g B H N (σ {s with hp:=E.map (·.1)}):=⟨aH,w0,aq,E,gs,sv,L,X,aI,aJ,bad,aM,big,aN,m5,aO,ac.F ay,ad,W,bg,aP,aS,ae,aT,aV,aW,rfl,λt bi=>aj t (by rw[C];exact .tail _ bi),aX,by simp at aY;omega⟩;refine bh.new ax λr a=>?_;have a:r=e:=a;omega
def P1{lo hi:Int}{so:Option aK}:bf lo hi so=match kF so with
  |none=>ν
  |some (w,s)=>match gM w with
   |none=>ν
   |some n=>if lo<=n/\n<=hi then σ (n,s)else ν:=by
 cases so with
 |none=>rfl
 |some s=>rfl
def lU{g:Nat}{H:ah}{so:Option aK}{lo hi:Int}(h:bS w g B H N so):ak v8 nc [Γ g,Δ lo,Δ hi] w λv I=>qH w g B H N ((bf lo hi so).map (·.2)) I/\∃n at_:Int,v= .tuple #[Δ n,Δ at_]/\(∀q,bf lo hi so=σ q->n=q.1)/\(bf lo hi so=ν->n=0):=by
 have ay:=h.lt;refine az func122 ?_;refine(ED h).Y ?_;rintro _ U _ ⟨⟨M,h1⟩,t,at_,rfl,Y,aA,O⟩;have aB:=h1.lt;refine bE cD.i λaC V aD Z ab=>?_;refine b1 (vs:=[cf t,Δ at_]) cD.i rfl rfl (by intro v P;simp at P;rcases P with rfl|rfl<;>rfl) ab λac ad aE Q=>?_;have R:Ext U ac:=Z.put ad Ω;have ae:=h1.W R;rw[aJ cD.p 0 Q rfl];refine(PT Y Ω).Y ?_;rintro _ C _ ⟨rfl,E⟩;have G:=ae.W E;have S:=Q.W E;have ag:=R.F E;have aF:=M.size;obtain⟨n,e,ai,J,aj⟩:∃n e:Int,lK t= .tuple #[Δ n,Δ e]/\(∀m,gM t=σ m->n=m/\e=0)/\(gM t=ν->e≠0):=by
  unfold lK;cases gM t with
  |none=>exact⟨0,4,rfl,(λm hm=>by cases hm),λ_=>Ω⟩
  |some m=>exact⟨m,0,rfl,(λm hm=>by cases hm;exact⟨rfl,rfl⟩),λh=>by cases h⟩
 rw[ai,bA,bB];have a:=P1 (lo:=lo) (hi:=hi) (so:=so);have W:af (λr=>r=g) w C:=M.F (ag.aa _);refine c8 (λx=>af (λr=>r=g) C x/\bS x g B H N ((bf lo hi so).map (·.2))) ?_ ?_
 .rintro x ⟨y,s⟩;rw[si s];cases z:bf lo hi so with
  |none=>
   rw[z]at s;rw[Option.map_none,Q1,W6,bO];exact⟨⟨W.F y,s⟩,0,0,rfl,(λq z=>by cases z),λ_=>rfl⟩
  |some q=>
   rw[z]at s a;rw[Y3,R2,X3,a7];intro aG K _ _;have am:=(S.aa y λhe=>by have he:=he;omega).W K;rw[aJ cD.p 1 am rfl];refine⟨⟨(W.F y).F (K.aa _),s.W K⟩,n,at_,rfl,λaH an=>?_,λh=>by cases h⟩;cases an;cases j:kF so with
   |none=>rw[j]at a;cases a
   |some p=>
    obtain⟨bt,s1⟩:=p;have L:=O (bt,s1) j;subst L;rw[j]at a;simp only at a;cases f:gM t with
    |none=>rw[f]at a;cases a
    |some m=>
     rw[f]at a;simp only at a;split at a
     .cases a;exact(J m f).1
     .cases a
 .intro ax X;refine aY (λv x=>C=x/\∃c:Bool,v= .bool c/\(c=v2->bf lo hi so=ν)/\(c=v6->(bf lo hi so).map (·.2)=(kF so).map (·.2))) ?_ ?_
  .rintro _ _ ⟨rfl,c,rfl,ao,ap⟩;rw[cb];refine⟨λh=>?_,λh=>X _ ⟨af.refl _ _,by rw[ap h];exact G⟩⟩;rw[aJ cD.p 1 S rfl];refine(pB G Ω).Y ?_;rintro _ x _ ⟨y,s⟩;exact X _ ⟨y,by rw[ao h];exact s⟩
  .intro aI A;rw[mF G];cases j:kF so with
   |none=>
    rw[j]at a;simp only at a;rw[Option.map_none,Q1,a7];exact A _ _ ⟨rfl,v6,rfl,(λh=>by cases h),λ_=>by rw[a,j];rfl⟩
   |some p=>
    obtain⟨bt,s1⟩:=p;have L:=O (bt,s1) j;subst L;rw[j]at a;simp only at a;rw[Y3,R2,bO,bK,al];refine⟨λhe=>?_,λhe=>?_⟩
    .refine A _ _ ⟨rfl,v2,rfl,λ_=>?_,λh=>by cases h⟩;cases f:gM t with
     |none=>rw[a,f]
     |some m=>exact ro (J m f).2 he
    .have aq:=X5.1 he;cases f:gM t with
     |none=>exact ro aq (aj f)
     |some m=>
      rw[f]at a;simp only at a;have av:=(J m f).1;subst av;rw[aT,al];refine⟨λaw=>A _ _ ⟨rfl,v2,rfl,λ_=>by rw[a,rc Ω],λh=>by cases h⟩,λaw=>?_⟩;rw[bP];refine A _ _ ⟨rfl,_,rfl,λau=>?_,λau=>?_⟩
      .rw[a,rc (by have:=ty au;omega)]
      .rw[a,ms (by have:=of_decide_eq_false au;omega),j];rfl
def yb{bj bv:x4}{a b:Λ}(e:aM .i64 w bj a)(s:aM .i64 w bv b):ak v8 tr [bj,bv] w λv I=>v= .bool (decide (a=b))/\Ext w I:=by
 refine az func181 ?_;rw[a1 aw.u e,a1 aw.u s,bK,al];refine⟨λh=>⟨by rw[s2];intro he;rw[he]at h;exact h rfl,Ext.refl _⟩,λh=>?_⟩;have z:a.length=b.length:=by have:=X5.1 h;omega
 rw[a1 aw.u e];refine b7.range a.length (λi _ U=>Ext w U/\a.take i=b.take i) e.le ⟨Ext.refl _,rfl⟩ ?_ ?_
 .rintro i _ U k hi ⟨q,f⟩ hk;obtain⟨x,j⟩:=aD (l:=a) hi;obtain⟨y,r⟩:=aD (l:=b) (i:=i) Ω;refine bC Ω ?_;intro V A _ _;have p:=q.F A;rw[bh aw.u av.i Ψ (e.W p) j,bh aw.u av.i Ψ (s.W p) r,bK,al];refine⟨λB=>⟨by rw[s2];intro he;rw[he,r]at j;exact B (Z5 j).symm,p⟩,λhe=>?_⟩;rw[aO];refine hk _ _ ⟨p,?_⟩;rw[r9,r9,f,j,r,X5.1 he]
 .rintro _ U k ⟨q,f⟩;rw[aT,al];refine⟨λh=>Ω,λ_=>⟨?_,q⟩⟩;rw[o9,z,o9]at f;rw[rs f]
def iv(w:x6)(B a:Nat)(x:cE):Prop:=∃aS lc cq g1 e f,ag w a be [aS,lc,Δ x.other,cq]/\aB .i64 av w g1 aS x.scope/\aB .i64 av w e lc x.co/\lT w f cq x.lines/\(∀r,lw aS r\/lw lc r->B<=r)/\(∀r,lw aS r->¬lw lc r)/\B<=a
def EE(w:x6)(r:Nat):Prop:=(∃e c,ag w r e c/\e≠av/\e≠cp/\e≠be)\/w.heap.size<=r
def iv.dV{f:Nat}{x:cE}(h:iv w B f x)(a:af S w I)(q:∀r,S r->EE w r):iv I B f x:=by
 obtain⟨aS,lc,cq,g1,s,y,h1,z,A,C,E,F,G⟩:=h;have j:∀r,S r->iu w r\/w.heap.size<=r:=λr H=>(q r H).imp (λ⟨e,c,p,K,L,_⟩=>⟨e,c,p,K,L⟩) id;refine⟨aS,lc,cq,g1,s,y,h1.aa a λJ=>?_,eQ z a j,eQ A a j,C.dV a j,E,F,G⟩;rcases q f J with⟨e,c,p,_,_,M⟩|N
 .exact M (ft p h1)
 .have:=h1.lt;omega
def iv.W{a:Nat}{x:cE}(h:iv w B a x)(e:Ext w I):iv I B a x:=h.dV (e.aa λ_=>False) λ_ h=>h.elim
def lV{g:Nat}{H:ah}{so:Option aK}(h:bS w g B H N so):∀r,r=g->EE w r:=λr a=>by
 subst a;obtain⟨f,j,p,bad,q,big,s,m5,sv,e,_⟩:=jq h;exact .inl ⟨_,_,e,Φ,Φ,Φ⟩
def iw(g B:Nat):ah:=λr=>r=g\/B<=r
def P2{k:Nat}{acc:Λ}{s:aK}:cX (λacc s=>match bm 0 (n-1) s with
 |none=>ν
 |some (v,s)=>if v∈acc then ν else σ (v,s)) (k+1) acc s=match bm 0 (n-1) s with
  |none=>ν
  |some (v,s')=>if v∈acc then ν else cX (λacc s=>match bm 0 (n-1) s with
 |none=>ν
 |some (v,s)=>if v∈acc then ν else σ (v,s)) k (acc++[v]) s':=by
 rw[cX];cases bm 0 (n-1) s with
 |none=>rfl
 |some q=>
  obtain⟨v,s'⟩:=q;simp only;by_cases a:v∈acc
  .rw[ms a,ms a]
  .rw[rc a,rc a]
def EF(n:Int)(k:Nat)(acc:Λ)(s:aK):Option (Λ×aK):=cX (λacc s=>match bm 0 (n-1) s with
 |none=>ν
 |some (v,s)=>if v∈acc then ν else σ (v,s)) k acc s
def EG{g f ar:Nat}{H:ah}{s:aK}{so:Option aK}{Y:x4}{aM aN:x6->Prop}(au:bS w g B H N so)(b3:so=σ s\/(so=ν/\ar=0))(b4:iv w B f ⟨[],[],0,[]⟩)(b5:∀c,ag w f be c->c[3]?=σ (.slice ν 0 0))(bz:aB .i64 av w gz Y all)(b7:∀r,lw Y r->r<B)(dj:all.length<=100001)(dk:ar<=4611686018427387904)(aQ:so=σ s->s.hp.length<=100000)(ao:so=σ s->∀I x,af (iw g B) w I->fg all.length ar s=ν->bS I g B H N ν->iv I B f x->aM I)(b9:so=ν->aN w)(aR:so=σ s->∀I scope s',af (iw g B) w I->fg all.length ar s=σ (scope,s')->bS I g B H N (σ s')->iv I B f ⟨scope,scope.map λv=>all.getD v.toNat 0,0,[]⟩->(∀c,ag I f be c->c[3]?=σ (.slice ν 0 0))->aN I):
  bY (Δ 0) w λi z k=>
   cB (α:=x4->x6->Prop) (λ(ca:x4)(O:x6)=>
    Split ca (ab v8 (V1 #[aw] ai #[Y]) O λt53=>
   ab v8 (aP .sub av v6 v2 t53 (Δ 1)) O λcb=>
   ak v8 nc [Γ g,(Δ 0),cb] O λt55 A=>
   ab v8 (Y8 t55 0) A λaV=>
   ab v8 (Y8 t55 1) A λcc=>
   ab v8 (bU (Γ g)) A λcd=>
   ab v8 (u7 bI cd 3) A λce=>
   ab v8 (u6 ai ce) A λcf=>
   ab v8 (aP .neq ai v6 v2 cf (Δ 0)) A λcg=>
   Split cg (aM A)
    (ab v8 (u7 be (Γ f) 0) A λci=>
   ab v8 (u6 aw ci) A λbD=>
   ab v8 (V1 #[aw] ai #[bD]) A λt66=>
   bY (Δ 0) A λaW E cj=>
    ab v8 (aP .lss ai v6 v6 aW t66) E λck=>
    Split ck (ab v8 (b8 aw bD aW) E λcl=>
    ab v8 (u6 av cl) E λt70=>
    ab v8 (aP .eql av v6 v6 t70 aV) E λcm=>
    Split cm (ak v8 oP [Γ g,(Δ 4),cc] E λt76 aX=>aM aX)
     (ab v8 (aP .add ai v6 v2 aW (Δ 1)) E λcn=>
    cj cn E))
     (ab v8 (u7 be (Γ f) 0) E λcp=>
   ab v8 (u6 aw cp) E λcr=>
   aG v8 (X2 aw 1 #[(0,aV)]) E λct Z=>
   aG v8 (Z9 #[aw,aw] aw #[cr,ct]) Z λcu aZ=>
   ab v8 (u7 be (Γ f) 0) aZ λcw=>
   aG v8 (j0 aw cw cu) aZ λ(_:Unit)ap=>
   en ap λS=>
   ab v8 (u7 be (Γ f) 1) S λa2=>
   ab v8 (u6 aw a2) S λbE=>
   ab v8 (b8 aw Y aV) S λcz=>
   ab v8 (u6 av cz) S λcA=>
   aG v8 (X2 aw 1 #[(0,cA)]) S λcC X=>
    (Ext S X\/b6 v8 (u6 aw a2) bE X/\b6 v8 (u7 be (Γ f) 1) a2 X/\True)/\
   aG v8 (Z9 #[aw,aw] aw #[bE,cC]) X λcD a6=>
    ab v8 (u7 be (Γ f) 1) a6 λcE=>
    aG v8 (j0 aw cE cD) a6 λ(_:Unit)ac=>
     ab v8 (aP .add av v6 v2 i (Δ 1)) ac λcF=>
   k cF ac)))
     (aN O)) λbF=>
   ab v8 (aP .lss av v6 v6 i (Δ (ar:Int))) z λcG=>
   Split cG (ab v8 (bU (Γ g)) z λcH=>
   ab v8 (u7 bI cH 3) z λcI=>
   ab v8 (u6 ai cI) z λt45=>
   ab v8 (aP .eql ai v6 v2 t45 (Δ 0)) z λt46=>
   bF t46 z)
    (bF (.bool v6) z):=by
 have dl:=au.lt;rcases b3 with rfl|⟨rfl,rfl⟩
 rotate_left
 .refine bY.range 0 (λ_ U=>w=U) Ω rfl (λi U k hi=>Ω) ?_;rintro _ k rfl;refine aY (λv O=>w=O/\v= .bool v6) ?_ ?_
  .rintro _ _ ⟨rfl,rfl⟩;rw[a7];exact b9 rfl
  .intro ax ad;rw[aT,al];exact⟨λh=>Ω,λ_=>ad _ _ ⟨rfl,rfl⟩⟩
 have h:=au;have aQ:=aQ rfl;have ao:=ao rfl;have aR:=aR rfl;refine bY.range ar (λi z=>∃scope P,af (iw g B) w z/\bS z g B H N (σ P)/\iv z B f ⟨scope,scope.map λv=>all.getD v.toNat 0,0,[]⟩/\scope.length=i/\scope.length+P.hp.length<=100000/\fg all.length ar s=EF all.length (ar-i) scope P/\∀c,ag z f be c->c[3]?=σ (.slice ν 0 0)) Ω ⟨[],s,af.refl _ _,h,b4,rfl,by simpa using aQ,rfl,b5⟩ ?_ ?_
 rotate_left
 .rintro z k ⟨scope,P,aq,R,ay,bG,cJ,C,a8⟩;refine aY (λv O=>z=O/\v= .bool v6) ?_ ?_
  .rintro _ _ ⟨rfl,rfl⟩;rw[a7];rw[V0]at C;exact aR z scope P aq C R ay a8
  .intro ax ad;rw[aT,al];exact⟨λh=>Ω,λ_=>ad _ _ ⟨rfl,rfl⟩⟩
 rintro i z k hi ⟨scope,P,aq,R,ay,bG,cJ,C,a8⟩ hk;refine aY (λv O=>z=O/\v= .bool v2) ?_ ?_
 rotate_left
 .intro ax ad;refine bC Ω ?_;rw[mF R];exact ad _ _ ⟨rfl,rfl⟩
 rintro _ _ ⟨rfl,rfl⟩;rw[bO];have bH:∀{I:x6},af (iw g B) w I->aB .i64 av I gz Y all:=λcK=>bw bz cK λr e J=>by
  rcases J with rfl|J
  .obtain⟨cM,G,ae,bad,cN,big,cO,m5,sv,K,_⟩:=jq h;exact ch bz K Φ e rfl
  .have:=b7 r e;omega
 rw[a1 aw.u (bH aq).ls,dA,m1 Ω Ω];refine(lU R).Y ?_;rintro _ A _ ⟨⟨ba,M⟩,n,at_,rfl,bb,cP⟩;rw[bA,bB,si M];have bc:=ay.dV ba (lV R);have bd:af (iw g B) w A:=aq.F (ba.Y λr _ h=>.inl h);have cQ:=P2 (n:=(all.length:Int)) (k:=ar-(i+1)) (acc:=scope) (s:=P);have cR:ar-i=(ar-(i+1))+1:=Ω
 rw[cR]at C;unfold EF at C;rw[cQ]at C;have cS:bf 0 ((all.length:Int)-1) (σ P)=bm 0 ((all.length:Int)-1) P:=rfl;rw[cS]at M bb cP ⊢;cases az:bm 0 ((all.length:Int)-1) P with
 |none=>
  rw[az]at M C;rw[Option.map_none,Q1,W6,bO];exact ao A _ bd C M bc
 |some q=>
  obtain⟨v,bJ⟩:=q;rw[az]at M C bb;have cT:=bb _ rfl;subst cT;have dm:=(ji az).1;have dn:=(dL az).1;simp only at C;rw[Y3,R2,X3,a7];have M:bS A g B H N (σ bJ):=M;obtain⟨aS,lc,cq,g1,dp,bg,f1,f2,f3,f4,f5,f6,f7⟩:=id bc;rw[aJ be.p 0 f1 rfl,a1 aw.u f2.ls];have dq:scope.length<=100000:=Ω
  refine bY.range scope.length (λj E=>A=E/\n∉scope.take j) Ω ⟨rfl,Ξ⟩ ?_ ?_
  .rintro j _ cU cV ⟨rfl,aA⟩ cW;obtain⟨u,hu⟩:=aD (l:=scope) cV;rw[aT,al];refine⟨λ_=>?_,λh=>by simp only at h;omega⟩;rw[bh aw.u av.i Ψ f2.ls hu,bl,al];refine⟨λhe=>?_,λcX=>?_⟩
   .refine (pB M Ω).Y ?_;rintro _ aX _ ⟨bK,cY⟩;rw[ms (by rw[<-he];exact x7 hu)]at C;exact ao aX _ (bd.F (bK.Y λr _ h=>.inl h)) C cY (bc.dV bK (lV M))
   .rw[aO];refine cW _ ⟨rfl,?_⟩;rw[r9,hu];intro hm;rcases j9.1 hm with hm|hm
    .exact aA hm
    .simp at hm;exact cX hm.symm
  .rintro _ cU ⟨rfl,aA⟩;rw[o9]at aA;rw[aT,al];refine⟨λh=>by simp only at h;omega,λ_=>?_⟩;rw[rc aA]at C;rw[aJ be.p 0 f1 rfl];refine eU aw.u av.i rfl λdr ds Z dt Q cZ=>?_;have du:=M.lt;refine jp aw.u av.i rfl (f2.W Q) cZ.ls Θ Θ λbi c0 aZ aC c1 bL=>?_;have aE:=f1.W Q;have f113:=aE.aa bL λhe=>ch (f2.W Q) aE Φ he rfl;rw[aU be.p rfl];refine bu (g:=f) (o:=0) aw.i aC.ls.cells.1 aC.ls.cells.2 f113 Ξ λap bM dv aF=>?_;have aF:=aF;intro S bj _ _;have aj:af (λr=>lw aS r\/r=f) Z ap:=(bL.Y λr _ h=>.inl h).F (bM.Y λr _ h=>.inr h);have bN:∀r,(lw aS r\/r=f)->iw g B r:=λr e=>.inr (e.elim (λe=>f5 r (.inl e)) λe=>e▸f7);have bP:=(bd.F (Q.aa _)).F (aj.Y λr _ e=>bN r e);have c2:af (iw g B) w S:=bP.F (bj.aa _);have c3:=bw (f3.W Q) aj λr e J=>by
    rcases J with J|rfl
    .exact f6 r J e
    .exact ch (f3.W Q) aE Φ e rfl
   have c4:=bw aC bM λr e he=>by
    have he:r=f:=he;subst he;exact ch aC f113 Φ e rfl
   have c5:∀r,(lw aS r\/r=f)->(∃c,ag Z r av c)\/∃c,ag Z r be c:=λr e=>by
    rcases e with e|rfl
    .obtain⟨G,_⟩:=bW f2 e;obtain⟨_,⟨am,_⟩|⟨_,cs,am,K,_⟩⟩:=f2.W Q
     .rw[am]at e;obtain⟨a,c6,c,G,ae⟩:=e;cases G
     .exact .inl ⟨cs,G▸K⟩
    .exact .inr ⟨_,aE⟩
   have c7:lT ap bg cq []:=by
    obtain⟨L,V,c8,bk⟩:=f4.dV (Q.aa λ_=>False) λ_ h=>h.elim;have bn:=List.map_eq_nil_iff.1 bk;subst bn;refine⟨[],V.aa aj λr e J=>?_,λy bo=>(by cases bo),rfl⟩;rcases c5 r J with⟨c,K⟩|⟨c,K⟩
    .exact cL V K Φ e
    .exact cL V K Φ e
   have c9:=(M.W Q).new aj λr e=>by
    rcases bN r e with rfl|h
    .rcases e with e|e
     .exact f5 _ (.inl e)
     .exact e▸f7
    .exact h
   rw[aJ be.p 1 (aF.W bj) rfl];have da:all[n.toNat]?=σ (all.getD n.toNat 0):=by rw[u5,x8 Ω];rfl
   rw[fP (y:=n) (i:=n.toNat) Ω aw.u av.i Ψ (bH c2).ls da];refine eU aw.u av.i rfl λdw dx X dy bQ db=>?_;refine⟨.inl bQ,?_⟩;have W:=bj.F bQ;have f316:=c3.W W;have bR:(scope.map λv=>all.getD v.toNat 0).length=scope.length:=r8 _;refine jp aw.u av.i rfl f316 db.ls (by simp at bR ⊢;omega) (by simp at bR ⊢;omega) λbT dc a6 aH bV bX=>?_;have aI:=aF.W W;have bZ:=aI.aa bX λhe=>ch f316 aI Φ he rfl;rw[aU be.p rfl];refine bu (g:=f) (o:=1) aw.i aH.ls.cells.1 aH.ls.cells.2 bZ Ξ λac b0 dz an=>?_;have an:=an;rw[aO];have aL:af (λr=>lw lc r\/r=f) X ac:=(bX.Y λr _ h=>.inl h).F (b0.Y λr _ h=>.inr h);have b1:∀r,(lw lc r\/r=f)->B<=r:=λr e=>e.elim (λe=>f5 r (.inr e)) λe=>e▸f7;have bp:=c4.W W;have dC:=Q.size;have dD:=aj.size;have bq:∀r,lw bi r->B<=r/\¬lw lc r:=λr e=>by
    rcases c1 r e with h|h
    .exact⟨f5 r (.inl h),f6 r h⟩
    .exact⟨Ω,λbr=>by obtain⟨G,ae⟩:=bW f3 br;omega⟩
   have dd:=bw bp aL λr e J=>by
    rcases J with J|rfl
    .exact (bq r e).2 J
    .exact ch bp aI Φ e rfl
   have de:=bw aH b0 λr e he=>by
    have he:r=f:=he;subst he;exact ch aH bZ Φ e rfl
   have df:lT ac bg cq []:=by
    obtain⟨L,V,c8,bk⟩:=c7.dV (W.aa λ_=>False) λ_ h=>h.elim;have bn:=List.map_eq_nil_iff.1 bk;subst bn;refine⟨[],V.aa aL λr e J=>?_,λy bo=>(by cases bo),rfl⟩;rcases J with J|rfl
    .obtain⟨G,_⟩:=bW f316 J;obtain⟨_,⟨am,_⟩|⟨_,cs,am,K,_⟩⟩:=f316
     .rw[am]at J;obtain⟨a,c6,c,G,ae⟩:=J;cases G
     .exact cL V (G▸K) Φ e
    .exact cL V aI Φ e
   refine hk _ ⟨scope++[n],bJ,((bP.F (W.aa _)).F (aL.Y λr _ e=>.inr (b1 r e))),(c9.W W).new aL b1,⟨bi,bT,cq,c0,dc,bg,an,dd,by rw[Z4];exact de,df,λr e=>?_,λr e br=>?_,f7⟩,by rw[n9,bG];rfl,by rw[n9];simp;omega,C,λc bs=>?_⟩
   .rcases e with e|e
    .exact (bq r e).1
    .rcases bV r e with h|h
     .exact f5 r (.inr h)
     .have:=W.size;omega
   .rcases bV r br with h|h
    .exact (bq r e).2 h
    .obtain⟨G,ae⟩:=bW bp e;omega
   .have dg:c=[bi,bT,Δ 0,cq]:=by
     unfold ag at bs an;rw[an]at bs;have:=(Obj.cells.inj (Z5 bs)).1;exact(Array.toList_inj.2 this).symm
    have dh:cq= .slice ν 0 0:=by
     obtain⟨dE,dF,dG,_,_,_,bt,_⟩:=ay;have b2:=a8 _ bt;have bx:=bt.aa ba λhe=>by
      have he:=he;obtain⟨cM,G,ae,bad,cN,big,cO,m5,sv,K,_⟩:=jq R;subst he;exact ro (ft K bt) Φ
     unfold ag at bx f1;rw[f1]at bx;have di:=Array.toList_inj.2 (Obj.cells.inj (Z5 bx)).1;have R:=congrArg (λl=>l[3]?) di;simp at R;simp at b2;rw[R,b2]
    rw[dg,dh];rfl
def P3{s:x4->x6->Prop}(h:aM .i64 w sv l)(h1:∀z∈l,1<=z)(H:∀c:Int,(4096<c↔dB l=v2)->s (Δ c) w):
  b7 (Δ 1) (Δ 0) w λx j a I=>
   ab v8 (aP .lss ai v6 v6 j (Δ (l.length:Int))) a λJ=>
   Split J (cB (α:=x4->x6->Prop) (λ(K:x4)(y:x6)=>
    ab v8 (aP .add ai v6 v2 j (Δ 1)) y λL=>
    I K L y) λA=>
   ab v8 (b8 aw sv j) a λM=>
   ab v8 (u6 av M) a λB=>
   cB (α:=x4->x6->Prop) (λ(N:x4)(f:x6)=>
    ab v8 (aP .mul av v6 v6 x N) f λC=>
    ab v8 (aP .gtr av v6 v2 C (Δ 4096)) f λO=>
    Split O (A (Δ 4097) f)
     (A C f)) λE=>
   ab v8 (aP .gtr av v6 v2 B (Δ 4096)) a λP=>
   Split P (E (Δ 4097) a)
    (E B a))
    (s x a):=by
 refine b7.range l.length (λi c U=>w=U/\∃p:Int,p=aQ ((l.take i).map λk=>min k 4097)/\1<=p/\c=Δ (if 4096<p then 4097 else p)) h.le ⟨rfl,1,by simp[aQ],Ω,by rw[rc Ω]⟩ ?_ ?_
 .rintro i _ _ Q hi ⟨rfl,p,ac,R,rfl⟩ S;obtain⟨z,q⟩:=aD (l:=l) hi;have X:=h1 z (x7 q);have e:aQ ((l.take (i+1)).map λk=>min k 4097)=p*min z 4097:=by
   rw[ac,r9,q,j6,Z4,T3,List.map_nil,CB]
  have Y:p*1<=p*min z 4097:=Int.mul_le_mul_of_nonneg_left Ω Ω;refine bC Ω ?_;refine aY (λv V=>w=V/\v=Δ (if 4096<p*min z 4097 then 4097 else p*min z 4097)) ?_ ?_
  .rintro _ _ ⟨rfl,rfl⟩;rw[aO];exact S _ _ ⟨rfl,_,e.symm,Ω,rfl⟩
  intro ax r;rw[bh aw.u av.i Ψ h q];refine aY (λv V=>w=V/\v=Δ (min z 4097)) ?_ ?_
  .rintro _ _ ⟨rfl,rfl⟩;rw[fB];by_cases F:4096<p
   .rw[ms F];have W:(4097:Int)*1<=4097*min z 4097:=Int.mul_le_mul_of_nonneg_left Ω Ω;rw[m1 Ω Ω,bP,al];refine⟨λ_=>r _ _ ⟨rfl,by rw[ms Ω]⟩,λZ=>Ω⟩
   .rw[rc F];have W:p*min z 4097<=4096*4097:=by
     have aa:=Int.mul_le_mul_of_nonneg_right (show p<=4096 by omega) (show 0<=min z 4097 by omega);have ad:=Int.mul_le_mul_of_nonneg_left (show min z 4097<=4097 by omega) (show(0:Int)<=4096 by omega);omega
    rw[m1 Ω Ω,bP,al];exact⟨λau=>r _ _ ⟨rfl,by rw[ms au]⟩,λau=>r _ _ ⟨rfl,by rw[rc au]⟩⟩
  .intro ae G;rw[bP,al];exact⟨λau=>G _ _ ⟨rfl,by congr 1;omega⟩,λau=>G _ _ ⟨rfl,by congr 1;omega⟩⟩
 .rintro _ _ Q ⟨rfl,p,ac,R,rfl⟩;rw[o9]at ac;rw[aT,al];refine⟨λh=>Ω,λ_=>H _ ?_⟩;unfold dB;rw[<-ac,sp];split
  .exact⟨λ_=>Ω,λ_=>Ω⟩
  .exact Iff.rfl
def P4{g aq:Nat}{H:ah}{so:Option aK}{ac:x6->Prop}(h:bS w g B H N so)(C:aB .i64 av w gz lc co)(aC:∀z∈co,1<=z/\z<=ay)(bo:co.length<=100001)(S:ag w aq cp [.slice ν 0 0,Δ 0])(aE:B<=aq)(ad:∀t I aV gt,t.length=co.length->af (λr=>r=g\/r=aq\/w.heap.size<=r) w I->ag I aq cp [aV,Δ 0]->aB .i64 av I gt aV t->(∀r,lw aV r->w.heap.size<=r)->bS I g B H N ((gu co [] so).map (·.2))->(∀q,gu co [] so=σ q->t=q.1)->ac I):
  bY (Δ 0) w λW s aF=>
      ab v8 (aP .lss ai v6 v6 W (Δ (co.length:Int))) s λaH=>
      Split aH (ab v8 (b8 aw lc W) s λaI=>
      ab v8 (u6 av aI) s λaL=>
      ab v8 (aP .sub av v6 v2 aL (Δ 1)) s λaM=>
      ak v8 nc [Γ g,(Δ 0),aM] s λae E=>
      ab v8 (Y8 ae 0) E λaN=>
      ab v8 (Y8 ae 1) E λbp=>
      ab v8 (u7 cp (Γ aq) 0) E λaQ=>
      ab v8 (u6 aw aQ) E λaR=>
      aG v8 (X2 aw 1 #[(0,aN)]) E λaS aT=>
      aG v8 (Z9 #[aw,aw] aw #[aR,aS]) aT λaW aj=>
      ab v8 (u7 cp (Γ aq) 0) aj λaX=>
      aG v8 (j0 aw aX aW) aj λ(_:Unit)al=>
      ab v8 (aP .add ai v6 v2 W (Δ 1)) al λaY=>
      aF aY al)
       (ac s):=by
 have bq:=S.lt;have br:=h.lt;refine bY.range co.length (λj U=>∃t aV gt s1,t.length=j/\af (λr=>r=g\/r=aq\/w.heap.size<=r) w U/\ag U aq cp [aV,Δ 0]/\aB .i64 av U gt aV t/\(∀r,lw aV r->w.heap.size<=r)/\bS U g B H N s1/\gu co [] so=gu (co.drop j) t s1) C.ls.le
  ⟨[],_,0,so,rfl,af.refl _ _,S,aB.nil _ _ _ _,(λr e=>by obtain⟨a,n,c,M,X⟩:=e;cases M),h,rfl⟩ ?_ ?_
 rotate_left
 .rintro U aZ ⟨t,aV,gt,s1,O,x,P,G,y,K,he⟩;refine b3 Ω ?_;rw[List.drop_length]at he;cases s1 with
  |none=>
   have he:=he;exact ad t U aV gt O x P G y (by rw[he];exact K) (λq f=>by rw[he]at f;cases f)
  |some s1=>
   have he:=he;exact ad t U aV gt O x P G y (by rw[he];exact K) (λq f=>by rw[he]at f;cases f;rfl)
 rintro j U aZ am ⟨t,aV,gt,s1,O,x,P,G,y,K,he⟩ a1;obtain⟨z,Y⟩:=aD (l:=co) am;have a2:=aC z (x7 Y);have bs:z<=4611686018427387904:=a2.2;have a6:=bw C x λr e J=>by
  rcases J with rfl|rfl|J
  .obtain⟨a7,M,X,bad,a8,big,ba,m5,sv,L,_⟩:=jq h;exact ch C L Φ e rfl
  .exact ch C S Φ e rfl
  .obtain⟨M,X⟩:=bW C e;omega
 refine bC Ω ?_;rw[bh aw.u av.i Ψ a6.ls Y,dA,m1 Ω Ω];refine(lU K).Y ?_;rintro _ V _ ⟨⟨Q,bb⟩,n,at_,rfl,bc,bt⟩;rw[bA,bB];have bd:aq≠g:=Ω
 have an:=P.aa Q λhe=>bd he;have be:∃c,ag U g bI c:=by obtain⟨a7,M,X,bad,a8,big,ba,m5,sv,L,_⟩:=jq K;exact⟨_,L⟩
 have ao:=bw G Q λr e he=>by
  have he:r=g:=he;obtain⟨c,L⟩:=be;exact ch G L Φ e he
 rw[aJ cp.p 0 an rfl];refine eU aw.u av.i rfl λa3 bx bg bz A bi=>?_;refine jp aw.u av.i rfl (ao.W A) bi.ls Θ Θ λbj bk bD R bl ap=>?_;have au:=an.W A;have ax:=au.aa ap λhe=>ch (ao.W A) au Φ he rfl;rw[aU cp.p rfl];refine bu (g:=aq) (o:=0) aw.i R.ls.cells.1 R.ls.cells.2 ax Ξ λbm az bE Z=>?_;have Z:=Z;rw[aO];have aA:af (λr=>lw aV r\/r=aq) bg bm:=(ap.Y λr _ h=>.inl h).F (az.Y λr _ h=>.inr h);have bF:=x.size;have bG:=Q.size;have z3:=A.size;refine a1 _ ⟨t++[n],bj,bk,(bf 0 (z-1) s1).map (·.2),by simp[O],?_,Z,bw R az λr e he=>?_,λr e=>?_,?_,?_⟩
 .refine (x.F (Q.Y λr _ h=>.inl h)).F ((A.aa _).F (aA.Y λr _ h=>?_));exact h.elim (λh=>.inr (.inr (y r h))) λh=>.inr (.inl h)
 .have he:r=aq:=he;subst he;exact ch R ax Φ e rfl
 .rcases bl r e with h|h
  .exact y r h
  .omega
 .refine (bb.W A).new aA λr e=>?_;rcases e with e|rfl
  .have:=y r e;omega
  .exact aE
 .rw[he];have bn:co.drop j=z::co.drop (j+1):=by rw[W3 am,(x5.1 Y).2]
  rw[bn,Dd];cases f:bf 0 (z-1) s1 with
  |none=>rfl
  |some q=>
   obtain⟨v,bH⟩:=q;have:=bc _ f;subst this;rfl
def yc{g:Nat}(h:aB .i64 av w g v t):∀u∈pA ⟨v,t,c⟩,u.oneCell'=v2:=by
 intro u hu;simp[pA]at hu;rcases hu with rfl|rfl
 .exact h.ls.cells.2
 .rfl
def P5(co:Λ)(cnt i:Nat)(s0:aK)(A:List (Λ×Int))(so:Option aK):Prop:=(∃s,so=σ s/\cX (eN co) cnt [] s0=cX (eN co) (cnt-i) A s/\A.length+s.hp.length<=100000)\/(so=ν/\cX (eN co) cnt [] s0=ν)
def P7{g K g1 a8 X:Nat}{H:ah}{s0:aK}{aS cq:x4}{scope:Λ}{o:Int}{aC:List (Λ×Int)}{bZ:x6->Prop}(h:bS w g B H N (σ s0))(f1:ag w K be [aS,lc,Δ o,cq])(f2:aB .i64 av w g1 aS scope)(f3:aB .i64 av w a8 lc co)(f4:lT w X cq aC)(f5:∀r,lw aS r\/lw lc r->B<=r)(f6:∀r,lw aS r->¬lw lc r)(f7:B<=K)(cV:∀z∈co,1<=z/\z<=ay)(cW:co.length<=100001)(eW:n<=4611686018427387904)(bp:0<n->aC=[]/\∀r,¬lm cq r)(cY:s0.hp.length<=100000)(b0:∀I A bq,af (iw g B) w I->iv I B K ⟨scope,co,o,A⟩->bS I g B H N bq->(n<=0->A=aC/\bq=σ s0)->(0<n->bq=(cX (eN co) n.toNat [] s0).map (·.2)/\∀q,cX (eN co) n.toNat [] s0=σ q->A=q.1)->bZ I):
  bY (Δ 0) w λb2 Z cZ=>
     cB (α:=x4->x6->Prop) (λ(c0:x4)(b4:x6)=>
      Split c0 (aG v8 (Q8 cp v2 (.tuple #[])) b4 λx Y=>
     ab v8 (u7 be (Γ K) 1) Y λc1=>
     ab v8 (u6 aw c1) Y λb5=>
     ab v8 (V1 #[aw] ai #[b5]) Y λc2=>
     bY (Δ 0) Y λbr ad c3=>
      ab v8 (aP .lss ai v6 v6 br c2) ad λc4=>
      Split c4 (ab v8 (b8 aw b5 br) ad λc5=>
      ab v8 (u6 av c5) ad λc6=>
      ab v8 (aP .sub av v6 v2 c6 (Δ 1)) ad λc7=>
      ak v8 nc [Γ g,(Δ 0),c7] ad λb6 aE=>
      ab v8 (Y8 b6 0) aE λda=>
      ab v8 (Y8 b6 1) aE λeX=>
      ab v8 (u7 cp x 0) aE λdb=>
      ab v8 (u6 aw db) aE λdc=>
      aG v8 (X2 aw 1 #[(0,da)]) aE λdd de=>
      aG v8 (Z9 #[aw,aw] aw #[dc,dd]) de λdf b7=>
      ab v8 (u7 cp x 0) b7 λdg=>
      aG v8 (j0 aw dg df) b7 λ(_:Unit)b9=>
      ab v8 (aP .add ai v6 v2 br (Δ 1)) b9 λdh=>
      c3 dh b9)
       (ak v8 nc [Γ g,(Δ 0),(Δ 4611686018427387904)] ad λca G=>
     ab v8 (Y8 ca 0) G λdi=>
     ab v8 (Y8 ca 1) G λdj=>
     ab v8 (u7 be (Γ K) 3) G λdk=>
     ab v8 (u6 ep dk) G λcb=>
     ab v8 (V1 #[ep] ai #[cb]) G λdl=>
     bY (Δ 0) G λbs M dm=>
      ab v8 (aP .lss ai v6 v6 bs dl) M λdn=>
      Split dn (cB (α:=x6->Prop) (λ(au:x6)=>
       ab v8 (aP .add ai v6 v2 bs (Δ 1)) au λdp=>
       dm dp au) λcc=>
      ab v8 (b8 ep cb bs) M λdq=>
      ab v8 (u6 cp dq) M λdr=>
      aG v8 (Q8 cp v2 (.tuple #[])) M λy cd=>
      aG v8 (j0 cp y dr) cd λ(_:Unit)P=>
      cB (α:=x4->x6->Prop) (λ(ds:x4)(aH:x6)=>
       Split ds (ak v8 oP [Γ g,(Δ 4),dj] aH λeY ce=>
        cc ce)
        (cc aH)) λcf=>
      ab v8 (bU (Γ g)) P λdt=>
      ab v8 (u7 bI dt 3) P λdu=>
      ab v8 (u6 ai du) P λdv=>
      ab v8 (aP .eql ai v6 v2 dv (Δ 0)) P λdw=>
      Split dw (ab v8 (u7 cp x 0) P λdx=>
       ab v8 (u6 aw dx) P λdz=>
      ab v8 (u7 cp y 0) P λdA=>
      ab v8 (u6 aw dA) P λdC=>
      ak v8 tr [dz,dC] P λdD cg=>
      cf dD cg)
       (cf (.bool v6) P))
       (ab v8 (u7 cp x 1) M λdE=>
     aG v8 (j0 av dE di) M λ(_:Unit)ae=>
     ab v8 (u7 be (Γ K) 3) ae λdF=>
     ab v8 (u6 ep dF) ae λdG=>
     ab v8 (u6 cp x) ae λdH=>
     aG v8 (X2 ep 1 #[(0,dH)]) ae λdI ba=>
     aG v8 (Z9 #[ep,ep] ep #[dG,dI]) ba λdJ bx=>
     ab v8 (u7 be (Γ K) 3) bx λdK=>
     aG v8 (j0 ep dK dJ) bx λ(_:Unit)aj=>
     ab v8 (aP .add av v6 v2 b2 (Δ 1)) aj λdM=>
     cZ dM aj)))
       (bZ b4)) λci=>
     ab v8 (aP .lss av v6 v6 b2 (Δ n)) Z λdN=>
     Split dN (ab v8 (bU (Γ g)) Z λdO=>
     ab v8 (u7 bI dO 3) Z λdP=>
     ab v8 (u6 ai dP) Z λdQ=>
     ab v8 (aP .eql ai v6 v2 dQ (Δ 0)) Z λdR=>
     ci dR Z)
      (ci (.bool v6) Z):=by
 have dS:=h.lt;refine bY.range n.toNat (λi U=>∃A so cq X,af (iw g B) w U/\ag U K be [aS,lc,Δ o,cq]/\aB .i64 av U g1 aS scope/\aB .i64 av U a8 lc co/\lT U X cq A/\(0<n->∀r,lm cq r->B<=r)/\bS U g B H N so/\(n<=0->A=aC/\so=σ s0)/\(0<n->P5 co n.toNat i s0 A so)) Ω
  ⟨aC,σ s0,cq,X,af.refl _ _,f1,f2,f3,f4,λac r C=>ro C ((bp ac).2 r),h,λ_=>⟨rfl,rfl⟩,λac=>.inl ⟨s0,rfl,by rw[(bp ac).1];rfl,by rw[(bp ac).1];simpa using cY⟩⟩ ?_ ?_
 rotate_left
 .rintro U k ⟨A,so,cq,X,aI,az,bb,aL,aM,bD,am,cj,E⟩;refine aY (λv V=>U=V/\v= .bool v6) ?_ ?_
  .rintro _ _ ⟨rfl,rfl⟩;rw[a7];refine b0 U A so aI ⟨aS,lc,cq,g1,a8,X,az,bb,aL,aM,f5,f6,f7⟩ am cj λac=>?_;rcases E ac with⟨s,rfl,he,_⟩|⟨rfl,he⟩
   .rw[V0]at he;rw[he];exact⟨rfl,λq O=>by cases O;rfl⟩
   .rw[he];exact⟨rfl,λq O=>by cases O⟩
  .intro ax bF;rw[aT,al];exact⟨λh=>Ω,λ_=>bF _ _ ⟨rfl,rfl⟩⟩
 rintro i U k hi ⟨A,so,cq,X,aI,az,bb,aL,aM,bD,am,cj,E⟩ hk;have ac:0<n:=Ω
 refine aY (λv V=>U=V/\v= .bool so.isSome) ?_ ?_
 rotate_left
 .intro ax bF;refine bC Ω ?_;rw[mF am];exact bF _ _ ⟨rfl,rfl⟩
 rintro _ _ ⟨rfl,rfl⟩;rcases E ac with⟨dy,rfl,he,eZ⟩|⟨rfl,he⟩
 rotate_left
 .rw[Q1,a7];refine b0 U A ν aI ⟨aS,lc,cq,g1,a8,X,az,bb,aL,aM,f5,f6,f7⟩ am (λh=>Ω) λ_=>?_;rw[he];exact⟨rfl,λq O=>by cases O⟩
 rw[R2,bO];have e0:=am.lt;refine bE cp.i λaq Y e1 aN bG=>?_;have bG:ag Y aq cp [.slice ν 0 0,Δ 0]:=bG;have dT:=az.W aN;have cl:=aL.W aN;have e2:=aN.size;have e3:=az.lt;rw[aU be.p rfl,aF Ψ (dT.cell rfl),a1 aw.u cl.ls];refine P4 (am.W aN) cl cV cW bG Ω λt ad aV gt e4 dW dX dY dZ ea eb=>?_;refine(lU ea).Y ?_;rintro _ G _ ⟨⟨bH,bc⟩,c,at_,rfl,ec,e5⟩;rw[bA,bB];have bJ:aq≠g:=Ω
 have cm:K≠g:=by have:=h.lt;omega
 have ed:af (λr=>r=g\/r=aq\/Y.heap.size<=r) Y G:=dW.F (bH.Y λr _ h=>.inl h);have cn:∀{S:Nat->Prop},(∀r,S r->r=g\/U.heap.size<=r)->∀r,S r->iu U r\/U.heap.size<=r:=λee r C=>(ee r C).imp (λhe=>by
  subst he;obtain⟨cr,aQ,aR,bad,ct,big,cu,m5,sv,E,_⟩:=jq am;exact⟨_,_,E,Φ,Φ⟩) id
 have bd:af (λr=>r=g\/U.heap.size<=r) U G:=(aN.aa _).F (ed.Y λr _ h=>h.elim .inl λh=>h.elim (λh=>.inr Ω) λh=>.inr Ω);have cw:=az.aa bd λh=>h.elim cm λh=>Ω
 obtain⟨L,bg,cz,bK⟩:=aM.dV bd (cn λr C=>C);have cA:=dX.aa bH λhe=>bJ he;have cC:=bw dY bH λr C he=>by
  have he:r=g:=he;have:=dZ r C;omega
 have e6:L.length=A.length:=by rw[<-bK,r8]
 rw[aJ be.p 3 cw rfl,ef ep.u bg];generalize cD:(bf 0 4611686018427387904 (U8 (λx=>x.snd) (gu co [] (σ dy)))).map (·.2)=an at bc;have e7:=bd.size;refine bY.range L.length (λj M=>af (λr=>r=g) G M/\bS M g B H N (if t∈(L.take j).map (·.t)then ν else an)) bg.le ⟨af.refl _ _,by simpa using bc⟩ ?_ ?_
 .rintro j M eg cE ⟨Q,aW⟩ eh;obtain⟨y,R⟩:=aD (l:=L) cE;have bL:∃c,ag G g bI c:=by obtain⟨cr,aQ,aR,bad,ct,big,cu,m5,sv,E,_⟩:=jq bc;exact⟨_,E⟩
  have ao:∀r,r=g->iu G r\/G.heap.size<=r:=λr C=>by
   subst C;obtain⟨c,E⟩:=bL;exact .inl ⟨_,c,E,Φ,Φ⟩
  have bh:=ya bg Q λr C=>(ao r C).imp (λ⟨e,c,E,_,aX⟩=>⟨e,c,E,aX⟩) id;obtain⟨e8,ei⟩:=cz y (x7 R);have cF:=eQ ei Q ao;have bM:=eQ cC Q ao;have bi:=cA.aa Q λhe=>bJ he;refine bC Ω ?_;have bN:t∈(L.take (j+1)).map (·.t)↔t∈(L.take j).map (·.t)\/t=y.t:=by
   rw[r9,R,j6,Z4,j9];simp
  refine c8 (λau=>af (λr=>r=g) G au/\bS au g B H N (if t∈(L.take (j+1)).map (·.t)then ν else an)) ?_ ?_
  .rintro au ej;rw[aO];exact eh _ ej
  intro e9 cG;rw[ck rfl ep.u cp.i bh cE,bz cp.p cp.i rfl (bh.range R)];refine bE cp.i λgy cd fa ek em=>?_;refine b1 (vs:=pA y) cp.i rfl rfl (yc cF) em λP en fb eo=>?_;have aZ:=ek.put en Ω;have cH:=aW.W aZ;have cI:af (λr=>r=g) G P:=Q.F (aZ.aa _);refine aY (λv aH=>∃b:Bool,v= .bool b/\Ext P aH/\(b=v2->t=y.t)/\(b=v6->t≠y.t\/(if t∈(L.take j).map (·.t)then ν else an)=ν)) ?_ ?_
  .rintro _ aH ⟨b,rfl,bP,er,es⟩;have ap:=cH.W bP;cases b with
   |true=>
    rw[bO];refine(pB ap Ω).Y ?_;rintro _ ce _ ⟨et,eu⟩;refine cG _ ⟨(cI.F (bP.aa _)).F et,?_⟩;rw[ms (bN.2 (.inr (er rfl)))];exact eu
   |false=>
    rw[a7];refine cG _ ⟨cI.F (bP.aa _),?_⟩;by_cases hm:t∈(L.take j).map (·.t)
    .rw[ms (bN.2 (.inl hm))];rw[ms hm]at ap;exact ap
    .rw[rc hm]at ap;rcases es rfl with aX|cJ
     .rw[rc (λh=>(bN.1 h).elim hm aX)];exact ap
     .rw[rc hm]at cJ;rw[cJ]at ap ⊢;split<;>exact ap
  .intro fc cK;rw[mF cH];cases a2:(if t∈(L.take j).map (·.t)then ν else an)with
   |none=>
    rw[Q1,a7];exact cK _ _ ⟨v6,rfl,Ext.refl _,(λh=>by cases h),λ_=>.inr a2⟩
   |some fd=>
    rw[R2,bO];have ev:=bi.W aZ;rw[aJ cp.p 0 ev rfl,aJ cp.p 0 eo rfl];refine(yb (bM.ls.W aZ) (cF.ls.W aZ)).Y ?_;rintro _ cg _ ⟨rfl,ew⟩;exact cK _ _ ⟨_,rfl,ew,λh=>ty h,λh=>.inl (of_decide_eq_false h)⟩
 .rintro M eg ⟨Q,aW⟩;rw[o9]at aW;have ey:L.map (·.t)=A.map (·.1):=by rw[<-bK,S5];rfl
  rw[ey]at aW;have bL:∃c,ag G g bI c:=by obtain⟨cr,aQ,aR,bad,ct,big,cu,m5,sv,E,_⟩:=jq bc;exact⟨_,E⟩
  have ao:∀r,r=g->iu G r\/G.heap.size<=r:=λr C=>by
   subst C;obtain⟨c,E⟩:=bL;exact .inl ⟨_,c,E,Φ,Φ⟩
  have cM:∀r,(r=g\/U.heap.size<=r)->iu U r\/U.heap.size<=r:=cn λr C=>C;have bj:af (λr=>r=g\/U.heap.size<=r) U M:=bd.F (Q.Y λr _ h=>.inl h);have ez:=cw.aa Q λhe=>cm he;have eA:=eQ bb bj cM;have eC:=eQ aL bj cM;have bh:=ya bg Q λr C=>(ao r C).imp (λ⟨e,c,E,_,aX⟩=>⟨e,c,E,aX⟩) id;have eD:∀y∈L,∃gy,aB .i64 av M gy y.v y.t:=λy R=>by
   obtain⟨gy,hm⟩:=cz y R;exact⟨gy,eQ hm Q ao⟩
  have bM:=eQ cC Q ao;have bi:=cA.aa Q λhe=>bJ he;refine b3 Ω ?_;rw[aU cp.p rfl];refine bu (g:=aq) (o:=1) av.i rfl rfl bi Ξ λae aA fe bQ=>?_;have bQ:=bQ;have eE:K≠aq:=Ω
  have cN:=ez.aa aA λhe=>eE he;have ff:U.heap.size<=aq:=Ω
  have eF:∀r,lm cq r->r≠aq:=λr C=>by obtain⟨aQ,aR⟩:=aM.choose_spec.1.lw C;omega
  have eH:=bh.aa aA λr C he=>eF r C he;rw[aJ be.p 3 cN rfl,bz cp.p cp.i rfl bQ.range];let a:x9:=⟨aV,t,c⟩;have bk:∀{v:x4}{a6:Nat}{l:Λ},aB .i64 av M a6 v l->aB .i64 av ae a6 v l:=λhm=>bw hm aA λr C he=>by
   have he:r=aq:=he;exact ch hm bi Φ C he
  have cO:=bk bM;refine iO (f:=pA) (a:=a) ep.u cp.i Ω rfl rfl λv45 fg ba fh W eI=>?_;have bR:=eH.W W;refine jl (f:=pA) (a:=a) ep.u cp.i rfl bR (by simpa using eI.sl) (yc (cO.W W)) Ω Ω λcP cQ bx bl eJ cR=>?_;have bT:=cN.W W;have cS:=bT.aa cR λhe=>cL bR bT Φ he;rw[aU be.p rfl];refine bu (g:=K) (o:=3) ep.i (eB bl.sl).1 (eB bl.sl).2 cS Ξ λaj cT fi bV=>?_;have bV:=bV;rw[aO];have bW:af (λr=>lm cq r\/r=K) ba aj:=(cR.Y λr _ h=>.inl h).F (cT.Y λr _ h=>.inr h);have bn:∀{v:x4}{a6:Nat}{l:Λ},aB .i64 av ba a6 v l->aB .i64 av aj a6 v l:=λhm=>bw hm bW λr C J=>by
   rcases J with J|rfl
   .obtain⟨rfl,fj,E⟩:=dU bR J;exact ch hm E Φ C rfl
   .exact ch hm bT Φ C rfl
  have cU:∀r,(lm cq r\/r=K)->B<=r:=λr C=>C.elim (λC=>bD ac r C) λC=>C▸f7;have eK:bS ae g B H N (if t∈A.map (·.1)then ν else an):=aW.new aA λr C=>by
   have C:r=aq:=C;omega
  have eL:=(eK.W W).new bW cU;have eM:af (iw g B) U aj:=((bj.Y λr _ h=>h.elim .inl λh=>.inr Ω).F (aA.Y λr _ h=>.inr (by have h:r=aq:=h;omega))).F ((W.aa _).F (bW.Y λr _ h=>.inr (cU r h)));have eO:lT aj cQ cP (A++[(t,c)]):=⟨L++[a],bl.aa cT λr C he=>by
   have he:r=K:=he;subst he;exact cL bl cS Φ C,λy R=>by
   rcases j9.1 R with R|R
   .obtain⟨gy,hm⟩:=eD y R;exact⟨gy,bn ((bk hm).W W)⟩
   .rw[c9.1 R];exact⟨gt,bn (cO.W W)⟩,by rw[Z4,bK];rfl⟩
  refine hk _ ⟨A++[(t,c)],_,cP,cQ,aI.F eM,bV,bn ((bk eA).W W),bn ((bk eC).W W),eO,λ_ r C=>?_,eL,λh=>Ω,λ_=>?_⟩
  .rcases eJ r C with h|h
   .exact bD ac r h
   .have:=aI.size;have:=bj.size;have:=aA.size;have:=W.size;have:=dS.2;omega
  .have eP:n.toNat-i=(n.toNat-(i+1))+1:=Ω
   rw[eP]at he;obtain⟨eR,eS⟩:=Dh eb ec;cases O:bf 0 ay ((gu co [] (σ dy)).map (·.2))with
   |none=>
    have a2:an=ν:=by rw[<-cD];show(bf 0 ay _).map _=ν;rw[O];rfl
    rw[qq (eR O)]at he;refine .inr ⟨?_,he⟩;rw[a2];split<;>rfl
   |some q=>
    have a2:an=σ q.2:=by rw[<-cD];show(bf 0 ay _).map _=_;rw[O];rfl
    have bo:=eS q O;by_cases hm:t∈A.map (·.1)
    .rw[ms hm]at bo;rw[qq bo]at he;exact .inr ⟨by rw[ms hm],he⟩
    .rw[rc hm]at bo;rw[uc bo]at he;refine .inl ⟨q.2,by rw[rc hm,a2],he,?_⟩;cases bX:gu co [] (σ dy)with
     |none=>rw[bX]at O;cases O
     |some p=>
      rw[bX]at O;obtain⟨bt,s1⟩:=p;have aQ:=bX;obtain⟨u,_,_,eU⟩:=xd aQ;have aR:bm 0 ay s1=σ q:=O;obtain⟨fk,fm⟩:=q;have eV:=dL aR;have:=eU.1;have:=eV.1;rw[n9];simp only[T5];omega
def lg(s:aK):Prop:=s.big=v6->0<=s.m5/\s.m5<=16384
def lh(e:Bool)(ar:Nat)(scope co:Λ)(f:Option aK):Option (cE×aK):=match bf 0 ay (f.map (bi (decide (6<ar)||dB co)))with
 |none=>ν
 |some (other,h)=>match eb co h with
  |none=>ν
  |some (lines,a)=>σ (⟨scope,co,other,lines⟩,if e=v2 then{a with m6:=a.m6++[(co,lines)]}else a)
def EH{s s':aK}{l:List (Λ×Int)}(h:eb co s=σ (l,s')):s'.hp.length+1<=s.hp.length/\s'.m6=s.m6:=by
 unfold eb at h;cases e:bm (-ay) ay s with
 |none=>rw[e]at h;cases h
 |some q=>
  obtain⟨n,s1⟩:=q;have j:=dL e;have y:=j.1;have p:=j.eqs.2.2;rw[e]at h;simp only at h;split at h
  .split at h
   .cases h
   .split at h
    .cases h;exact⟨Ω,p⟩
    .cases h
  .have aW:=h;have:=lL (λ_ t=>t.hp.length<=s1.hp.length/\t.m6=s1.m6) (λacc t a bt r x=>by
    obtain⟨_,_,_,w⟩:=qn x;have h1:=w.1;have f:=w.eqs.2.2;exact⟨by have:=r.1;omega,f.F r.2⟩) n.toNat [] (bi (decide (16384<min (s1.m5+n) ay)) {s1 with m5:=min (s1.m5+n) ay}) l s' ⟨o4 _,rfl⟩ aW
   obtain⟨⟨h1,f⟩,_⟩:=this;exact⟨Ω,f.F p⟩
def uV{g:Nat}{H:ah}{s:aK}(h:bS w g B H N (σ s)):s.hp.length<=100000/\s.m6.length+s.hp.length<=100000:=by
 obtain⟨j,w0,p,q,gs,sv,L,X,r,x,bad,y,big,z,m5,h1,A,C,E,e,F,G,I,J,K,M,a,O,f,P⟩:=h;have Q:=e.2.2.1;refine⟨by rw[<-a,r8];omega,by rw[<-a,<-f,r8,r8];omega⟩
def EI(w:x6)(g h B:Nat)(H:ah)(e:Option (cE×aK))(v:x4)(I:x6):Prop:=∃f x a,af (λr=>r=g\/H r\/r=h\/B<=r) w I/\v= .agg (fE f).toArray/\ii I f x/\bS I g I.heap.size a 100001 (e.map (·.2))/\(∀q,e=σ q->x=q.1)/\(∀r,H r->a r)/\(∀r,a r->H r\/B<=r)/\∀r,a r->r<I.heap.size
def EJ{g E ar:Nat}{H:ah}{R:Option aK}{bc:Bool}{dw:Int}{scope:Λ}{Q:x4->x6->Prop}(h:bS w g B H 100000 R)(dx:iv w B E ⟨scope,co,0,[]⟩)(fj:∀c,ag w E be c->c[3]?=σ (.slice ν 0 0))(dy:∀z∈co,1<=z/\z<=ay)(fk:co.length<=100001)(dz:ag w N be [.slice ν 0 0,.slice ν 0 0,Δ 0,.slice ν 0 0])(jv:N<B)(cH:¬H N)(cI:∀r,H r->r<B)(fm:∀ap,R=σ ap->lg ap)(fo:∀v I,EI w g N B H (lh bc ar scope co R) v I->Q v I):
  ab v8 (u7 be (Γ E) 1) w λfp=>
  ab v8 (u6 aw fp) w λdC=>
  ab v8 (V1 #[aw] ai #[dC]) w λfq=>
  b7 (Δ 1) (Δ 0) w λdD cZ aC fs=>
   ab v8 (aP .lss ai v6 v6 cZ fq) aC λfu=>
   Split fu (cB (α:=x4->x6->Prop) (λ(fv:x4)(dE:x6)=>
    ab v8 (aP .add ai v6 v2 cZ (Δ 1)) dE λfw=>
    fs fv fw dE) λdF=>
   ab v8 (b8 aw dC cZ) aC λfx=>
   ab v8 (u6 av fx) aC λdG=>
   cB (α:=x4->x6->Prop) (λ(fy:x4)(cJ:x6)=>
    ab v8 (aP .mul av v6 v6 dD fy) cJ λdH=>
    ab v8 (aP .gtr av v6 v2 dH (Δ 4096)) cJ λfz=>
    Split fz (dF (Δ 4097) cJ)
     (dF dH cJ)) λdJ=>
   ab v8 (aP .gtr av v6 v2 dG (Δ 4096)) aC λfA=>
   Split fA (dJ (Δ 4097) aC)
    (dJ dG aC))
    (cB (α:=x6->Prop) (λ(bW:x6)=>
   ak v8 nc [(Γ g),(Δ 0),(Δ 4611686018427387904)] bW λdK bC=>
   ab v8 (Y8 dK 0) bC λfB=>
   ab v8 (Y8 dK 1) bC λjw=>
   ab v8 (u7 be (Γ E) 2) bC λfD=>
   aG v8 (j0 av fD fB) bC λ(_:Unit)bd=>
   ak v8 nc [(Γ g),(Δ (-4611686018427387904)),(Δ 4611686018427387904)] bd λdM O=>
   ab v8 (Y8 dM 0) O λbD=>
   ab v8 (Y8 dM 1) O λdN=>
   ab v8 (bU (Γ g)) O λfF=>
   ab v8 (u7 bI fF 3) O λfG=>
   ab v8 (u6 ai fG) O λfH=>
   ab v8 (aP .neq ai v6 v2 fH (Δ 0)) O λfI=>
   Split fI (ab v8 (u6 be (Γ E)) O λbX=>
    aG v8 (j0 be (Γ N) bX) O λ(_:Unit)bg=>
    ab v8 (do loadVar be (<-asAddr (Γ N))) bg λbZ=>
 Q bZ bg)
    (cB (α:=x6->Prop) (λ(aR:x6)=>
    bY (Δ 0) aR λdO bo fJ=>
     cB (α:=x4->x6->Prop) (λ(fK:x4)(b2:x6)=>
      Split fK (aG v8 (Q8 cp v2 (.tuple #[])) b2 λx cK=>
     ab v8 (u7 be (Γ E) 1) cK λfL=>
     ab v8 (u6 aw fL) cK λdP=>
     ab v8 (V1 #[aw] ai #[dP]) cK λfM=>
     bY (Δ 0) cK λc0 bE fN=>
      ab v8 (aP .lss ai v6 v6 c0 fM) bE λfO=>
      Split fO (ab v8 (b8 aw dP c0) bE λfP=>
      ab v8 (u6 av fP) bE λfQ=>
      ab v8 (aP .sub av v6 v2 fQ (Δ 1)) bE λfR=>
      ak v8 nc [(Γ g),(Δ 0),fR] bE λdQ b3=>
      ab v8 (Y8 dQ 0) b3 λfS=>
      ab v8 (Y8 dQ 1) b3 λjx=>
      ab v8 (u7 cp x 0) b3 λfU=>
      ab v8 (u6 aw fU) b3 λfV=>
      aG v8 (X2 aw 1 #[(0,fS)]) b3 λfW fX=>
      aG v8 (Z9 #[aw,aw] aw #[fV,fW]) fX λfY dR=>
      ab v8 (u7 cp x 0) dR λfZ=>
      aG v8 (j0 aw fZ fY) dR λ(_:Unit)dS=>
      ab v8 (aP .add ai v6 v2 c0 (Δ 1)) dS λgb=>
      fN gb dS)
       (ak v8 nc [(Γ g),(Δ 0),(Δ 4611686018427387904)] bE λdT bF=>
     ab v8 (Y8 dT 0) bF λgc=>
     ab v8 (Y8 dT 1) bF λgd=>
     ab v8 (u7 be (Γ E) 3) bF λgf=>
     ab v8 (u6 ep gf) bF λdW=>
     ab v8 (V1 #[ep] ai #[dW]) bF λgg=>
     bY (Δ 0) bF λc1 bG gh=>
      ab v8 (aP .lss ai v6 v6 c1 gg) bG λgi=>
      Split gi (cB (α:=x6->Prop) (λ(dX:x6)=>
       ab v8 (aP .add ai v6 v2 c1 (Δ 1)) dX λgj=>
       gh gj dX) λdY=>
      ab v8 (b8 ep dW c1) bG λgk=>
      ab v8 (u6 cp gk) bG λgl=>
      aG v8 (Q8 cp v2 (.tuple #[])) bG λy gm=>
      aG v8 (j0 cp y gl) gm λ(_:Unit)aE=>
      cB (α:=x4->x6->Prop) (λ(gn:x4)(dZ:x6)=>
       Split gn (ak v8 oP [(Γ g),(Δ 4),gd] dZ λjy gp=>
        dY gp)
        (dY dZ)) λea=>
      ab v8 (bU (Γ g)) aE λgq=>
      ab v8 (u7 bI gq 3) aE λgu=>
      ab v8 (u6 ai gu) aE λgv=>
      ab v8 (aP .eql ai v6 v2 gv (Δ 0)) aE λgw=>
      Split gw (ab v8 (u7 cp x 0) aE λgx=>
       ab v8 (u6 aw gx) aE λgA=>
      ab v8 (u7 cp y 0) aE λgB=>
      ab v8 (u6 aw gB) aE λgC=>
      ak v8 tr [gA,gC] aE λgD gE=>
      ea gD gE)
       (ea (.bool v6) aE))
       (ab v8 (u7 cp x 1) bG λgF=>
     aG v8 (j0 av gF gc) bG λ(_:Unit)cM=>
     ab v8 (u7 be (Γ E) 3) cM λgH=>
     ab v8 (u6 ep gH) cM λgI=>
     ab v8 (u6 cp x) cM λgJ=>
     aG v8 (X2 ep 1 #[(0,gJ)]) cM λgK gL=>
     aG v8 (Z9 #[ep,ep] ep #[gI,gK]) gL λgM ec=>
     ab v8 (u7 be (Γ E) 3) ec λgN=>
     aG v8 (j0 ep gN gM) ec λ(_:Unit)ed=>
     ab v8 (aP .add av v6 v2 dO (Δ 1)) ed λgO=>
     fJ gO ed)))
       (cB (α:=x6->Prop) (λ(aj:x6)=>
     ab v8 (u6 be (Γ E)) aj λgP=>
     aG v8 (j0 be (Γ N) gP) aj λ(_:Unit)ee=>
     ab v8 (do loadVar be (<-asAddr (Γ N))) ee λgQ=>
 Q gQ ee) λeg=>
    Split (.bool bc) (en b2 λaq=>
     ab v8 (bU (Γ g)) aq λc2=>
     ab v8 (u7 bI c2 8) aq λc3=>
     ab v8 (u6 dI c3) aq λeh=>
     ab v8 (u6 be (Γ E)) aq λgR=>
     aG v8 (X2 dI 1 #[(0,gR)]) aq λgS aV=>
     (Ext aq aV\/b6 v8 (u6 dI c3) eh aV/\b6 v8 (u7 bI c2 8) c3 aV/\b6 v8 (bU (Γ g)) c2 aV/\True)/\
     aG v8 (Z9 #[dI,dI] dI #[eh,gS]) aV λgT cN=>
      ab v8 (bU (Γ g)) cN λgU=>
      ab v8 (u7 bI gU 8) cN λgV=>
      aG v8 (j0 dI gV gT) cN λ(_:Unit)bp=>
      eg bp)
     (eg b2))) λei=>
     ab v8 (aP .lss av v6 v6 dO bD) bo λgW=>
     Split gW (ab v8 (bU (Γ g)) bo λgX=>
     ab v8 (u7 bI gX 3) bo λgY=>
     ab v8 (u6 ai gY) bo λgZ=>
     ab v8 (aP .eql ai v6 v2 gZ (Δ 0)) bo λg0=>
     ei g0 bo)
      (ei (.bool v6) bo)) λej=>
   ab v8 (aP .lss av v6 v2 bD (Δ 0)) O λg2=>
   Split g2 (cB (α:=x4->x6->Prop) (λ(g3:x4)(Y:x6)=>
     Split g3 (ak v8 oP [(Γ g),(Δ 4),dN] Y λjz c4=>
     ab v8 (u6 be (Γ E)) c4 λg4=>
     aG v8 (j0 be (Γ N) g4) c4 λ(_:Unit)ek=>
     ab v8 (do loadVar be (<-asAddr (Γ N))) ek λg5=>
 Q g5 ek)
     (ab v8 (bU (Γ g)) Y λg6=>
    ab v8 (u7 bI g6 8) Y λg7=>
    ab v8 (u6 dI g7) Y λg8=>
    ab v8 (Op.unary .neg bD) Y λg9=>
    ab v8 (aP .sub av v6 v2 g9 (Δ 1)) Y λha=>
    ab v8 (b8 dI g8 ha) Y λhb=>
    ab v8 (u7 be hb 3) Y λhc=>
    ab v8 (u6 ep hc) Y λhd=>
    ab v8 (u7 be (Γ E) 3) Y λhf=>
    aG v8 (j0 ep hf hd) Y λ(_:Unit)em=>
    ej em)) λeo=>
    en O λP=>
    ab v8 (Op.unary .neg bD) P λhg=>
    ab v8 (bU (Γ g)) P λhh=>
    ab v8 (u7 bI hh 8) P λhj=>
    ab v8 (u6 dI hj) P λhl=>
    ab v8 (V1 #[dI] ai #[hl]) P λhn=>
    ab v8 (aP .gtr av v6 v6 hg hn) P λho=>
    Split ho (eo (.bool v2) P)
    (ab v8 (bU (Γ g)) P λhq=>
    ab v8 (u7 bI hq 8) P λhr=>
    ab v8 (u6 dI hr) P λhs=>
    ab v8 (Op.unary .neg bD) P λht=>
    ab v8 (aP .sub av v6 v2 ht (Δ 1)) P λhv=>
    ab v8 (b8 dI hs hv) P λhx=>
    ab v8 (u7 be hx 1) P λhy=>
    ab v8 (u6 aw hy) P λhz=>
    ab v8 (u7 be (Γ E) 1) P λhA=>
    ab v8 (u6 aw hA) P λhB=>
    ak v8 tr [hz,hB] P λhC c5=>
    ab v8 (Op.unary .not hC) c5 λhD=>
    eo hD c5))
    (ab v8 (bU (Γ g)) O λhE=>
    ab v8 (u7 bI hE 7) O λhF=>
    ab v8 (u6 av hF) O λhG=>
    ab v8 (aP .add av v6 v6 hG bD) O λhH=>
    ab v8 (bU (Γ g)) O λhI=>
    ab v8 (u7 bI hI 7) O λhJ=>
    aG v8 (j0 av hJ hH) O λ(_:Unit)aH=>
    cB (α:=x6->Prop) (λ(aI:x6)=>
     ab v8 (bU (Γ g)) aI λhK=>
     ab v8 (u7 bI hK 7) aI λhL=>
     ab v8 (u6 av hL) aI λhM=>
     ab v8 (aP .gtr av v6 v2 hM (Δ 16384)) aI λhN=>
     ak v8 tq [(Γ g),hN,dN] aI λjA c6=>
     ej c6) λer=>
    ab v8 (bU (Γ g)) aH λhO=>
    ab v8 (u7 bI hO 7) aH λhP=>
    ab v8 (u6 av hP) aH λhQ=>
    ab v8 (aP .gtr av v6 v2 hQ (Δ 4611686018427387904)) aH λhR=>
    Split hR (ab v8 (bU (Γ g)) aH λhS=>
    ab v8 (u7 bI hS 7) aH λhT=>
    aG v8 (j0 av hT (Δ 4611686018427387904)) aH λ(_:Unit)es=>
    er es)
    (er aH)))) λet=>
  ab v8 (aP .gtr av v6 v2 (Δ (ar:Int)) (Δ 6)) aC λhU=>
  Split hU (ak v8 tq [(Γ g),(.bool v2),(Δ dw)] aC λjB hV=>
  et hV)
   (ab v8 (aP .gtr av v6 v2 dD (Δ 4096)) aC λhW=>
  ak v8 tq [(Γ g),hW,(Δ dw)] aC λjC hX=>
  et hX)):=by
 have hY:=h.lt;have eu:N≠g:=λhe=>by
  obtain⟨au,ac,ad,bad,az,big,aA,m5,sv,C,_⟩:=jq h;subst he;exact ro (ft C dz) Φ
 obtain⟨aS,lc,cq,g1,cO,cP,f1,f2,f3,f4,f5,f6,f7⟩:=id dx;have b4:E≠g:=Ω
 have ret:∀{G:x6}{x:cE}{S:ah},iv G B E x->ag G N be [.slice ν 0 0,.slice ν 0 0,Δ 0,.slice ν 0 0]->af (λr=>r=g\/H r\/B<=r) w G->bS G g G.heap.size S 100001 ((lh bc ar scope co R).map (·.2))->(∀q,lh bc ar scope co R=σ q->x=q.1)->¬S N->(∀r,H r->S r)->(∀r,S r->H r\/B<=r)->(∀r,S r->r<G.heap.size)->
   (ab v8 (u6 be (Γ E)) G λbX=>
    aG v8 (j0 be (Γ N) bX) G λ(_:Unit)bg=>
    ab v8 (do loadVar be (<-asAddr (Γ N))) bg λbZ=>Q bZ bg):=by
  intro G x S c7 c9 hZ h0 h2 h3 da h4 h5;obtain⟨aS,lc,cq,g1,cO,cP,db,dc,dd,de,df,ev,ew⟩:=c7;let ae:kh:=⟨aS,lc,x.other,cq⟩;have b5:ii G ae x:=⟨⟨g1,dc⟩,⟨cO,dd⟩,rfl,cP,de⟩;rw[bz be.p be.i rfl (show G.rangeAt E 0 (fE ae)from db.range)];refine b1 (vs:=fE ae) be.i rfl rfl b5.one c9 λjD dg h6 h7=>?_;rw[fe be.p be.i rfl h7.range];have h8:∀r,r=N->iu G r\/G.heap.size<=r:=λr j=>by subst j;exact .inl ⟨_,_,c9,Φ,Φ⟩
  refine fo _ _ ⟨ae,x,S,(hZ.Y λr _ h=>?_).F (dg.Y λr _ h=>.inr (.inr (.inl h))),rfl,b5.dV dg h8,h0.dV dg λr j=>.inl ?_,h2,da,h4,λr j=>by rw[h6];exact h5 r j⟩
  .exact h.elim .inl λh=>h.elim (λh=>.inr (.inl h)) λh=>.inr (.inr (.inr h))
  .have j:r=N:=j;subst j;exact⟨_,_,c9,Φ,Φ,Φ,Φ,h3⟩
 have dh:∀{G:x6},af (iw g B) w G->ag G N be [.slice ν 0 0,.slice ν 0 0,Δ 0,.slice ν 0 0]:=λaW=>dz.aa aW λJ=>J.elim eu λh=>Ω
 have di:∀{G:x6},af (iw g B) w G->af (λr=>r=g\/H r\/B<=r) w G:=λaW=>aW.Y λr _ h=>h.elim .inl λh=>.inr (.inr h);have ey:∀{G:x6}{ez:Nat}{S:ah}{so:Option aK},bS G g ez S 100000 so->bS G g ez S 100001 so:=λj=>by
  obtain⟨b9,w0,au,bh,gs,sv,L,X,ac,ad,bad,az,big,aA,m5,h1,h9,ia,ib,ic,dj,dk⟩:=j;refine⟨Ω,w0,au,bh,gs,sv,L,X,ac,ad,bad,az,big,aA,m5,h1,h9,ia,ib,ic,dj,?_⟩;rename_i so;cases so with
  |none=>exact⟨dk.1,by have:=dk.2;omega⟩
  |some s=>exact dk
 have eA:∀{G:x6}{x:cE},iv G B E x->af (iw g B) w G->bS G g B H 100000 ν->lh bc ar scope co R=ν->(ab v8 (u6 be (Γ E)) G λbX=>
    aG v8 (j0 be (Γ N) bX) G λ(_:Unit)bg=>
    ab v8 (do loadVar be (<-asAddr (Γ N))) bg λbZ=>Q bZ bg):=λc7 aW j eC=>
  ret c7 (dh aW) (di aW) (by rw[eC];exact ey j.base) (λq V=>by rw[eC]at V;cases V) cH (λ_ h=>h) (λ_ h=>.inl h) λr j=>by have:=cI r j;have:=aW.size;omega
 rw[aJ be.p 1 f1 rfl,a1 aw.u f3.ls];refine P3 f3.ls (λz ie=>(dy z ie).1) λc aW=>?_;refine c8 (λbW=>af (λr=>r=g) w bW/\bS bW g B H 100000 (R.map (bi (decide (6<ar)||dB co)))) ?_ ?_
 rotate_left
 .intro ax aX;rw[bP,al];refine⟨λdj=>?_,λdj=>?_⟩
  .refine (oi h).Y ?_;rintro _ U _ aZ;refine aX _ ⟨aZ.1,?_⟩;rw[rs (show 6<ar by omega),Bool.true_or];exact aZ.2
  .rw[bP];refine(oi h).Y ?_;rintro _ U _ aZ;refine aX _ ⟨aZ.1,?_⟩;have e:dB co=decide (4096<c):=by rw[U6,sp];exact aW.symm
   rw[s2 (show¬6<ar by omega),Bool.false_or,e];exact aZ.2
 rintro bW ⟨ig,ih⟩;refine(lU ih).Y ?_;rintro _ bC _ ⟨⟨ij,ik⟩,o,jE,rfl,il,jF⟩;rw[bA,bB];have bH:af (λr=>r=g) w bC:=ig.F ij;have jG:=dx.dV bH (lV h);have f123:=f1.aa bH λhe=>b4 he;rw[aU be.p rfl];refine bu (g:=E) (o:=2) av.i rfl rfl f123 Ξ λbd ca jH bJ=>?_;have bJ:ag bd E be [aS,lc,Δ o,cq]:=bJ;have dl:∀r,r=g->iu w r\/w.heap.size<=r:=λr j=>(lV h r j).imp (λ⟨e,c,C,a2,a6,_⟩=>⟨e,c,C,a2,a6⟩) id;have bK:∀{G:x6}{c:List x4},ag G E be c->∀r,r=E->iu G r\/G.heap.size<=r:=λC r j=>by subst j;exact .inl ⟨_,_,C,Φ,Φ⟩
 have f224:=eQ (eQ f2 bH dl) ca (bK f123);have f324:=eQ (eQ f3 bH dl) ca (bK f123);have eD:=(f4.dV bH dl).dV ca (bK f123);have bM:=ik.new ca λr j=>by have j:r=E:=j;omega
 have eE:af (iw g B) w bd:=(bH.Y λr _ h=>.inl h).F (ca.Y λr _ h=>.inr (by have h:r=E:=h;omega));refine(lU bM).Y ?_;rintro _ O _ ⟨⟨bj,a8⟩,n,jI,rfl,im,eF⟩;rw[bA,bB,si a8];have eH:af (iw g B) w O:=eE.F (bj.Y λr _ h=>.inl h);have io:iv bd B E ⟨scope,co,o,[]⟩:=⟨aS,lc,cq,g1,cO,cP,bJ,f224,f324,eD,f5,f6,f7⟩;have eI:=io.dV bj (lV bM);cases ba:bf (-4611686018427387904) 4611686018427387904 (U8 (λx=>x.snd) (bf 0 4611686018427387904 (R.map (bi (decide (6<ar)||dB co)))))with
 |none=>
  rw[ba]at a8;rw[Option.map_none,Q1,W6,bO];refine eA eI eH a8 ?_;unfold lh;cases W:bf 0 ay (R.map (bi (decide (6<ar)||dB co)))with
  |none=>rfl
  |some p=>
   obtain⟨o',M⟩:=p;have ip:bf 0 4611686018427387904 (R.map (bi (decide (6<ar)||dB co)))=σ (o',M):=W;rw[ip]at ba;have e:bm (-ay) ay M=ν:=ba;simp only;unfold eb;rw[e]
 |some q=>
 obtain⟨jJ,K⟩:=q;have iq:=im _ ba;subst iq;rw[ba]at a8;have a8:bS O g B H 100000 (σ K):=a8;rw[Y3,R2,X3,a7];obtain⟨M,W,dm⟩:∃M,bf 0 ay (R.map (bi (decide (6<ar)||dB co)))=σ (o,M)/\bm (-ay) ay M=σ (n,K):=by
  cases W:bf 0 4611686018427387904 (R.map (bi (decide (6<ar)||dB co)))with
  |none=>rw[W]at ba;cases ba
  |some p=>
   obtain⟨o',M⟩:=p;have:=il _ W;subst this;rw[W]at ba;exact⟨M,W,ba⟩
 have cb:lh bc ar scope co R=match eb co M with
   |none=>ν
   |some (lines,K)=>σ (⟨scope,co,o,lines⟩,if bc=v2 then{K with m6:=K.m6++[(co,lines)]}else K):=by
  unfold lh;rw[W]
 have ir:=(ji dm).1;have it: -4611686018427387904<=n/\n<=4611686018427387904:=ir;have eJ:eb co M=(if n<0 then match K.m6[(-n-1).toNat]? with
   |none=>ν
   |some (z,l)=>if z=co then σ (l,K)else ν
  else cX (eN co) n.toNat [] (bi (decide (16384<min (K.m5+n) ay)) {K with m5:=min (K.m5+n) ay})):=by
  unfold eb;rw[dm];rfl
 have ix:lg K:=by
  cases bN:R with
  |none=>rw[bN]at W;cases W
  |some ap=>
   rw[bN]at W;have dn:bm 0 ay (bi (decide (6<ar)||dB co) ap)=σ (o,M):=W;have cQ:=(dL dn).eqs;have cc:=(dL dm).eqs;intro C;rw[cc.2.1,cQ.2.1]at C;rw[cc.1,cQ.1];exact fm ap bN (U1.1 C).1
 refine c8 (λaR=>af (iw g B) w aR/\∃bq cd cR bk,ag aR E be [aS,lc,Δ o,bq]/\aB .i64 av aR g1 aS scope/\aB .i64 av aR cO lc co/\lT aR cd bq cR/\bS aR g B H 100000 (σ bk)/\(0<n->cR=[]/\∀r,¬lm bq r)/\eb co M=(if n<=0 then σ (cR,bk)else cX (eN co) n.toNat [] bk)) ?_ ?_
 .rintro aR ⟨iy,bq,cd,cR,bk,db,dc,dd,de,df,ev,ew⟩;refine P7 df db dc dd de f5 f6 f7 dy fk it.2 ev (uV df).1 λb2 A dp iz eK eL iA ce=>?_;have bQ:=iy.F iz;have br:dp=(eb co M).map (·.2)/\∀q,eb co M=σ q->A=q.1:=by
   rw[ew];by_cases dq:n<=0
   .obtain⟨ac,ad⟩:=iA dq;rw[ms dq];exact⟨ad,λq V=>by cases V;exact ac⟩
   .rw[rc dq];exact ce Ω
  obtain⟨br,aZ⟩:=br;cases bc with
  |false=>
   refine c8 (λaj=>b2=aj) ?_ ?_
   .rintro _ rfl;refine ret eK (dh bQ) (di bQ) ?_ ?_ cH (λ_ h=>h) (λ_ h=>.inl h) λr j=>by have:=cI r j;have:=bQ.size;omega
    .have:(lh v6 ar scope co R).map (·.2)=dp:=by
      rw[cb,br];cases eb co M with
      |none=>rfl
      |some p=>rfl
     rw[this];exact ey eL.base
    .intro q V;rw[cb]at V;cases am:eb co M with
     |none=>rw[am]at V;cases V
     |some p=>
      rw[am]at V;have:=aZ p am;cases V;rw[this]
   .intro ax aX;rw[a7];exact aX _ rfl
  |true=>
   refine c8 (λaj=>∃S,af (λr=>r=g\/H r\/B<=r) w aj/\iv aj B E ⟨scope,co,o,A⟩/\ag aj N be [.slice ν 0 0,.slice ν 0 0,Δ 0,.slice ν 0 0]/\bS aj g aj.heap.size S 100001 ((lh v2 ar scope co R).map (·.2))/\¬S N/\(∀r,H r->S r)/\(∀r,S r->H r\/B<=r)/\∀r,S r->r<aj.heap.size) ?_ ?_
   .rintro aj ⟨S,iB,iC,a3,a4,a5,iD,iE,iF⟩;refine ret iC a3 iB a4 ?_ a5 iD iE iF;intro q V;rw[cb]at V;cases am:eb co M with
    |none=>rw[am]at V;cases V
    |some p=>
     rw[am]at V;have:=aZ p am;cases V;rw[this]
   .intro ax aX;rw[bO];intro aq cf _ _;have iG:=eL.W cf;have iH:=eK.W cf;have iI:=(dh bQ).W cf;obtain⟨b9,w0,au,bh,gs,sv,L,X,ac,ad,bad,az,big,aA,m5,cS,bs,bt,an,bw,bl,bx⟩:=id iG;have iJ:=bw.g bs bt;obtain⟨⟨iK,eM⟩,aM,cg,ch⟩:=id iJ;have iL:∀r,lm sv r->r<B:=λr j=>cI r (bl r j);rw[aL bI.p 8 an rfl];obtain⟨eO,eP,bq,eR,eS,cd,eU,eV,eW,eX,iM,iN,iP⟩:=id iH;let ae:kh:=⟨eO,eP,o,bq⟩;let x:cE:=⟨scope,co,o,A⟩;have b5:ii aq ae x:=⟨⟨eR,eV⟩,⟨eS,eW⟩,rfl,cd,eX⟩;rw[bz be.p be.i rfl (show aq.rangeAt E 0 (fE ae)from eU.range)];refine iO (f:=fE) (a:=ae) dI.u be.i Ω rfl rfl λjK jL aV jM Z iQ=>?_;refine⟨.inl Z,?_⟩;have jN:L.length<=100000:=by
     cases dp with
     |none=>exact bx.2
     |some s=>have:=bx.2.2.2.2.2.2.2.2;omega
    have dr:=aM.W Z;refine jl (f:=fE) (a:=ae) dI.u be.i rfl dr (by simpa using iQ.sl) (b5.W Z).one Ω Ω λeY iR cN ci iS eZ=>?_;have ds:=an.W Z;have e0:=ds.aa eZ λhe=>cL dr ds Φ he;rw[b0,aU bI.p rfl];refine bu (g:=g) (o:=8) dI.i (eB ci.sl).1 (eB ci.sl).2 e0 (by simp[iV]) λbp dt jO cT=>?_;have cT:ag bp g bI (iV au ac ad bad az big aA m5 eY):=cT;have aN:af (λr=>lm sv r\/r=g) aV bp:=(eZ.Y λr _ h=>.inl h).F (dt.Y λr _ h=>.inr h);have cU:∀r,(lm sv r\/r=g)->iu aV r\/aV.heap.size<=r:=λr j=>by
     rcases j with j|rfl
     .obtain⟨rfl,c,C⟩:=dU dr j;exact .inl ⟨_,c,C,Φ,Φ⟩
     .exact .inl ⟨_,_,ds,Φ,Φ⟩
    have e1:∀{ae x},ii aq ae x->ii bp ae x:=λhe=>(he.W Z).dV aN cU;have z50:=cf.size;have jP:=Z.size;have z53:=aN.size;have jQ:=bQ.size;have jR:=hY.2;refine aX _ ⟨λr=>H r\/(aq.heap.size<=r/\r<bp.heap.size),?_,?_,?_,?_,?_,λr j=>.inl j,λr j=>j.imp id λj=>Ω,λr j=>?_⟩
    .refine (((di bQ).F (cf.aa _)).F (Z.aa _)).F (aN.Y λr _ j=>?_);exact j.elim (λj=>.inr (.inl (bl r j))) .inl
    .have iT:=eU.W Z;refine⟨eO,eP,bq,eR,eS,cd,iT.aa aN λj=>?_,eQ (eV.W Z) aN cU,eQ (eW.W Z) aN cU,(eX.dV (Z.aa λ_=>False) λ_ h=>h.elim).dV aN cU,iM,iN,iP⟩;rcases j with j|j
     .have:=iL _ j;omega
     .exact b4 j
    .exact (iI.W Z).aa aN λj=>j.elim (λj=>cH (bl _ j)) eu
    .refine⟨Ω,bp,au,bh,iR,eY,L++[ae],X++[x],ac,ad,bad,az,big,aA,m5,rfl,af.refl _ _,⟨_,cT⟩,cT,⟨⟨?_,λr j=>?_⟩,ci.aa dt λr j he=>?_,by rw[n9,n9,cg];rfl,λi iU iW hi cj=>?_⟩,λr j=>?_,?_⟩
     .refine (iK.aa (Z.aa λ_=>False) λ_ _ h=>h).aa aN λr j J=>?_;obtain⟨c,C⟩:=eM r j;rcases J with J|rfl
      .obtain⟨rfl,iX,du⟩:=dU aM J;exact ro (ft C du) Φ
      .exact ro (ft C an) Φ
     .obtain⟨c,C⟩:=eM r j;refine⟨c,(C.W Z).aa aN λJ=>?_⟩;rcases J with J|rfl
      .obtain⟨rfl,iX,du⟩:=dU aM J;exact ro (ft C du) Φ
      .exact ro (ft C an) Φ
     .have he:r=g:=he;subst he;exact cL ci e0 Φ j
     .by_cases iY:i<L.length
      .rw[Y2 iY]at hi;rw[Y2 Ω]at cj;exact e1 (ch i iU iW hi cj)
      .rw[Z7 Ω]at hi;rw[Z7 Ω]at cj;have iZ:i-L.length=0:=by have:=(x5.1 hi).1;simp at this;omega
       have da:i-X.length=0:=Ω
       rw[iZ]at hi;rw[da]at cj;cases hi;cases cj;exact e1 b5
     .rcases iS r j with h|h
      .exact .inl (bl r h)
      .have:=(ci.lw j);have:=dt.size;exact .inr ⟨Ω,Ω⟩
     .rw[cb];cases am:eb co M with
      |none=>
       rw[am]at br;rw[br]at bx;exact⟨bx.1,by rw[n9];simp;have:=bx.2;omega⟩
      |some p=>
       obtain⟨lines,bk⟩:=p;rw[am]at br;rw[br]at bx;have i0:=aZ _ am;obtain⟨cl,cm,cn,cr,ct,bR,cu,aQ,cV⟩:=id bx;have e2:=EH am;refine⟨cl,cm,cn,cr,ct,bR,cu,?_,?_⟩
       .show (X++[x]).map _=bk.m6++[(co,lines)];rw[Z4,aQ];simp only[x,T3,List.map_nil];rw[i0]
       .have jS:M.m6.length+M.hp.length<=100000:=by
         cases bN:R with
         |none=>rw[bN]at W;cases W
         |some ap=>
          rw[bN]at W h;have dn:bm 0 ay (bi (decide (6<ar)||dB co) ap)=σ (o,M):=W;have t9:=dL dn;have cQ:=t9.1;have cc:=t9.eqs.2.2;have t3:=(uV h).2;have e3:(bi (decide (6<ar)||dB co) ap).hp=ap.hp:=rfl;have e4:(bi (decide (6<ar)||dB co) ap).m6=ap.m6:=rfl;rw[e3]at cQ;rw[e4]at cc;rw[cc];omega
        have e5:L.length=bk.m6.length:=by rw[<-aQ,r8,cg]
        have i1:bh.length=bk.hp.length:=by rw[<-bR,r8]
        rw[e2.2]at e5;rw[n9,e5,i1];simp only[T5];have:=e2.1;omega
    .rintro (j|j)
     .exact cH j
     .omega
    .rcases j with j|j
     .have:=cI r j;omega
     .exact j.2
 .intro ax aX;rw[aT,al];refine⟨λi2=>?_,λi3=>?_⟩
  .
   refine aY (λv Y=>Ext O Y/\∃b:Bool,v= .bool b/\(b=v2->eb co M=ν)/\(b=v6->∃lines,eb co M=σ (lines,K)/\K.m6[(-n-1).toNat]?=σ (co,lines))) ?_ ?_
   .rintro _ Y ⟨bT,b,rfl,i4,i5⟩;have cW:=a8.W bT;have i6:=eI.W bT;have e6:=eH.F (bT.aa _);cases b with
    |true=>
     rw[bO];refine(pB cW Ω).Y ?_;rintro _ c4 _ ⟨e7,i7⟩;exact eA (i6.dV e7 (lV cW)) (e6.F (e7.Y λr _ h=>.inl h)) i7 (by rw[cb,i4 rfl])
    |false=>
     rw[a7];obtain⟨lines,i8,bV⟩:=i5 rfl;obtain⟨b9,w0,au,bh,gs,sv,L,X,ac,ad,bad,az,big,aA,m5,cS,bs,bt,an,bw,bl,cl,cm,cn,cr,ct,bR,cu,aQ,cV⟩:=id cW;obtain⟨_,aM,cg,ch⟩:=bw.g bs bt;have cw:(-n-1).toNat<L.length:=by
      have h1:=(x5.1 bV).1;rw[<-aQ,r8]at h1;omega
     obtain⟨hk,cz⟩:∃h,L[(-n-1).toNat]?=σ h:=⟨_,x8 cw⟩;obtain⟨bb,cA⟩:=aD (l:=X) (i:=(-n-1).toNat) Ω;obtain⟨_,_,_,i9,ao⟩:=ch _ hk bb cz cA;have ja:bb.lines=lines:=by
      rw[<-aQ,u4,cA]at bV;have:=Z5 bV;exact(Prod.mk.inj this).2
     rw[aL bI.p 8 an rfl,nh,m1 Ω Ω,dA,m1 Ω Ω,ck (i:=(-n-1).toNat) Ω dI.u be.i aM cw,aU be.p rfl,aF Ψ (aM.range cz 3 _ rfl)];obtain⟨jT,e8,jU,jV⟩:=id ao;have cY:ag Y E be [aS,lc,Δ o,cq]:=(bJ.aa bj λhe=>b4 he).W bT;have jb:=(eQ f224 bj λr j=>(lV bM r j).imp (λ⟨e,c,C,a2,a6,_⟩=>⟨e,c,C,a2,a6⟩) id).W bT;have jc:=(eQ f324 bj λr j=>(lV bM r j).imp (λ⟨e,c,C,a2,a6,_⟩=>⟨e,c,C,a2,a6⟩) id).W bT;rw[aU be.p rfl];refine bu (g:=E) (o:=3) ep.i (eB e8.sl).1 (eB e8.sl).2 cY Ξ λem cC jW jd=>?_;refine aX _ ⟨e6.F (cC.Y λr _ h=>.inr (by have h:r=E:=h;omega)),hk.cq,i9,lines,K,jd,eQ jb cC (bK cY),eQ jc cC (bK cY),?_,cW.new cC λr j=>by have j:r=E:=j;omega,λh=>Ω,by rw[i8,ms Ω]⟩;rw[<-ja];exact ao.dV cC (bK cY)
   .intro jX e9;intro P cD _ _;have je:=a8.W cD;obtain⟨b9,w0,au,bh,gs,sv,L,X,ac,ad,bad,az,big,aA,m5,cS,bs,bt,an,bw,bl,cl,cm,cn,cr,ct,bR,cu,aQ,cV⟩:=id je;obtain⟨_,aM,cg,ch⟩:=bw.g bs bt;have jY:K.m6.length=L.length:=by rw[<-aQ,r8,cg]
    have ao:=eJ;rw[ms i2]at ao;rw[nh,m1 Ω Ω,aL bI.p 8 an rfl,ef dI.u aM,bP,al];refine⟨λce=>e9 _ _ ⟨cD,v2,rfl,λ_=>?_,λh=>by cases h⟩,λce=>?_⟩
    .rw[ao,Y5 Ω]
    have cw:(-n-1).toNat<L.length:=Ω
    obtain⟨hk,cz⟩:∃h,L[(-n-1).toNat]?=σ h:=⟨_,x8 cw⟩;obtain⟨bb,cA⟩:=aD (l:=X) (i:=(-n-1).toNat) Ω;obtain⟨_,⟨gz,jf⟩,_,_⟩:=ch _ hk bb cz cA;have bV:K.m6[(-n-1).toNat]?=σ (bb.co,bb.lines):=by rw[<-aQ,u4,cA];rfl
    rw[bV]at ao;simp only at ao;rw[aL bI.p 8 an rfl,nh,m1 Ω Ω,dA,m1 Ω Ω,ck (i:=(-n-1).toNat) Ω dI.u be.i aM cw,aU be.p rfl,aF Ψ (aM.range cz 1 _ rfl)];have jg:ag P E be [aS,lc,Δ o,cq]:=(bJ.aa bj λhe=>b4 he).W cD;have jh:=(eQ f324 bj λr j=>(lV bM r j).imp (λ⟨e,c,C,a2,a6,_⟩=>⟨e,c,C,a2,a6⟩) id).W cD;rw[aJ be.p 1 jg rfl];refine(yb jf.ls jh.ls).Y ?_;rintro _ c5 _ ⟨rfl,jj⟩;rw[bL];refine e9 _ _ ⟨cD.F jj,_,rfl,λC=>?_,λC=>?_⟩
    .have jk:bb.co≠co:=by simpa using C
     rw[ao,rc jk]
    .have fa:bb.co=co:=by simpa using C
     exact⟨bb.lines,by rw[ao,ms fa],by rw[bV,fa]⟩
  .
   have ao:=eJ;rw[rc i3]at ao;obtain⟨b9,w0,au,bh,gs,sv,L,X,ac,ad,bad,az,big,aA,m5,cS,bs,bt,an,bw,bl,cl,cm,cn,cr,ct,bR,cu,aQ,cV⟩:=id a8;rw[aL bI.p 7 an rfl,aO];generalize jm:W5.wrap (m5+n)=bn;have fb:K.big=v6->bn=K.m5+n/\0<=bn:=λC=>by
    obtain⟨e3,e4⟩:=ix C;have jn:=cr C;rw[<-jm,jn,m1 Ω Ω];exact⟨rfl,Ω⟩
   rw[b0,aU bI.p rfl];refine bu (g:=g) (o:=7) av.i rfl rfl an (by simp[iV]) λaH fc jZ cF=>?_;have cF:ag aH g bI (iV au ac ad bad az big aA bn sv):=cF;refine c8 (λaI=>af (λr=>r=g) O aI/\ag aI g bI (iV au ac ad bad az big aA (min bn ay) sv)) ?_ ?_
   rotate_left
   .intro j1 fd;rw[aL bI.p 7 cF rfl,bP,al];refine⟨λce=>?_,λce=>fd _ ⟨fc,?_⟩⟩
    .rw[b0,aU bI.p rfl];refine bu (g:=g) (o:=7) av.i rfl rfl cF (by simp[iV]) λes jo j2 jp=>?_;refine fd _ ⟨fc.F jo,?_⟩;have e:min bn ay=4611686018427387904:=by unfold ay;omega
     rw[e];exact jp
    .have e:min bn ay=bn:=by unfold ay;omega
     rw[e];exact cF
   rintro aI ⟨ff,fg⟩;have jr:bS aI g B H 100000 (σ {K with m5:=min (K.m5+n) ay}):=⟨b9,w0,au,bh,gs,sv,L,X,ac,ad,bad,az,big,aA,_,cS,bs.F ff,bt,fg,bw,bl,cl,cm,cn,λC=>by
    have C:K.big=v6:=C;rw[(fb C).1],ct,bR,cu,aQ,cV⟩
   rw[aL bI.p 7 fg rfl,bP];refine(oi jr).Y ?_;rintro _ c6 _ ⟨js,fh⟩;have jt:(σ {K with m5:=min (K.m5+n) ay}).map (bi (decide (16384<min bn ay)))=σ (bi (decide (16384<min (K.m5+n) ay)) {K with m5:=min (K.m5+n) ay}):=by
    show σ (bi _ _)=_;congr 1;unfold bi;cases C:K.big with
    |true=>simp
    |false=>rw[(fb C).1]
   rw[jt]at fh;have cG:af (λr=>r=g) bd c6:=(bj.F ff).F js;have dv:∀r,r=g->iu bd r\/bd.heap.size<=r:=λr j=>(lV bM r j).imp (λ⟨e,c,C,a2,a6,_⟩=>⟨e,c,C,a2,a6⟩) id;have ju:cq= .slice ν 0 0:=by
    have:=fj _ f1;simpa using this
   refine aX _ ⟨eE.F (cG.Y λr _ h=>.inl h),cq,cP,[],_,bJ.aa cG λhe=>b4 he,eQ f224 cG dv,eQ f324 cG dv,eD.dV cG dv,fh,λ_=>⟨rfl,λr j=>by rw[ju]at j;exact fi j⟩,?_⟩;rw[ao];by_cases eF:n<=0
   .have:n=0:=Ω
    subst this;rw[ms (S9 _)];rfl
   .rw[rc eF]
def EK{s:aK}:ds all s=match bm (-ay) ay s with
  |none=>ν
  |some (a,s1)=>match fg all.length a.natAbs s1 with
   |none=>ν
   |some (scope,e)=>lh (decide (a<0)) a.natAbs scope (scope.map λv=>all.getD v.toNat 0) (σ e):=by
 unfold ds;cases bm (-ay) ay s with
 |none=>rfl
 |some q=>
  obtain⟨a,s1⟩:=q;simp only;cases fg all.length a.natAbs s1 with
  |none=>rfl
  |some p=>
   obtain⟨scope,e⟩:=p;simp only;unfold lh;show _=match bm 0 ay (bi (decide (6<a.natAbs)||dB (scope.map λv=>all.getD v.toNat 0)) e)with
    |none=>ν
    |some (other,f)=>_
   cases bm 0 ay (bi (decide (6<a.natAbs)||dB (scope.map λv=>all.getD v.toNat 0)) e)with
   |none=>rfl
   |some j=>
    obtain⟨o,f⟩:=j;simp only;cases eb (scope.map λv=>all.getD v.toNat 0) f with
    |none=>rfl
    |some r=>
     obtain⟨ls,w⟩:=r;by_cases h:a<0
     .simp[h]
     .simp[h]
def yd(w:x6)(g:Nat)(H:ah)(e:Option (cE×aK))(v:x4)(I:x6):Prop:=∃f x a,af (λr=>r=g\/H r) w I/\v= .agg (fE f).toArray/\ii I f x/\bS I g I.heap.size a 100001 (e.map (·.2))/\(∀q,e=σ q->x=q.1)/\(∀r,H r->a r)/\(∀r,a r->H r\/w.heap.size<=r)/\∀r,a r->r<I.heap.size
def EL{k:Nat}{s s':aK}(h:fg n k s=σ (l,s')):s'.hp.length+l.length<=s.hp.length/\s'.m5=s.m5/\s'.big=s.big/\s'.m6=s.m6/\∀v∈l,0<=v/\v<n:=by
 have:=lL (f:=lN n) (λ(acc:Λ)t=>t.hp.length+acc.length<=s.hp.length/\t.m5=s.m5/\t.big=s.big/\t.m6=s.m6/\∀v∈acc,0<=v/\v<n) (λacc t a bt j e=>by
  unfold lN at e;cases r:bm 0 (n-1) t with
  |none=>rw[r]at e;cases e
  |some q=>
   obtain⟨v,C⟩:=q;rw[r]at e;simp only at e;split at e
   .cases e
   .cases e;have w:=dL r;have E:=(ji r).1;obtain⟨x,z,A⟩:=w.eqs;have t0:=w.1;refine⟨by have:=j.1;rw[n9];simp only[T5];omega,x.F j.2.1,z.F j.2.2.1,A.F j.2.2.2.1,λy p=>?_⟩;rcases j9.1 p with p|p
    .exact j.2.2.2.2 y p
    .rw[c9.1 p];omega) k [] s l s' ⟨Ξ,rfl,rfl,rfl,λv B=>by cases B⟩ h
 exact this.1
def P8{g B0:Nat}{H:ah}{s:aK}{P:x4}(h:bS w g B0 H 100000 (σ s))(ae:aB .i64 av w gz P all)(ai:∀z∈all,1<=z/\z<=ay)(aR:all.length<=100001)(Q:∀r,H r->r<w.heap.size)(bj:lg s):
  ak v8 AG [Γ g,P] w (yd w g H (ds all s)):=by
 have bV:=h.lt;refine az func123 ?_;refine bE be.i λG U bX R S=>?_;have S:ag U G be [.slice ν 0 0,.slice ν 0 0,Δ 0,.slice ν 0 0]:=S;refine bE be.i λM V bY W Y=>?_;have Y:ag V M be [.slice ν 0 0,.slice ν 0 0,Δ 0,.slice ν 0 0]:=Y;have h1:=(h.W R).base;have aj:=h1.W W;have bZ:=R.size;have aU:=S.lt;have b0:=Y.lt;refine(lU aj).Y ?_;rintro _ E _ ⟨⟨Z,j⟩,a,b2,rfl,am,an⟩;rw[bA,bB,aT];have bl:M≠g:=Ω
 have ao:G≠g:=Ω
 have ap:=Y.aa Z λhe=>bl he;have aq:=(S.W W).aa Z λhe=>ao he;have aV:aB .i64 av E gz P all:=bw ((ae.W R).W W) Z λr e he=>by
  have he:r=g:=he;obtain⟨aW,B,K,bad,aX,big,aZ,m5,sv,ac,_⟩:=jq h;subst he;exact ch ae ac Φ e rfl
 have a1:∀r,lw P r->r<U.heap.size:=λr e=>by obtain⟨B,K⟩:=bW ae e;omega
 have aw:iv E U.heap.size M ⟨[],[],0,[]⟩:=⟨_,_,_,0,0,0,ap,aB.nil _ _ _ _,aB.nil _ _ _ _,⟨[],bk.nil _ _ _ _ _,λy bn=>(by cases bn),rfl⟩,(λr e=>by rcases e with⟨a,n,c,B,K⟩|⟨a,n,c,B,K⟩<;>cases B),(λr e=>by obtain⟨a,n,c,B,K⟩:=e;cases B),Ω⟩;have aA:∀c,ag E M be c->c[3]?=σ (.slice ν 0 0):=λc aC=>by
  unfold ag at aC ap;rw[ap]at aC;have:=Array.toList_inj.2 (Obj.cells.inj (Z5 aC)).1;simp at this;rw[<-this];rfl
 have a2:af (λr=>r=g) U E:=(W.aa _).F Z;have b3:U.heap.size<=E.heap.size:=a2.size;have aD:∀{f:x6}{aE:Option (cE×aK)}{v:x4}{I:x6},af (iw g U.heap.size) E f->aE=ds all s->EI f g G U.heap.size H aE v I->yd w g H (ds all s) v I:=by
  rintro f aE v I C rfl ⟨O,x,bo,aF,aH,aI,aJ,a6,a7,a8,bp⟩;refine⟨O,x,bo,?_,aH,aI,aJ,a6,a7,λr e=>(a8 r e).imp id λh=>Ω,bp⟩;refine iJ (iJ ((R.aa _).F (a2.Y λr _ h=>.inl h)) C λr e he=>?_) aF λr e he=>?_
  .exact he.elim .inl λhe=>Ω
  .rcases he with he|he|he|he
   .exact .inl he
   .exact .inr he
   .omega
   .omega
 have bq:∀{f:x6}{x:cE},af (iw g U.heap.size) E f->ds all s=ν->bS f g U.heap.size H 100000 ν->iv f U.heap.size M x->
   (ab v8 (u6 be (Γ M)) f λbr=>
    aG v8 (j0 be (Γ G) br) f λ(_:Unit)ba=>
    ab v8 (do loadVar be (<-asAddr (Γ G))) ba λbs=>yd w g H (ds all s) bs ba):=by
  intro f x C bb aL bt;obtain⟨aS,lc,cq,g1,bu,bx,aF,aH,aI,aJ,a6,a7,a8⟩:=bt;let O:kh:=⟨aS,lc,x.other,cq⟩;have bc:ii f O x:=⟨⟨g1,aH⟩,⟨bu,aI⟩,rfl,bx,aJ⟩;have aM:=aq.aa C λJ=>J.elim ao λh=>Ω
  rw[bz be.p be.i rfl (show f.rangeAt M 0 (fE O)from aF.range)];refine b1 (vs:=fE O) be.i rfl rfl bc.one aM λb4 aN b5 bC=>?_;rw[fe be.p be.i rfl bC.range];have bD:∀r,r=G->iu f r\/f.heap.size<=r:=λr e=>by subst e;exact .inl ⟨_,_,aM,Φ,Φ⟩
  have b6:=C.size;refine aD C rfl ⟨O,x,H,aN.Y λr _ h=>.inr (.inr (.inl h)),rfl,bc.dV aN bD,?_,(λq A=>by rw[bb]at A;cases A),λ_ h=>h,λ_ h=>.inl h,λr e=>by have:=Q r e;omega⟩;rw[bb];have bF:bS f g U.heap.size H 100001 ν:=by
   obtain⟨b7,w0,aW,bG,gs,sv,L,X,B,K,bad,aX,big,aZ,m5,h1,aj,j,bH,bI,aO,bd⟩:=aL;exact⟨Ω,w0,aW,bG,gs,sv,L,X,B,K,bad,aX,big,aZ,m5,h1,aj,j,bH,bI,aO,bd.1,by have:=bd.2;omega⟩
  refine bF.dV aN λr e=>.inl ?_;have e:r=G:=e;subst e;exact⟨_,_,aM,Φ,Φ,Φ,Φ,λau=>by have:=Q _ au;omega⟩
 have N:=EK (all:=all) (s:=s);have bJ:bf (-4611686018427387904) 4611686018427387904 (σ s)=bm (-ay) ay s:=rfl;rw[bJ]at j am an;have b8: -4611686018427387904<=a/\a<=4611686018427387904:=by
  cases A:bm (-ay) ay s with
  |none=>have:=an A;omega
  |some q=>have:=am q A;rw[this];exact(ji A).1
 refine aY (λv bK=>E=bK/\v=Δ (a.natAbs:Int)) ?_ ?_
 rotate_left
 .intro ax bg;rw[al];refine⟨λb9=>?_,λca=>bg _ _ ⟨rfl,by congr 1;omega⟩⟩;rw[nh,m1 Ω Ω];exact bg _ _ ⟨rfl,by congr 1;omega⟩
 rintro _ _ ⟨rfl,rfl⟩;have bh:∀r,H r->r<U.heap.size:=λr e=>by have:=Q r e;omega
 have bi:¬H G:=λau=>by have:=Q _ au;omega
 have bL:∀{scope:Λ},(∀v∈scope,0<=v/\v<(all.length:Int))->∀z∈scope.map (λv=>all.getD v.toNat 0),1<=z/\z<=ay:=λbM z bN=>by
  obtain⟨v,bO,rfl⟩:=j5.1 bN;have:=bM v bO;refine ai _ ?_;rw[u5,x8 Ω];exact P6 _
 cases A:bm (-ay) ay s with
 |none=>
  rw[A]at j N;have bP:=an A;subst bP;refine EG (s:=s) (ar:=(0:Int).natAbs) j (.inr ⟨rfl,rfl⟩) aw aA aV a1 aR Φ (λh=>by cases h) ?_ ?_ ?_
  .intro h;cases h
  .intro _;exact EJ j aw aA (λz ai=>by cases ai) Ξ aq aU bi bh (λbQ J=>by cases J) λv I aP=>aD (af.refl _ _) (by rw[N];rfl) aP
  .intro h;cases h
 |some q=>
  obtain⟨a',s1⟩:=q;rw[A]at j N;have:=am _ A;subst this;simp only at N;have j:bS E g U.heap.size H 100000 (σ s1):=j;have bR:=dL A;refine EG j (.inl rfl) aw aA aV a1 aR Ω (λ_=>(uV j).1) ?_ ?_ ?_
  .intro _ f x C ad aL aQ;exact bq C (by rw[N,ad]) aL aQ
  .intro h;cases h
  .intro _ f scope s' C ad aO aQ bT;obtain⟨cb,bU,t3,t4,t5⟩:=EL ad;rw[ad]at N;obtain⟨B,K,cc⟩:=bR.eqs;refine EJ aO aQ bT (bL t5) ?_ (aq.aa C λJ=>J.elim ao λh=>Ω) aU bi bh (λbQ J=>?_) λv I aP=>aD C N.symm aP
   .rw[r8];have:=(uV j).1;omega
   .cases J;intro ac;rw[t3,K]at ac;rw[bU,B];exact bj ac
def P9{s s':aK}{l:List (Λ×Int)}(h:eb co s=σ (l,s'))(p:lg s):lg s':=by
 unfold eb at h;cases f:bm (-ay) ay s with
 |none=>rw[f]at h;cases h
 |some q=>
  obtain⟨n,s1⟩:=q;obtain⟨r,w,t3⟩:=(dL f).eqs;have j:lg s1:=λe=>by rw[r];exact p (by rw[<-w];exact e)
  rw[f]at h;simp only at h;split at h
  .split at h
   .cases h
   .split at h
    .cases h;exact j
    .cases h
  .rename_i F;have aW:=h;have:=lL (λ_ t=>lg t) (λacc t a bt x y=>by
    obtain⟨_,_,_,z⟩:=qn y;obtain⟨A,B,G⟩:=z.eqs;intro e;rw[A];exact x (by rw[<-B];exact e)) n.toNat [] (bi (decide (16384<min (s1.m5+n) ay)) {s1 with m5:=min (s1.m5+n) ay}) l s' (λe=>by
     obtain⟨C,E⟩:=U1.1 e;have H:=j C;have I:=of_decide_eq_false E;show 0<=min (s1.m5+n) ay/\min (s1.m5+n) ay<=16384;unfold ay at*;omega) aW
   exact this.1
def Qa{s s':aK}{x:cE}(h:ds all s=σ (x,s')):s'.hp.length+1<=s.hp.length/\(lg s->lg s'):=by
 rw[EK]at h;cases r:bm (-ay) ay s with
 |none=>rw[r]at h;cases h
 |some q=>
  obtain⟨a,s1⟩:=q;rw[r]at h;simp only at h;have A:=dL r;cases J:fg all.length a.natAbs s1 with
  |none=>rw[J]at h;cases h
  |some p=>
   obtain⟨scope,f⟩:=p;rw[J]at h;simp only at h;obtain⟨T,F,t3,_⟩:=EL J;unfold lh at h;have e:bf 0 ay ((σ f).map (bi (decide (6<a.natAbs)||dB (scope.map λv=>all.getD v.toNat 0))))=bm 0 ay (bi (decide (6<a.natAbs)||dB (scope.map λv=>all.getD v.toNat 0)) f):=rfl;rw[e]at h;cases w:bm 0 ay (bi (decide (6<a.natAbs)||dB (scope.map λv=>all.getD v.toNat 0)) f)with
   |none=>rw[w]at h;cases h
   |some G=>
    obtain⟨o,B⟩:=G;rw[w]at h;simp only at h;have C:=dL w;cases j:eb (scope.map λv=>all.getD v.toNat 0) B with
    |none=>rw[j]at h;cases h
    |some H=>
     obtain⟨ls,y⟩:=H;rw[j]at h;simp only[X7,S7]at h;obtain⟨_,I⟩:=h;have U:=EH j;have K:(bi (decide (6<a.natAbs)||dB (scope.map λv=>all.getD v.toNat 0)) f).hp=f.hp:=rfl;have L:=C.1;rw[K]at L;have V:=A.1;obtain⟨M,N,_⟩:=A.eqs;obtain⟨f1,f2,_⟩:=C.eqs;have z:s'.hp=y.hp/\s'.m5=y.m5/\s'.big=y.big:=by
      rw[<-I];split<;>exact⟨rfl,rfl,rfl⟩
     refine⟨by rw[z.1];omega,λO=>?_⟩;have P:lg B:=λE=>by
      rw[f2]at E;rw[f1];have Q:=(U1.1 E).1;show 0<=f.m5/\f.m5<=16384;rw[F,M];exact O (by rw[<-N,<-t3];exact Q)
     have R:=P9 j P;intro S;rw[z.2.1];exact R (by rw[<-z.2.2];exact S)
def bS.shrink{g:Nat}{H:ah}{so:Option aK}(h:bS w g B H N so):∃a,bS w g B a N so/\(∀r,a r->H r)/\∀r,a r->∃c,ag w r be c:=by
 obtain⟨s,w0,x,y,gs,sv,L,X,z,A,bad,C,big,E,m5,h1,f,j,F,p,G,I⟩:=h;refine⟨λr=>lm sv r,⟨s,w0,x,y,gs,sv,L,X,z,A,bad,C,big,E,m5,h1,f,j,F,p,λr e=>e,I⟩,G,λr e=>?_⟩;obtain⟨rfl,c,q⟩:=dU p.2.1 e;refine⟨c,q.aa f λhe=>?_⟩;obtain⟨K,J⟩:=j;subst he;exact ro (ft q J) Φ
def bS.low{g:Nat}{H:ah}{s:aK}(h:bS w g B H N (σ s)):bS w g B H 100000 (σ s):=by
 obtain⟨E,w0,a,e,gs,sv,L,X,f,j,bad,p,big,q,m5,h1,r,x,y,z,A,C⟩:=h;exact⟨o4 _,w0,a,e,gs,sv,L,X,f,j,bad,p,big,q,m5,h1,r,x,y,z,A,C⟩
def bS.up{g M:Nat}{H:ah}{so:Option aK}(h:bS w g B H N so)(E:N<=M):bS w g B H M so:=by
 obtain⟨F,w0,e,f,gs,sv,L,X,j,p,bad,q,big,r,m5,h1,x,y,z,A,C,a⟩:=h;refine⟨Ω,w0,e,f,gs,sv,L,X,j,p,bad,q,big,r,m5,h1,x,y,z,A,C,?_⟩;cases so with
 |none=>exact⟨a.1,by have:=a.2;omega⟩
 |some s=>exact a
def mG{α:Type}(f:List α->aK->Option (α×aK))(cnt i:Nat)(a:Option aK)(A:List α)(so:Option aK):Prop:=a.bind (cX f cnt [])=(match so with
 |none=>ν
 |some s=>cX f (cnt-i) A s)
def mG.step{α:Type}{f:List α->aK->Option (α×aK)}{cnt i:Nat}{j:Option aK}{A:List α}{s:aK}{a:α}{p:Option aK}(h:mG f cnt i j A (σ s))(hi:i<cnt)(h1:p=(f A s).map (·.2))(r:∀q,f A s=σ q->a=q.1):mG f cnt (i+1) j (A++[a]) p:=by
 unfold mG at*;rw[h,show cnt-i=(cnt-(i+1))+1 by omega];simp only;cases e:f A s with
 |none=>rw[qq e,h1,e];rfl
 |some q=>
  obtain⟨a',s'⟩:=q;have:=r _ e;subst this;rw[uc e,h1,e];rfl
def Qb{s0:aK}{acc:Λ}{most p:Int}{X:List cE}{x y z A K so6 e:Option aK}(h1:x=((ea s0).map (·.2)).map (bi (decide (64<t.length))))(N:∀q,ea s0=σ q->t=q.1)(r:y=((bf 1 ay x).map (·.2)).map (bi (decide (64<n))))(L:∀q,bf 1 ay x=σ q->n=q.1)(h:z=(bf 1 ay y).map (·.2))(hm:∀q,bf 1 ay y=σ q->most=q.1)(f:A=((bf 0 ay z).map (·.2)).map (bi (decide (256<p))))(M:∀q,bf 0 ay z=σ q->p=q.1)(a:K=((bf 1 ay A).map (·.2)).map (bi (decide (2147483648<k))))(hk:∀q,bf 1 ay A=σ q->k=q.1)(w:K.bind (cX (gN most) n.toNat [])=so6.map λs=>(acc,s))(j:so6.bind (cX (λ_ s=>ds acc s) p.toNat [])=e.map λs=>(X,s)):jD s0=e.map λs=>(⟨t,k,acc,X⟩,s):=by
 unfold jD;cases F:ea s0 with
 |none=>
  rw[F]at h1;subst h1;subst r;subst h;subst f;subst a;have:so6=ν:=by cases so6 with|none=>rfl|some s=>cases w
  subst this;cases e with|none=>rfl|some s=>cases j
 |some O=>
 obtain⟨bt,s1⟩:=O;have:=N _ F;subst this;rw[F]at h1;have h1:x=σ (bi (decide (64<t.length)) s1):=h1;subst h1;simp only;have P:bf 1 ay (σ (bi (decide (64<t.length)) s1))=bm 1 ay (bi (decide (64<t.length)) s1):=rfl;rw[P]at r L;cases G:bm 1 ay (bi (decide (64<t.length)) s1)with
 |none=>
  rw[G]at r;subst r;subst h;subst f;subst a;have:so6=ν:=by cases so6 with|none=>rfl|some s=>cases w
  subst this;cases e with|none=>rfl|some s=>cases j
 |some Q=>
 obtain⟨aa,B⟩:=Q;have:=L _ G;subst this;rw[G]at r;have r:y=σ (bi (decide (64<n)) B):=r;subst r;simp only;have R:bf 1 ay (σ (bi (decide (64<n)) B))=bm 1 ay (bi (decide (64<n)) B):=rfl;rw[R]at h hm;cases H:bm 1 ay (bi (decide (64<n)) B)with
 |none=>
  rw[H]at h;subst h;subst f;subst a;have:so6=ν:=by cases so6 with|none=>rfl|some s=>cases w
  subst this;cases e with|none=>rfl|some s=>cases j
 |some S=>
 obtain⟨bR,C⟩:=S;have:=hm _ H;subst this;rw[H]at h;have h:z=σ C:=h;subst h;simp only;have T:bf 0 ay (σ C)=bm 0 ay C:=rfl;rw[T]at f M;cases I:bm 0 ay C with
 |none=>
  rw[I]at f;subst f;subst a;have:so6=ν:=by cases so6 with|none=>rfl|some s=>cases w
  subst this;cases e with|none=>rfl|some s=>cases j
 |some U=>
 obtain⟨ab,E⟩:=U;have:=M _ I;subst this;rw[I]at f;have f:A=σ (bi (decide (256<p)) E):=f;subst f;simp only;have V:bf 1 ay (σ (bi (decide (256<p)) E))=bm 1 ay (bi (decide (256<p)) E):=rfl;rw[V]at a hk;cases J:bm 1 ay (bi (decide (256<p)) E)with
 |none=>
  rw[J]at a;subst a;have:so6=ν:=by cases so6 with|none=>rfl|some s=>cases w
  subst this;cases e with|none=>rfl|some s=>cases j
 |some W=>
 obtain⟨ac,Y⟩:=W;have:=hk _ J;subst this;rw[J]at a;have a:=a;subst a;simp only;have w:cX (gN most) n.toNat [] (bi (decide (2147483648<k)) Y)=so6.map λs=>(acc,s):=w;rw[w];cases so6 with
 |none=>cases e with|none=>rfl|some s=>cases j
 |some Z=>
  simp only[Y3];have j:cX (λ_ s=>ds acc s) p.toNat [] Z=e.map λs=>(X,s):=j;rw[j];cases e<;>rfl
def qI(w:x6)(gr:Nat)(a:x4)(X:List cE):Prop:=∃L,bk fE 4 be w gr a L/\X.length=L.length/\∀(i:Nat)h x,L[i]?=σ h->X[i]?=σ x->ii w h x
def pC(w:x6)(e:Nat)(f:ce):Prop:=∃lc gz a gr,ag w e eo [cf f.name,Δ f.k,lc,a]/\aB .i64 av w gz lc f.co/\qI w gr a f.d9
def qI.W{gr:Nat}{a:x4}{X:List cE}(h:qI w gr a X)(e:Ext w I):qI I gr a X:=by
 obtain⟨L,h1,f,j⟩:=h;exact⟨L,h1.W e,f,λi au x hi p=>(j i au x hi p).W e⟩
def pC.W{e:Nat}{f:ce}(h:pC w e f)(a:Ext w I):pC I e f:=by
 obtain⟨lc,gz,j,gr,h1,p,q⟩:=h;exact⟨lc,gz,j,gr,h1.W a,p.W a,q.W a⟩
def Qc(w:x6)(pl:Λ)(v:x4)(I:x6):Prop:=Ext w I/\∃n e:Int,(gY pl=ν->v= .tuple #[.pointer ν,Δ n,Δ e])/\∀f,gY pl=σ f->∃a,v= .tuple #[Γ a,Δ n,Δ e]/\pC I a f
def Qd{w0:x6}{g y:Nat}{so6:Option aK}{acc:Λ}{O bad:Int}{p:x4}{Q:x4->x6->Prop}(c6:af (λr=>w0.heap.size<=r) w0 w)(bT:ag w y eo [cf t,Δ k,lc,.slice ν 0 0])(c7:aB .i64 av w gz lc acc)(h:bS w g B bQ 100000 so6)(c9:∀s,so6=σ s->lg s/\s.hp.length<=100000/\(∀z∈acc,1<=z/\z<=ay)/\acc.length<=100001)(e7:w0.heap.size<=g)(e8:w0.heap.size<=y)(ac:aM .u8 w0 p pl)(e9:0<=O/\O<=4611686018427387904)(bi:∀v I X bj,Ext w0 I->so6.bind (cX (λ_ s=>ds acc s) O.toNat [])=bj.map (λs=>(X,s))->
   (∀s,bj=σ s->s.hp=[]/\¬0<=bad/\s.big=v6->v= .tuple #[Γ y,Δ (pl.length:Int),Δ 0]/\pC I y ⟨t,k,acc,X⟩)->
   ((∀s,bj=σ s->¬(s.hp=[]/\¬0<=bad/\s.big=v6))->∃n e:Int,v= .tuple #[.pointer ν,Δ n,Δ e])->Q v I):
  bY (Δ 0) w λbV A da=>
   cB (α:=x4->x6->Prop) (λ(db:x4)(K:x6)=>
    Split db (en K λE=>
   ab v8 (bU (Γ y)) E λaD=>
   ab v8 (u7 eo aD 3) E λaE=>
   ab v8 (u6 dI aE) E λbl=>
   ab v8 (bU (Γ y)) E λdc=>
   ab v8 (u7 eo dc 2) E λdd=>
   ab v8 (u6 aw dd) E λde=>
   ak v8 AG [(Γ g),de] E λdf ae=>
    (Ext E ae\/b6 v8 (u6 dI aE) bl ae/\b6 v8 (u7 eo aD 3) aE ae/\b6 v8 (bU (Γ y)) aD ae/\True)/\
   aG v8 (X2 dI 1 #[(0,df)]) ae λdg P=>
    (Ext E P\/b6 v8 (u6 dI aE) bl P/\b6 v8 (u7 eo aD 3) aE P/\b6 v8 (bU (Γ y)) aD P/\True)/\
    aG v8 (Z9 #[dI,dI] dI #[bl,dg]) P λdh aV=>
     ab v8 (bU (Γ y)) aV λdi=>
     ab v8 (u7 eo di 3) aV λdj=>
     aG v8 (j0 dI dj dh) aV λ(_:Unit)aW=>
     ab v8 (aP .add av v6 v2 bV (Δ 1)) aW λdk=>
   da dk aW)
     (cB (α:=x6->Prop) (λ(N:x6)=>
   cB (α:=x6->Prop) (λ(C:x6)=>
    ab v8 (bU (Γ g)) C λdl=>
    ab v8 (u7 bI dl 3) C λdm=>
    ab v8 (u6 ai dm) C λdn=>
    ab v8 (aP .neq ai v6 v2 dn (Δ 0)) C λdp=>
    Split dp (en C λW=>
     ab v8 (bU (Γ g)) W λdq=>
     ab v8 (u7 bI dq 4) W λdr=>
     ab v8 (u6 ai dr) W λdt=>
     ab v8 (bU (Γ g)) W λdu=>
     ab v8 (u7 bI du 3) W λdv=>
     ab v8 (u6 ai dv) W λdw=>
     Q (.tuple #[(.pointer ν),dt,dw]) W)
     (ab v8 (bU (Γ g)) C λdx=>
    ab v8 (u7 bI dx 5) C λdy=>
    ab v8 (u6 ai dy) C λdz=>
    ab v8 (aP .neq ai v6 v2 dz (Δ 0)) C λdA=>
    Split dA (en C λY=>
     ab v8 (bU (Γ g)) Y λdC=>
     ab v8 (u7 bI dC 6) Y λdD=>
     ab v8 (u6 ai dD) Y λdE=>
     ab v8 (bU (Γ g)) Y λdF=>
     ab v8 (u7 bI dF 5) Y λdG=>
     ab v8 (u6 ai dG) Y λdH=>
     Q (.tuple #[(.pointer ν),dE,dH]) Y)
     (ab v8 (V1 #[cT] ai #[p]) C λdJ=>
    Q (.tuple #[(Γ y),dJ,(Δ 0)]) C))) λbX=>
   cB (α:=x4->x6->Prop) (λ(dK:x4)(aX:x6)=>
    Split dK (ak v8 oP [(Γ g),(Δ 11),(Δ bad)] aX λfa b1=>
     bX b1)
     (bX aX)) λb2=>
   ab v8 (bU (Γ g)) N λdL=>
   ab v8 (u7 bI dL 3) N λdM=>
   ab v8 (u6 ai dM) N λdN=>
   ab v8 (aP .eql ai v6 v2 dN (Δ 0)) N λdO=>
   Split dO (ab v8 (aP .geq ai v6 v2 (Δ bad) (Δ 0)) N λdP=>
   b2 dP N)
    (b2 (.bool v6) N)) λb3=>
  cB (α:=x4->x6->Prop) (λ(dQ:x4)(R:x6)=>
   Split dQ (ab v8 (bU (Γ g)) R λdR=>
    ab v8 (u7 bI dR 0) R λdS=>
    ab v8 (u6 fA dS) R λdT=>
    ab v8 (b8 fA dT (Δ 0)) R λdW=>
    ab v8 (u7 cD dW 1) R λdX=>
    ab v8 (u6 ai dX) R λdY=>
    ak v8 oP [(Γ g),(Δ 4),dY] R λfb bm=>
    b3 bm)
    (b3 R)) λb4=>
  ab v8 (bU (Γ g)) K λdZ=>
  ab v8 (u7 bI dZ 3) K λea=>
  ab v8 (u6 ai ea) K λeb=>
  ab v8 (aP .eql ai v6 v2 eb (Δ 0)) K λec=>
  Split ec (ab v8 (bU (Γ g)) K λed=>
  ab v8 (u7 bI ed 0) K λee=>
  ab v8 (u6 fA ee) K λef=>
  ab v8 (V1 #[fA] ai #[ef]) K λeg=>
  ab v8 (aP .gtr ai v6 v2 eg (Δ 0)) K λeh=>
  b4 eh K)
   (b4 (.bool v6) K))) λb5=>
   ab v8 (aP .lss av v6 v6 bV (Δ O)) A λei=>
   Split ei (ab v8 (bU (Γ g)) A λej=>
   ab v8 (u7 bI ej 3) A λek=>
   ab v8 (u6 ai ek) A λem=>
   ab v8 (aP .eql ai v6 v2 em (Δ 0)) A λep=>
   b5 ep A)
    (b5 (.bool v6) A):=by
 have b7:y≠g:=λhe=>by
  obtain⟨aj,Z,ad,bad,am,big,an,m5,sv,f,_⟩:=jq h;subst he;exact ro (ft f bT) Φ
 refine⟨λbn A=>∃i:Nat,bn=Δ (i:Int)/\i<=O.toNat/\af (λr=>w0.heap.size<=r) w0 A/\∃M gr X so,∃H:ah,ag A y eo [cf t,Δ k,lc,M]/\aB .i64 av A gz lc acc/\qI A gr M X/\(∀r,lm M r->w0.heap.size<=r/\¬H r)/\¬H y/\(∀r,lw lc r->¬H r)/\(∀r,H r->w0.heap.size<=r)/\bS A g A.heap.size H 100001 so/\mG (λ_ s=>ds acc s) O.toNat i so6 X so/\
   ∀s,so=σ s->lg s/\X.length+s.hp.length<=100000/\(∀z∈acc,1<=z/\z<=ay)/\acc.length<=100001,λbn _=>O.toNat-(bZ bn).toNat,
  ⟨0,rfl,W0 _,c6,_,0,[],so6,bQ,bT,c7,⟨[],bk.nil _ _ _ _ _,rfl,λi h x hi=>by simp at hi⟩,λr a=>(fi a).elim,id,λr _ h=>h,λr h=>h.elim,h.base.up Ω,?_,λs J=>?_⟩,?_⟩
 .unfold mG;cases so6<;>rfl
 .obtain⟨er,es,a3,a4⟩:=c9 s J;exact⟨er,by simpa using es,a3,a4⟩
 rintro _ A ⟨i,rfl,hi,aZ,M,gr,X,so,H,b9,ca,cb,aH,bo,et,cc,V,bp,eu⟩;refine aY (λv K=>A=K/\((v= .bool v2/\i<O.toNat/\∃s,so=σ s)\/(v= .bool v6/\(so=ν\/i=O.toNat)))) ?_ ?_
 rotate_left
 .intro ax bq;rw[aT,al];refine⟨λcd=>?_,λfc=>bq _ _ ⟨rfl,.inr ⟨rfl,.inr Ω⟩⟩⟩;rw[mF V];cases so with
  |none=>exact bq _ _ ⟨rfl,.inr ⟨rfl,.inl rfl⟩⟩
  |some s=>exact bq _ _ ⟨rfl,.inl ⟨rfl,Ω,s,rfl⟩⟩
 rintro _ _ ⟨rfl,⟨rfl,cd,s,rfl⟩|⟨rfl,ev⟩⟩
 .
  rw[bO];intro E ao _ _;obtain⟨ce,fd,cg,ch⟩:=eu s rfl;have aI:=b9.W ao;obtain⟨ew,ci,aJ,cj⟩:=(V.W ao).low.shrink;have br:=ca.W ao;have ey:=cb.W ao;rw[aL eo.p 3 aI rfl,aL eo.p 2 aI rfl];refine(P8 ci br cg ch (λr a=>by obtain⟨c,f⟩:=cj r a;exact f.lt) ce).Y ?_;rintro _ ae _ ⟨ez,x,ck,ap,rfl,cl,eA,eC,fe,cm,eD⟩;have cn:∃c,ag E g bI c:=by obtain⟨aj,Z,ad,bad,am,big,an,m5,sv,f,_⟩:=jq ci;exact⟨_,f⟩
  have cq:∀r,(r=g\/ew r)->iu E r\/E.heap.size<=r:=λr a=>by
   rcases a with rfl|a
   .obtain⟨c,f⟩:=cn;exact .inl ⟨_,c,f,Φ,Φ⟩
   .obtain⟨c,f⟩:=cj r a;exact .inl ⟨_,c,f,Φ,Φ⟩
  have bs:=aI.aa ap λa=>a.elim (λhe=>b7 he) λa=>bo (aJ _ a);have st:∀{I:x6},ag I y eo [cf t,Δ k,lc,M]->b6 v8 (u6 dI (.pointer (σ ⟨y,0+3,ν⟩))) M I/\b6 v8 (u7 eo (Γ y) 3) (.pointer (σ ⟨y,0+3,ν⟩)) I/\b6 v8 (bU (Γ y)) (Γ y) I/\True:=λf=>
   ⟨tK Ψ (f.cell rfl),mw (by rw[aU eo.p rfl]),mw (by rw[b0]),trivial⟩
  refine⟨.inr (st bs),?_⟩;refine iO dI.u be.i Ω rfl rfl λff fg P fh S eE=>?_;refine⟨.inr (st (bs.W S)),?_⟩;obtain⟨L,aq,bt,bw⟩:=id ey;have eF:=aq.aa ap λr a J=>J.elim (λhe=>by
   obtain⟨c,f⟩:=cn;subst he;exact cL aq f Φ a) λJ=>(aH r a).2 (aJ r J)
  have bx:=eF.W S;refine jl dI.u be.i rfl bx (by simpa using eE.sl) (cl.W S).one Ω Ω λeH eI aV a2 eJ cr=>?_;have bz:=bs.W S;have ct:=bz.aa cr λhe=>cL bx bz Φ he;rw[b0,aU eo.p rfl];refine bu (g:=y) (o:=3) dI.i (eB a2.sl).1 (eB a2.sl).2 ct Ξ λaW cu fj bA=>?_;have bA:=bA;have fk:i<=4611686018427387904:=Ω
  rw[aO,m1 Ω Ω];have az:af (λr=>lm M r\/r=y) P aW:=(cr.Y λr _ h=>.inl h).F (cu.Y λr _ h=>.inr h);have cw:∀r,(lm M r\/r=y)->∃e c,ag P r e c/\e≠av/\e≠cp/\e≠cD/\e≠bI:=λr a=>by
   rcases a with a|rfl
   .obtain⟨rfl,c,f⟩:=dU bx a;exact⟨_,c,f,Φ,Φ,Φ,Φ⟩
   .exact⟨_,_,bz,Φ,Φ,Φ,Φ⟩
  have bB:∀r,(lm M r\/r=y)->iu P r\/P.heap.size<=r:=λr a=>by
   obtain⟨e,c,f,bC,bD,_⟩:=cw r a;exact .inl ⟨e,c,f,bC,bD⟩
  have fm:=ao.size;have fo:=ap.size;have fp:=S.size;have fq:=az.size;have cz:∀r,lm M r->r<E.heap.size:=λr a=>by obtain⟨Z,ad⟩:=aq.lw a;omega
  have aN:∀r,r<E.heap.size->¬H r->¬ck r:=λr a eK bE=>(cm r bE).elim (λh=>eK (aJ r h)) λh=>Ω
  have eL:∀r,lw lc r->r<E.heap.size:=λr a=>by obtain⟨Z,ad⟩:=bW br a;omega
  refine⟨⟨i+1,rfl,Ω,?_,eH,eI,X++[x],_,ck,bA,eQ ((eQ br ap cq).W S) az bB,⟨L++[ez],a2.aa cu λr a he=>?_,by rw[n9,n9,bt];rfl,λj cA eM aA aQ=>?_⟩,λr a=>?_,aN y aI.lt bo,λr a=>aN r (eL r a) (et r a),λr a=>?_,?_,bp.step cd rfl λq G=>eC q G,λs' U=>?_⟩,by simp only[bZ];omega⟩
  .refine (((aZ.F (ao.aa _)).F (ap.Y λr _ h=>?_)).F (S.aa _)).F (az.Y λr _ h=>?_)
   .exact h.elim (λh=>Ω) λh=>cc r (aJ r h)
   .exact h.elim (λh=>(aH r h).1) λh=>Ω
  .have he:r=y:=he;subst he;exact cL a2 ct Φ a
  .by_cases eN:j<L.length
   .rw[Y2 eN]at aA;rw[Y2 Ω]at aQ;exact(((bw j cA eM aA aQ).dV ap cq).W S).dV az bB
   .rw[Z7 Ω]at aA;rw[Z7 Ω]at aQ;have eO:j-L.length=0:=by have:=(x5.1 aA).1;simp at this;omega
    have eP:j-X.length=0:=Ω
    rw[eO]at aA;rw[eP]at aQ;cases aA;cases aQ;exact(cl.W S).dV az bB
  .rcases eJ r a with h|h
   .exact⟨(aH r h).1,aN r (cz r h) (aH r h).2⟩
   .exact⟨by have:=aZ.size;omega,λbE=>by have:=eD r bE;omega⟩
  .rcases cm r a with h|h
   .exact cc r (aJ r h)
   .have:=aZ.size;omega
  .refine (eA.W S).dV az λr a=>.inl ?_;obtain⟨e,c,f,bC,bD,eR,eS⟩:=cw r a;refine⟨e,c,f,bC,bD,eR,eS,?_⟩;rcases a with a|rfl
   .exact aN r (cz r a) (aH r a).2
   .exact aN _ aI.lt bo
  .cases bF:ds acc s with
   |none=>rw[bF]at U;cases U
   |some q=>
    obtain⟨fs,cC⟩:=q;rw[bF]at U;cases U;obtain⟨fu,eU⟩:=Qa bF;refine⟨eU ce,?_,cg,ch⟩;rw[n9];simp only[T5];omega
 .
  rw[a7];have bG:so6.bind (cX (λ_ s=>ds acc s) O.toNat [])=so.map λs=>(X,s):=by
   unfold mG at bp;rw[bp];cases so with
   |none=>rfl
   |some s=>
    rcases ev with h|rfl
    .cases h
    .simp only[V0];rfl
  have row:∀{I:x6},af (λr=>r=g) A I->qI I gr M X/\ag I y eo [cf t,Δ k,lc,M]/\aB .i64 av I gz lc acc:=λa6=>by
   obtain⟨aj,Z,ad,bad,am,big,an,m5,sv,f,_⟩:=jq V;have cE:∀r,r=g->iu A r\/A.heap.size<=r:=λr a=>by subst a;exact .inl ⟨_,_,f,Φ,Φ⟩
   obtain⟨L,aq,bt,bw⟩:=id cb;refine⟨⟨L,aq.aa a6 λr a he=>?_,bt,λi h x hi eV=>(bw i h x hi eV).dV a6 cE⟩,b9.aa a6 λhe=>b7 he,eQ ca a6 cE⟩;have he:r=g:=he;subst he;exact cL aq f Φ a
  refine c8 (λN=>af (λr=>r=g) A N/\bS N g A.heap.size H 100001 (so.bind λs=>if s.hp=[]then σ s else ν)) ?_ ?_
  rotate_left
  .intro fv cF;refine aY (λv R=>A=R/\∃b:Bool,v= .bool b/\(b=v2->∃s,so=σ s/\s.hp≠[])/\(b=v6->∀s,so=σ s->s.hp=[])) ?_ ?_
   .rintro _ _ ⟨rfl,b,rfl,bH,bJ⟩;cases b with
    |true=>
     obtain⟨s,rfl,a8⟩:=bH rfl;rw[bO];obtain⟨cG,cH,aj,aR,gs,sv,L,cI,Z,ad,bL,am,big,an,m5,cJ,ba,bb,aC,bc,cK,cM,cN,bd,cO,cQ,bf,cR,cS,cU⟩:=id V;obtain⟨⟨bM,eW⟩,_⟩:=bc.g ba bb;obtain⟨x,fw,rfl⟩:∃x l,aR=x::l:=by
      cases aR with
      |nil=>exact ro bf.symm (by simpa using a8)
      |cons x l=>exact⟨x,l,rfl⟩
     rw[aL bI.p 0 aC rfl];refine EC bM λb o eX=>?_;rw[aU cD.p rfl,aF Ψ (eX 1 _ rfl)];refine(pB V Ω).Y ?_;rintro _ bm _ ⟨eY,eZ⟩;refine cF _ ⟨eY,?_⟩;show bS bm g _ H 100001 (if s.hp=[]then σ s else ν);rw[rc a8];exact eZ
    |false=>
     rw[a7];refine cF _ ⟨af.refl _ _,?_⟩;cases so with
     |none=>exact V
     |some s=>
      show bS _ g _ H 100001 (if s.hp=[]then σ s else ν);rw[ms (bJ rfl s rfl)];exact V
   .intro fx cV;rw[mF V];cases so with
    |none=>
     rw[Q1,a7];exact cV _ _ ⟨rfl,v6,rfl,(λh=>by cases h),λ_ s J=>by cases J⟩
    |some s=>
     rw[R2,bO];obtain⟨cG,cH,aj,aR,gs,sv,L,cI,Z,ad,bL,am,big,an,m5,cJ,ba,bb,aC,bc,cK,cM,cN,bd,cO,cQ,bf,cR,cS,cU⟩:=id V;obtain⟨⟨bM,eW⟩,_⟩:=bc.g ba bb;rw[aL bI.p 0 aC rfl,EB bM,bP];have fy:aR.length=s.hp.length:=by rw[<-bf,r8]
     refine cV _ _ ⟨rfl,_,rfl,λh=>⟨s,rfl,λaS=>?_⟩,λh s' U=>?_⟩
     .have:=ty h;have cA:s.hp.length=0:=by rw[aS];rfl
      omega
     .cases U;have:=of_decide_eq_false h;exact Z2 Ω
  rintro N ⟨cW,bN⟩;refine c8 (λC=>af (λr=>r=g) A C/\bS C g A.heap.size H 100001 (so.bind λs=>if s.hp=[]/\¬0<=bad then σ s else ν)) ?_ ?_
  rotate_left
  .intro fz cY;refine aY (λv aX=>N=aX/\∃b:Bool,v= .bool b/\(b=v2->(so.bind λs=>if s.hp=[]/\¬0<=bad then σ s else ν)=ν)/\(b=v6->(so.bind λs=>if s.hp=[]/\¬0<=bad then σ s else ν)=so.bind λs=>if s.hp=[]then σ s else ν)) ?_ ?_
   .rintro _ _ ⟨rfl,b,rfl,bH,bJ⟩;cases b with
    |true=>
     rw[bO];refine(pB bN Ω).Y ?_;rintro _ b1 _ ⟨e0,e1⟩;exact cY _ ⟨cW.F e0,by rw[bH rfl];exact e1⟩
    |false=>
     rw[a7];exact cY _ ⟨cW,by rw[bJ rfl];exact bN⟩
   .intro fB cZ;rw[mF bN];cases G:(so.bind λs=>if s.hp=[]then σ s else ν)with
    |none=>
     rw[Q1,a7];refine cZ _ _ ⟨rfl,v6,rfl,(λh=>by cases h),λ_=>?_⟩;cases so with
     |none=>rfl
     |some s=>
      have G:(if s.hp=[]then σ s else ν)=ν:=G;show(if s.hp=[]/\¬0<=bad then σ s else ν)=(if s.hp=[]then σ s else ν);rw[G];split at G
      .cases G
      .rename_i a8;rw[rc (λh=>a8 h.1)]
    |some s=>
     rw[R2,bO,cP];refine cZ _ _ ⟨rfl,_,rfl,λh=>?_,λh=>?_⟩
     .have aS:=ty h;cases so with
      |none=>rfl
      |some s=>exact rc λh=>h.2 aS
     .have aS:=of_decide_eq_false h;cases so with
      |none=>rfl
      |some s=>
       show(if s.hp=[]/\¬0<=bad then σ s else ν)=(if s.hp=[]then σ s else ν);by_cases J:s.hp=[]
       .rw[ms J,ms ⟨J,aS⟩]
       .rw[rc J,rc λh=>J h.1]
  rintro C ⟨c0,bg⟩;obtain⟨e2,e3,e4⟩:=row c0;have e5:af (λr=>w0.heap.size<=r) w0 C:=aZ.F (c0.Y λr _ h=>by have h:r=g:=h;omega);have bh:=e5.W λr a he=>Ω
  rw[si bg];cases G:(so.bind λs=>if s.hp=[]/\¬0<=bad then σ s else ν)with
  |none=>
   rw[Q1,W6,bO];intro W c1 _ _;obtain⟨aj,Z,ad,bL,am,big,an,m5,sv,f,_⟩:=jq (bg.W c1);rw[aL bI.p 4 f rfl,aL bI.p 3 f rfl];refine bi _ _ X so (bh.F c1) bG (λs J au=>?_) λ_=>⟨_,_,rfl⟩;subst J;have G:(if s.hp=[]/\¬0<=bad then σ s else ν)=ν:=G;rw[ms ⟨au.1,au.2.1⟩]at G;cases G
  |some s=>
   rw[G]at bg;rw[R2,X3,a7];obtain⟨s',rfl,U⟩:∃s',so=σ s'/\(if s'.hp=[]/\¬0<=bad then σ s' else ν)=σ s:=by
    cases so with
    |none=>cases G
    |some s'=>exact⟨s',rfl,G⟩
   split at U
   .rename_i c2;cases U;obtain⟨cG,cH,aj,aR,gs,sv,L,cI,Z,ad,bL,am,big,an,m5,cJ,ba,bb,aC,bc,cK,cM,cN,bd,cO,cQ,bf,cR,cS,cU⟩:=id bg;rw[aL bI.p 5 aC rfl,bK,al];refine⟨λbR=>?_,λbR=>?_⟩
    .intro Y c3 _ _;have c4:=aC.W c3;rw[aL bI.p 6 c4 rfl,aL bI.p 5 c4 rfl];refine bi _ _ X _ (bh.F c3) bG (λcC c5 au=>?_) λ_=>⟨_,_,rfl⟩;cases c5;rw[bd.1 bR]at au;cases au.2.2
    .rw[a1 cT.u (ac.W bh)];refine bi _ _ X _ bh bG (λcC c5 au=>⟨rfl,lc,gz,M,gr,e3,e4,e2⟩) λe6=>?_;refine ro ⟨c2.1,c2.2,?_⟩ (e6 s rfl);cases f:s.big with
     |false=>rfl
     |true=>exact ro (bd.2 f) bR
   .cases U
def Zero(so:Option aK):Prop:=∀s,so=σ s->s.m5=0/\s.hp.length<=100000
def Zero.big{so:Option aK}(h:Zero so)(b:Bool):Zero (so.map (bi b)):=λs J=>by
 cases so with
 |none=>cases J
 |some s0=>cases J;exact h s0 rfl
def zero_num{lo hi:Int}{so:Option aK}(h:Zero so):Zero ((bf lo hi so).map (·.2)):=λs J=>by
 cases so with
 |none=>cases J
 |some s0=>
  have J:U8 (λx=>x.2) (bm lo hi s0)=σ s:=J;cases a:bm lo hi s0 with
  |none=>rw[a]at J;cases J
  |some q=>
   obtain⟨n,s1⟩:=q;rw[a]at J;cases J;have e:=dL a;have:=e.1;obtain⟨h1,f⟩:=h s0 rfl;exact⟨e.eqs.1.F h1,by show s1.hp.length<=100000;omega⟩
def Qe{so:Option aK}(h:Zero so):Zero ((kF so).map (·.2)):=λs J=>by
 cases so with
 |none=>cases J
 |some s0=>
  have J:U8 (λx=>x.2) (ea s0)=σ s:=J;cases a:ea s0 with
  |none=>rw[a]at J;cases J
  |some q=>
   obtain⟨n,s1⟩:=q;rw[a]at J;cases J;obtain⟨U,V⟩:=tV a;obtain⟨h1,e⟩:=h s0 rfl;have:s0.hp.length=s1.hp.length+1:=by rw[U];rfl
   exact⟨by show s1.m5=0;rw[V];exact h1,by show s1.hp.length<=100000;omega⟩
def Qf{so:Option aK}{f:ce}(h:jD ⟨(lex pl).1,0,v6,[]⟩=so.map λs=>(f,s))(a:¬65536<pl.length):gY pl=so.bind λs=>if s.hp=[]/\(lex pl).2=v2/\s.big=v6 then σ f else ν:=by
 unfold gY;rw[rc a,h]<;>cases so<;>rfl
def Qg(a:pl.length<=60000):(∀t∈(lex pl).1,Bytes t/\t.length<=65536)/\(lex pl).1.length<=60000:=by
 refine⟨λt e=>?_,X1 (rr pl.length pl (o4 _)) a⟩;obtain⟨_,f,j⟩:=tG pl.length pl (o4 _) t e;refine⟨λb h=>?_,Ω⟩;have:=ty (f b h);omega
def EM{p:x4}(ac:aM .u8 w p pl)(cr:Bytes pl)(ct:pl.length<=60000):ak v8 In [p] w (Qc w pl):=by
 obtain⟨cu,dO⟩:=Qg ct;refine az func60 ?_;rw[a1 cT.u ac,bP,al];refine⟨λh=>Ω,λ_=>?_⟩;refine(PZ ac cr Ω).Y ?_;rintro _ U _ ⟨aH,ap,be,bad,rfl,bg,bh,cw,dP,bj⟩;rw[bA,bB,a1 cT.u (ac.W aH),dk (cs:=#[ap,Δ (pl.length:Int),Δ 4,Δ 0,Δ 0,Δ 0,Δ 0,Δ 0,.slice ν 0 0]) (by obtain⟨_,_,_,_,_,rfl,_⟩:=bg;kernel_rfl)];refine bn λg V dQ aq Y=>?_;have Y:ag V g bI (iV ap (pl.length:Int) 4 0 0 0 0 0 (.slice ν 0 0)):=Y;have dR:=aH.size;have dS:=aq.size;have dT:=Y.lt;refine c8 (λC=>Ext w C/\af (λr=>r=g) V C/\∃Z ab:Int,ab≠0/\ag C g bI (iV ap Z ab 0 0 0 0 0 (.slice ν 0 0))) ?_ ?_
 rotate_left
 .intro ax S;have bl:=aH.F aq;rw[cP,al];refine⟨λ_=>?_,λ_=>S _ ⟨bl,af.refl _ _,_,_,Ω,Y⟩⟩;rw[b0,aU bI.p rfl];refine bu (g:=g) (o:=1) ai.i rfl rfl Y (by simp[iV]) λdU cz dV cA=>?_;rw[b0,aU bI.p rfl];refine bu (g:=g) (o:=2) ai.i rfl rfl cA (by simp[iV]) λdW cB dX cC=>?_;have E:=cz.F cB;exact S _ ⟨bl.then E λr j he=>by have he:r=g:=he;omega,E,bad,11,Ω,cC⟩
 rintro C ⟨bo,aI,Z,ab,cE,bp⟩;have z3:=aI.size;have cF:bS C g C.heap.size bQ 100000 (σ ⟨(lex pl).1,0,v6,[]⟩):=by
  refine⟨o4 _,C,ap,be,0,_,[],[],Z,ab,0,0,0,0,0,rfl,af.refl _ _,⟨_,bp⟩,bp,⟨⟨?_,λr j=>?_⟩,bk.nil _ _ _ _ _,rfl,λi h x hi=>by simp at hi⟩,λr j=>fi j,rfl,cE,Ξ,λ_=>rfl,trivial,bh,cu,rfl,?_⟩
  .refine (bg.aa (aq.aa λ_=>False) λ_ _ h=>h).aa aI λr j he=>?_;have he:r=g:=he;obtain⟨c,O⟩:=bj r j;have:=O.lt;omega
  .obtain⟨c,O⟩:=bj r j;exact⟨c,(O.W aq).aa aI λhe=>by have he:r=g:=he;have:=O.lt;omega⟩
  .have:be.length=(lex pl).1.length:=by rw[<-bh,r8]
   simp only[List.length_nil];omega
 have dY:∀{R:x6}{cG N:Nat}{H:ah}{so:Option aK},bS R g cG H N so->True:=λ_=>trivial;rw[dk (cs:=#[cf [],Δ 0,.slice ν 0 0,.slice ν 0 0]) Ψ];refine bn λB cH dZ aN aA=>?_;have aA:ag cH B eo [cf [],Δ 0,.slice ν 0 0,.slice ν 0 0]:=aA;have ea:C.heap.size<=B:=Ω
 have eb:=aA.lt;have cI:B≠g:=Ω
 have K:∀{R ad:x6}{c:List x4},ag R B eo c->af (λr=>r=g) R ad->ag ad B eo c:=λO E=>O.aa E λhe=>cI he;refine(ED (cF.W aN)).Y ?_;rintro _ cJ _ ⟨⟨aP,cK⟩,t,bq,rfl,ec,ed,cL⟩;refine bE cD.i λbr ee ef cM cN=>?_;refine b1 (vs:=[cf t,Δ bq]) cD.i rfl rfl (by intro v bs;simp at bs;rcases bs with rfl|rfl<;>rfl) cN λcO cQ eg bt=>?_;have aC:Ext cJ cO:=cM.put cQ Ω;have cR:=(K aA aP).W aC;rw[aJ cD.p 0 bt rfl,b0,aU eo.p rfl];refine bu (g:=B) (o:=0) db.i rfl rfl cR Ξ λbx aQ eh aR=>?_;have aR:=aR;have cS:=(cK.W aC).new aQ λr j=>by have j:r=B:=j;omega
 have z4:=aN.size;have z5:=aP.size;have ei:=aC.size;have bz:ag bx br cD [cf t,Δ bq]:=bt.aa aQ λhe=>by have he:br=B:=he;omega
 rw[aJ cD.p 0 bz rfl,pf db.u,bP,aJ cD.p 1 bz rfl];have cU:af (λr=>w.heap.size<=r) w bx:=((((bo.aa _).F (aN.aa _)).F (aP.Y λr _ h=>by have h:r=g:=h;omega)).F (aC.aa _)).F (aQ.Y λr _ h=>by have h:r=B:=h;omega);have up:∀{R ad:x6},af (λr=>w.heap.size<=r) w R->af (λr=>r=g) R ad->af (λr=>w.heap.size<=r) w ad:=λh k=>h.F (k.Y λr _ h=>by have h:r=g:=h;omega);refine(oi cS).Y ?_;rintro _ ej _ ⟨bC,ae⟩;have cV:=up cU bC;have cW:=K aR bC;generalize aS:(((kF (σ ⟨(lex pl).1,0,v6,[]⟩)).map (·.2)).map (bi (decide ((64:Int)<(t.length:Int)))))=aV at ae;refine(lU ae).Y ?_;rintro _ ek _ ⟨⟨bD,cY⟩,n,em,rfl,bF,cZ⟩;rw[bA,bB,bP];refine(oi cY).Y ?_;rintro _ en _ ⟨bG,bH⟩;have c0:=up (up cV bD) bG;have c1:=K (K cW bD) bG;generalize bJ:((bf 1 4611686018427387904 aV).map (·.2)).map (bi (decide (64<n)))=aW at bH;refine(lU bH).Y ?_;rintro _ ep _ ⟨⟨bK,bL⟩,most,er,rfl,hm,c2⟩;rw[bA,bB];generalize bM:(bf 1 4611686018427387904 aW).map (·.2)=aX at bL;refine(lU bL).Y ?_;rintro _ es _ ⟨⟨bN,c3⟩,aZ,et,rfl,bR,c4⟩;rw[bA,bB,bP];refine(oi c3).Y ?_;rintro _ eu _ ⟨bT,bU⟩;generalize bV:((bf 0 4611686018427387904 aX).map (·.2)).map (bi (decide (256<aZ)))=bW at bU;refine(lU bU).Y ?_;rintro _ ev _ ⟨⟨bX,c5⟩,k,ew,rfl,hk,ey⟩;rw[bA,bB,bP];refine(oi c5).Y ?_;rintro _ ez _ ⟨bY,b2⟩;generalize b3:((bf 1 4611686018427387904 bW).map (·.2)).map (bi (decide (2147483648<k)))=aj at b2;have c6:=up (up (up (up (up c0 bK) bN) bT) bX) bY;have c7:=K (K (K (K (K c1 bK) bN) bT) bX) bY;rw[b0,aU eo.p rfl];refine bu (g:=B) (o:=1) av.i rfl rfl c7 Ξ λda b4 eA a2=>?_;have a2:=a2;have dc:=b2.new b4 λr j=>by have j:r=B:=j;omega
 have b5:af (λr=>w.heap.size<=r) w da:=c6.F (b4.Y λr _ h=>by have h:r=B:=h;omega);have eB:0<=n/\n<=4611686018427387904:=by
  cases A:bf 1 4611686018427387904 aV with
  |none=>have:=cZ A;omega
  |some q=>have ae:=bF q A;have:=ob A;omega
 have eC:0<=most/\most<=4611686018427387904:=by
  cases A:bf 1 4611686018427387904 aW with
  |none=>have:=c2 A;omega
  |some q=>have ae:=hm q A;have:=ob A;omega
 have dd:0<=aZ/\aZ<=4611686018427387904:=by
  cases A:bf 0 4611686018427387904 aX with
  |none=>have:=c4 A;omega
  |some q=>have ae:=bR q A;have:=ob (s':=q.2) A;omega
 have de:Zero (σ (⟨(lex pl).1,0,v6,[]⟩:aK)):=λs J=>by cases J;exact⟨rfl,by simp only;omega⟩
 have df:Zero aV:=by rw[<-aS];exact(Qe de).big _
 have dg:Zero aW:=by rw[<-bJ];exact(zero_num df).big _
 have dh:Zero aX:=by rw[<-bM];exact zero_num dg
 have di:Zero bW:=by rw[<-bV];exact(zero_num dh).big _
 have b6:Zero aj:=by rw[<-b3];exact(zero_num di).big _
 have eD:=b5.size;refine⟨λa6 P=>∃i:Nat,a6=Δ (i:Int)/\i<=n.toNat/\af (λr=>w.heap.size<=r) w P/\∃lc gz acc so,ag P B eo [cf t,Δ k,lc,.slice ν 0 0]/\aB .i64 av P gz lc acc/\(∀r,lw lc r->C.heap.size<=r)/\bS P g C.heap.size bQ 100000 so/\mG (gN most) n.toNat i aj acc so/\∀s,so=σ s->s.m5=0/\acc.length+s.hp.length<=100000/\∀z∈acc,1<=z/\z<=ay,λa6 _=>n.toNat-(bZ a6).toNat,
  ⟨0,rfl,W0 _,b5,_,0,[],aj,a2,aB.nil _ _ _ _,(λr j=>by obtain⟨a,aD,c,Z,ab⟩:=j;cases Z),dc,?_,λs J=>⟨(b6 s J).1,by simpa using(b6 s J).2,λz dj=>by cases dj⟩⟩,?_⟩
 .unfold mG;cases aj<;>rfl
 rintro _ P ⟨i,rfl,hi,a8,lc,gz,acc,so,b7,b8,b9,am,ba,ca⟩;refine aY (λv dl=>P=dl/\((v= .bool v2/\i<n.toNat/\∃s,so=σ s)\/(v= .bool v6/\(so=ν\/i=n.toNat)))) ?_ ?_
 rotate_left
 .intro ax S;rw[aT,al];refine⟨λcb=>?_,λeE=>S _ _ ⟨rfl,.inr ⟨rfl,.inr Ω⟩⟩⟩;rw[mF am];cases so with
  |none=>exact S _ _ ⟨rfl,.inr ⟨rfl,.inl rfl⟩⟩
  |some s=>exact S _ _ ⟨rfl,.inl ⟨rfl,Ω,s,rfl⟩⟩
 rintro _ _ ⟨rfl,⟨rfl,cb,s,rfl⟩|⟨rfl,dm⟩⟩
 .rw[bO];obtain⟨dn,eF,dp⟩:=ca s rfl;refine(lU am).Y ?_;rintro _ eH _ ⟨⟨dq,dr⟩,z,eI,rfl,bb,eJ⟩;rw[bA,bB,bP];refine(oi dr).Y ?_;rintro _ eK _ ⟨ds,dt⟩;have aE:=dq.F ds;have cc:=K b7 aE;have du:∀r,r=g->iu P r\/P.heap.size<=r:=λr j=>(lV am r j).imp (λ⟨e,c,O,dv,dw,_⟩=>⟨e,c,O,dv,dw⟩) id;have cd:=eQ b8 aE du;rw[aL eo.p 2 cc rfl];refine eU aw.u av.i rfl λa22 eL dx eM W dy=>?_;refine jp aw.u av.i rfl (cd.W W) dy.ls Θ Θ λdz dA eN aF dC ce=>?_;have cg:=cc.W W;have ci:=cg.aa ce λhe=>ch (cd.W W) cg Φ he rfl;rw[b0,aU eo.p rfl];refine bu (g:=B) (o:=2) aw.i aF.ls.cells.1 aF.ls.cells.2 ci Ξ λdD cj eO bc=>?_;have bc:=bc;rw[aO,m1 Ω Ω];have ck:af (λr=>lw lc r\/r=B) dx dD:=(ce.Y λr _ h=>.inl h).F (cj.Y λr _ h=>.inr h);have cl:∀r,(lw lc r\/r=B)->C.heap.size<=r:=λr j=>j.elim (b9 r) λj=>Ω
  have eP:=bo.size;have eR:=aE.size;have z22:=W.size;have eS:=a8.size;have eV:=am.lt;refine⟨⟨i+1,rfl,Ω,((up a8 aE).F (W.aa _)).F (ck.Y λr _ h=>by have:=cl r h;omega),dz,dA,acc++[z],((bf 1 most (σ s)).map (·.2)).map (bi (decide (32<z))),bc,bw aF cj λr j he=>?_,λr j=>?_,(dt.W W).new ck cl,?_,λs' L=>?_⟩,by simp only[bZ];omega⟩
  .have he:r=B:=he;subst he;exact ch aF ci Φ j rfl
  .rcases dC r j with h|h
   .exact b9 r h
   .omega
  .refine ba.step cb ?_ λq A=>?_
   .show (U8 _ (bm 1 most s)).map _=_;unfold gN;cases A:bm 1 most s with
    |none=>rfl
    |some q=>
     have:=bb q A;obtain⟨cm,aG⟩:=q;subst this;rfl
   .unfold gN at A;cases M:bm 1 most s with
    |none=>rw[M]at A;cases A
    |some an=>
     rw[M]at A;have:=bb an M;obtain⟨cm,aG⟩:=an;cases A;exact this
  .cases M:bm 1 most s with
   |none=>
    have L:(U8 (λx=>x.2) (bm 1 most s)).map (bi (decide (32<z)))=σ s':=L;rw[M]at L;cases L
   |some an=>
    have L:(U8 (λx=>x.2) (bm 1 most s)).map (bi (decide (32<z)))=σ s':=L;rw[M]at L;have dE:=bb an M;obtain⟨cm,aG⟩:=an;cases L;have cn:=dL M;have ix:=(ji M).1;have eW:=cn.1;refine⟨by show aG.m5=0;rw[cn.eqs.1];exact dn,?_,λy ao=>?_⟩
    .rw[n9];show acc.length+1+aG.hp.length<=100000;omega
    .rcases j9.1 ao with ao|ao
     .exact dp y ao
     .rw[c9.1 ao,dE];exact⟨ix.1,by unfold ay;have:=ix.2;simp only at*;omega⟩
 .rw[a7];have dF:aj.bind (cX (gN most) n.toNat [])=so.map λs=>(acc,s):=by
   unfold mG at ba;rw[ba];cases so with
   |none=>rfl
   |some s=>
    rcases dm with h|rfl
    .cases h
    .simp only[V0];rfl
  refine Qd a8 b7 b8 am (λs J=>?_) Ω Ω ac dd λv I X dG bd dH dI cp=>?_
  .obtain⟨dJ,eX,a3⟩:=ca s J;exact⟨λ_=>by rw[dJ];omega,Ω,a3,Ω⟩
  .have dK:(decide ((64:Int)<(t.length:Int)))=decide (64<t.length):=by rw[U6,sp,sp];omega
   rw[dK]at aS;have dM:=Qb aS.symm (λq A=>cL q A) bJ.symm bF bM.symm hm bV.symm bR b3.symm hk dF dH;have Q:=Qf dM Ω;have cq:¬0<=bad↔(lex pl).2=v2:=by
    rw[cw];cases (lex pl).2<;>simp
   cases dG with
   |none=>
    obtain⟨aD,e,rfl⟩:=cp λs J=>by cases J
    exact⟨bd,aD,e,λ_=>rfl,λf G=>by rw[Q]at G;cases G⟩
   |some s=>
    have Q:gY pl=if s.hp=[]/\(lex pl).2=v2/\s.big=v6 then σ ⟨t,k,acc,X⟩else ν:=Q;by_cases E:s.hp=[]/\(lex pl).2=v2/\s.big=v6
    .rw[ms E]at Q;obtain⟨rfl,dN⟩:=dI s rfl ⟨E.1,cq.2 E.2.1,E.2.2⟩;exact⟨bd,_,_,(λG=>by rw[Q]at G;cases G),λf G=>⟨B,rfl,by rw[Q]at G;cases G;exact dN⟩⟩
    .rw[rc E]at Q;obtain⟨aD,e,rfl⟩:=cp λs' L au=>by
      cases L;exact E ⟨au.1,cq.1 au.2.1,au.2.2⟩
     exact⟨bd,aD,e,λ_=>rfl,λf G=>by rw[Q]at G;cases G⟩
def EN{a b:Int}:ak v8 J1 [Δ a,Δ b] w λv I=>v=Δ (min a b)/\Ext w I:=by
 refine az func209 ?_;rw[aT,al];exact⟨λh=>⟨by congr 1;omega,Ext.refl _⟩,λh=>⟨by congr 1;omega,Ext.refl _⟩⟩
def Qh{s:kh}{x:cE}(h:ii w s x)(O:(x.lines.map (·.1)).Nodup)(P:aM .i64 w aV t):ak v8 Kx [.agg (fE s).toArray,aV,Δ k] w λv I=>v=Δ (k4 x k t)/\Ext w I:=by
 obtain⟨⟨g1,Q⟩,⟨ap,R⟩,S,au,L,f,W,E⟩:=id h;refine az func259 ?_;refine bn λX U av z a=>?_;have a:ag U X be (fE s):=by
  obtain⟨_,_,_,Y⟩:=c5 Q.ls;obtain⟨_,_,_,Z⟩:=c5 R.ls;obtain⟨_,_,_,_,_,aa,_⟩:=f.sl;simp only[fE,Y,Z,aa]at a ⊢;exact a
 have ab:=f.W z;have ac:L.length=x.lines.length:=by rw[<-E,r8]
 rw[aJ be.p 2 a rfl,aJ be.p 3 a rfl,ef ep.u ab,S];refine b7.range L.length (λi j V=>Ext U V/\∃c:Int,j=Δ c/\min c k=mA x k i t) f.le ⟨Ext.refl _,x.other,rfl,(Dz x k t).symm⟩ ?_ ?_
 .rintro i _ V ad hi ⟨e,c,rfl,q⟩ ae;obtain⟨y,A⟩:=aD (l:=L) hi;obtain⟨gy,G⟩:=W y (x7 A);have B:=z.F e;have af:x.lines[i]?=σ (y.t,y.c):=by rw[<-E,u4,A];rfl
  have H:=DB (k:=k) O af t;refine bC Ω ?_;refine aY (λj J=>Ext U J/\∃c:Int,j=Δ c/\min c k=mA x k (i+1) t) ?_ ?_
  .rintro j J ah;rw[aO];exact ae _ _ ah
  intro ax K;have M:=f.W B;rw[ck rfl ep.u cp.i M hi,bz cp.p cp.i rfl (M.range A)];refine bE cp.i λaq aw ay ai aj=>?_;refine b1 (vs:=pA y) cp.i rfl rfl (yc G) aj λaA am aB N=>?_;have r:=ai.put am Ω;rw[aJ cp.p 0 N rfl];refine(yb ((G.ls.W B).W r) ((P.W B).W r)).Y ?_;rintro _ aC _ ⟨rfl,C⟩;rw[al];refine⟨λhe=>?_,λan=>?_⟩
  .rw[aJ cp.p 1 (N.W C) rfl];refine K _ _ ⟨(e.F r).F C,y.c,rfl,?_⟩;rw[H,ms he.symm]
  .refine K _ _ ⟨(e.F r).F C,c,rfl,?_⟩;rw[H,rc λhe=>an he.symm,q]
 .rintro _ V ad ⟨e,c,rfl,q⟩;rw[ac,DA]at q;refine b3 Ω ?_;refine EN.Y ?_;rintro _ aE _ ⟨rfl,ao⟩;exact⟨by rw[q],(z.F e).F ao⟩
def Qi{df:x4}(h:aM .i64 w df l)(L:l.Nodup)(ah:l.length<=64):ak v8 Kw [df] w λv I=>Ext w I/\∃g,aB .i64 ai I g v (bx l)/\∀r,lw v r->w.heap.size<=r:=by
 refine az func258 ?_;have M:∀i,i<=64->(((X9 i).map λ(v:Nat)=>(v:Int)).filter λv=>decide (v∈l)).length<=i:=λi _=>by
  have:=List.length_filter_le (λv=>decide (v∈l)) ((X9 i).map λ(v:Nat)=>(v:Int));simp at this;omega
 refine b7.range 64 (λi e U=>Ext w U/\∃g,aB .i64 ai U g e (((X9 i).map λ(v:Nat)=>(v:Int)).filter λv=>decide (v∈l))/\∀r,lw e r->w.heap.size<=r) Ω ⟨Ext.refl _,0,aB.nil _ _ _ _,λr y=>by obtain⟨a,n,c,N,aj⟩:=y;cases N⟩ ?_ ?_
 .rintro i e U k hi ⟨z,g,hm,C⟩ hk;refine bC Ω ?_;rw[a1 aw.u (h.W z)];have O:=M i Ω;generalize P:(((X9 i).map λ(v:Nat)=>(v:Int)).filter λv=>decide (v∈l))=A at hm O;refine b7.range l.length (λj e V=>Ext w V/\∃g,aB .i64 ai V g e (A++(if(i:Int)∈l.take j then[(i:Int)]else[]))/\∀r,lw e r->w.heap.size<=r) h.le ⟨z,g,by simpa using hm,C⟩ ?_ ?_
  .rintro j Q V R S ⟨q,E,f,s⟩ W;obtain⟨x,G⟩:=aD (l:=l) S;refine bC Ω ?_;refine aY (λe B=>Ext w B/\∃g,aB .i64 ai B g e (A++(if(i:Int)∈l.take (j+1)then[(i:Int)]else[]))/\∀r,lw e r->w.heap.size<=r) ?_ ?_
   .rintro am B X;rw[aO];exact W _ _ X
   intro ax K;have H:(i:Int)∈l.take (j+1)↔(i:Int)∈l.take j\/(i:Int)=x:=by
    rw[r9,G,j6,j9,c9]
   rw[bh aw.u av.i Ψ (h.W q) G,bl,al];refine⟨λhe=>?_,λY=>?_⟩
   .have Z:(i:Int)∉l.take j:=λhm=>by
     obtain⟨p,ac⟩:=X8.1 hm;have aa:p<j:=by have:=(x5.1 ac).1;rw[o8]at this;omega
     rw[Y6 aa,<-he]at ac;have:=lO L ac G;omega
    rw[rc Z,U2]at f;refine eU an.u ai.i rfl λa3 ao B ap J ab=>?_;refine jp an.u ai.i rfl (f.W J) ab.ls Θ Θ λaq ad ay ae af ag=>?_;have aA:=q.size;have z3:=J.size;refine K _ _ ⟨(q.F J).then ag λr y he=>by have:=s r he;omega,ad,?_,λr y=>(af r y).elim (s r) λh=>Ω⟩;rw[ms (H.2 (.inr he.symm))];exact ae
   .refine K _ _ ⟨q,E,?_,s⟩;have:((i:Int)∈l.take (j+1))=((i:Int)∈l.take j):=propext ⟨λau=>(H.1 au).resolve_right λhe=>Y he.symm,λau=>H.2 (.inl au)⟩;simp only[this];exact f
  .rintro Q V R ⟨q,E,f,s⟩;rw[o9]at f;refine b3 Ω ?_;rw[aO];refine hk _ _ ⟨q,E,?_,s⟩;rw[List.range_succ,Z4,List.filter_append,P];by_cases hm:(i:Int)∈l
   .rw[ms hm]at f;simpa[hm]using f
   .rw[rc hm]at f;simpa[hm]using f
 .rintro e U k ⟨z,g,hm,C⟩;rw[aT,al];exact⟨λh=>Ω,λ_=>⟨z,g,hm,C⟩⟩
structure fF where
 aS:x4
 lc:x4
 a8:x4
 sc:Λ
 cs:Λ
def dW(h:fF):List x4:=[h.aS,h.lc,h.a8]
def qJ(h:fF)(r:Nat):Prop:=lw h.a8 r\/lw h.aS r\/lw h.lc r
def gb(w:x6)(co:Λ)(h:fF):Prop:=(∃g,aB .i64 ai w g h.aS h.sc)/\(∃g,aB .i64 ai w g h.lc (bN co h.sc))/\∃g,aB .i64 av w g h.a8 h.cs
def gb.W{h:fF}(au:gb w co h)(a:Ext w I):gb I co h:=by
 obtain⟨⟨g1,h1⟩,⟨e,f⟩,j,p⟩:=au;exact⟨⟨g1,h1.W a⟩,⟨e,f.W a⟩,j,p.W a⟩
def gb.one{h:fF}(au:gb w co h):∀u∈dW h,u.oneCell'=v2:=by
 obtain⟨⟨g1,h1⟩,⟨f,a⟩,j,e⟩:=au;intro u hu;simp[dW]at hu;rcases hu with rfl|rfl|rfl
 .exact h1.ls.cells.2
 .exact a.ls.cells.2
 .exact e.ls.cells.2
def EO{f:ce}{x:cE}{ae:kh}(h:ii w ae x)(aH:fq N f)(bM:x∈f.d9)(cz:aB .i64 av w gz sv f.co):
  ak v8 JY [.agg (fE ae).toArray,sv,Δ f.k] w λv I=>Ext w I/\∃c:fF,v= .agg (dW c).toArray/\c.sc=bx x.scope/\c.cs=(jG f.co f.k x).2/\gb I f.co c/\∀r,qJ c r->w.heap.size<=r:=by
 obtain⟨ah,cA,dO⟩:=aH.d9 x bM;have bO:=uu ah aH.co.2.1;have bP:=ut bO ah.scope.1;have cB:(bx x.scope).length<=6:=by rw[bP.length_eq];exact cA
 have cC:=qz aH bM;have bR:=Dq x.scope;obtain⟨⟨g1,aI⟩,⟨dP,cD⟩,dQ,dR,cF⟩:=id h;refine az func205 ?_;refine bn λbd U dS bS aj=>?_;have aj:ag U bd be (fE ae):=by
  obtain⟨L,cG,_⟩:=cF;obtain⟨_,_,_,E⟩:=c5 aI.ls;obtain⟨_,_,_,K⟩:=c5 cD.ls;obtain⟨_,_,_,_,_,cH,_⟩:=cG.sl;simp only[fE,E,K,cH]at aj ⊢;exact aj
 refine bE a6.i λbT V dT bf bg=>?_;have bi:=bS.F bf;rw[aJ be.p 0 (aj.W bf) rfl];refine(Qi (aI.ls.W bi) ah.scope.1 Ω).Y ?_;rintro aS dU _ ⟨aK,gr,bj,cI⟩;rw[dk (cs:=#[aS,.slice ν 0 0,.slice ν 0 0]) (by obtain⟨_,_,_,rfl⟩:=c5 bj.ls;kernel_rfl)];refine bE a6.i λB dV cJ cK cL=>?_;refine b1 (vs:=[aS,.slice ν 0 0,.slice ν 0 0]) a6.i rfl rfl (by intro u hu;simp at hu;rcases hu with rfl|rfl;exact bj.ls.cells.2;rfl) cL λR cM dX Y=>?_;have aL:=cK.put cM Ω;have bU:=(bi.F aK).F aL;have S:=bj.W aL;have bk:=((aj.W bf).W aK).W aL;have bV:=(bg.W aK).W aL;have dY:=bi.size;have z3:=aK.size;have dZ:=bU.size;have ea:=Y.lt;have eb:=cJ;rw[aJ a6.p 0 Y rfl,a1 an.u S.ls];have bX:∀v∈bx x.scope,0<=v/\v<f.co.length:=λv hm=>ah.scope.2 v ((rX bO).1 hm);have bm:∀{I:x6},af (λr=>r=B\/R.heap.size<=r) R I->Ext w I:=λbo=>bU.then bo λr s he=>Ω
 have bp:(bN f.co (bx x.scope)).length=(bx x.scope).length:=by simp[bN]
 refine bY.range (bx x.scope).length (λi W=>af (λr=>r=B\/R.heap.size<=r) R W/\∃lc gs,ag W B a6 [aS,lc,.slice ν 0 0]/\aB .i64 ai W gs lc ((bN f.co (bx x.scope)).take i)/\∀r,lw lc r->R.heap.size<=r) Ω
  ⟨af.refl _ _,_,0,Y,aB.nil _ _ _ _,λr s=>by obtain⟨a,n,c,E,K⟩:=s;cases E⟩ ?_ ?_
 .rintro i W cN hi ⟨M,lc,gs,cO,am,aM⟩ cP;obtain⟨v,bq⟩:=aD (l:=(bx x.scope)) hi;have ec:=bX v (x7 bq);have cQ:=bw S M λr s J=>by
   rcases J with rfl|J
   .exact ch S Y Φ s rfl
   .obtain⟨E,K⟩:=bW S s;omega
  refine bC Ω ?_;rw[bh an.u ai.i Ψ cQ.ls bq];intro ed ap _ _;have bZ:=cO.W ap;have cR:f.co[v.toNat]?=σ (f.co.getD v.toNat 0):=by rw[u5,x8 Ω];rfl
  rw[aJ a6.p 1 bZ rfl,fP (y:=v) (i:=v.toNat) Ω aw.u av.i Ψ (cz.W ((bm M).F ap)).ls cR];refine eU an.u ai.i rfl λee ef cS eg aq cT=>?_;refine⟨.inl aq,?_⟩;have b0:=(am.W ap).W aq;refine jp an.u ai.i rfl b0 cT.ls Θ Θ λcU cV eh aN cW b2=>?_;have b4:=bZ.W aq;have b5:=b4.aa b2 λhe=>ch b0 b4 Φ he rfl;rw[aU a6.p rfl];refine bu (g:=B) (o:=1) an.i aN.ls.cells.1 aN.ls.cells.2 b5 Ξ λcX b6 ei cY=>?_;rw[aO];have cZ:af (λr=>lw lc r\/r=B) cS cX:=(b2.Y λr _ h=>.inl h).F (b6.Y λr _ h=>.inr h);have c0:=M.size;have ej:=(ap.F aq).size;refine cP _ ⟨((M.F (ap.aa _)).F (aq.aa _)).F (cZ.Y λr _ h=>h.elim (λh=>.inr (aM r h)) .inl),cU,cV,cY,?_,λr s=>(cW r s).elim (aM r) λh=>Ω⟩;have e:(bN f.co (bx x.scope)).take (i+1)=(bN f.co (bx x.scope)).take i++[f.co.getD v.toNat 0]:=by
   unfold bN;rw[<-List.map_take,<-List.map_take,r9,bq,j6,Z4];rfl
  rw[e];exact bw aN b6 λr s he=>by
   have he:r=B:=he;subst he;exact ch aN b5 Φ s rfl
 rintro W cN ⟨M,lc,gs,bs,am,aM⟩;rw[<-bp,o9]at am;refine b3 Ω ?_;have ek:=bm M;have aP:ci (bN f.co (bx x.scope)):=⟨by rw[bp];exact cB,ps aH.co.2.2 bX⟩;have c1:=cC.small;rw[aJ a6.p 1 bs rfl];refine(tO _ am.ls aP).Y ?_;rintro c2 C _ ⟨aR,b8⟩;have em:=j1 aP.2;have en:=nr aP.2;have eo:aQ (bN f.co (bx x.scope))<=4096:=c1;rw[fU ca.u b8];have aT:af (λr=>r=B\/R.heap.size<=r) R C:=M.F (aR.aa _);have ay:=bs.W aR;have b9:=am.W aR;have c0:=M.size;have ep:=aR.size;have bt:aB .i64 ai C gr aS (bx x.scope):=bw S aT λr s J=>by
  rcases J with rfl|J
  .exact ch S Y Φ s rfl
  .obtain⟨E,K⟩:=bW S s;omega
 have bA:ag C bd be (fE ae):=bk.aa aT λJ=>J.elim (λhe=>by subst he;exact ro (ft bk Y) Φ) λh=>by have:=bk.lt;omega
 have cb:=bV.aa aT λJ=>J.elim (λhe=>by have:=bg.lt;omega) λh=>by have:=bV.lt;omega
 have cc:∀{I:x6},af (λr=>r=B\/C.heap.size<=r) C I->Ext w I:=λbo=>(bm aT).then bo λr s he=>by
  have he:r=B\/C.heap.size<=r:=he;omega
 have er:B<C.heap.size:=ay.lt;refine bY.range (br (bN f.co (bx x.scope))).length (λq z=>af (λr=>r=B\/C.heap.size<=r) C z/\∃a8 aA,ag z B a6 [aS,lc,a8]/\aB .i64 av z aA a8 (((br (bN f.co (bx x.scope))).take q).map λt=>k4 x f.k (qo x.scope (bx x.scope) t))/\∀r,lw a8 r->C.heap.size<=r) Ω
  ⟨af.refl _ _,_,0,ay,aB.nil _ _ _ _,λr s=>by obtain⟨a,n,c,E,K⟩:=s;cases E⟩ ?_ ?_
 .rintro q z c3 c4 ⟨G,a8,aA,aC,aE,aW⟩ c6;obtain⟨t,aZ⟩:∃t,(br (bN f.co (bx x.scope)))[q]?=σ t:=⟨_,x8 c4⟩;have es:t.length=(bx x.scope).length:=by
   have c7:=rC aP.2 (i:=q) Ω;rw[c7]at aZ;cases aZ;rw[kw,bp]
  have bB:=cc G;have c8:ao.rep (α:=List (Λ)) v2 (eV W.heap.size) bQ z [c2] (br (bN f.co (bx x.scope))):=ao.aa b8 G λr s h J=>by
   rcases h with h|h
   .have h:W.heap.size<=r:=h;have:=bs.lt;rcases J with J|J<;>omega
   .exact h
  have Z:∀{O:Nat}{P:x4}{Q:Λ},aB .i64 ai C O P Q->aB .i64 ai z O P Q:=λhm=>bw hm G λr s J=>by
   rcases J with rfl|J
   .exact ch hm ay Φ s rfl
   .obtain⟨E,K⟩:=bW hm s;omega
  have cd:=Z bt;have cf:ag z bd be (fE ae):=bA.aa G λJ=>J.elim (λhe=>by subst he;exact ro (ft bA ay) Φ) λh=>by have:=bA.lt;omega
  refine bC Ω ?_;refine gn (α:=Λ) rfl rfl ca.u an.i Ψ c8 aZ λaV da=>?_;have db:=dl da;rw[aJ be.p 0 cf rfl,a1 aw.u (aI.ls.W bB)];have z12:=G.size;refine b7.range x.scope.length (λp H a2=>Ext z a2/\∃go,aB .i64 av a2 go H ((x.scope.take p).map λv=>t.getD ((bx x.scope).idxOf v) 0)/\∀r,lw H r->z.heap.size<=r) Ω ⟨Ext.refl _,0,aB.nil _ _ _ _,λr s=>by obtain⟨a,n,c,E,K⟩:=s;cases E⟩ ?_ ?_
  .rintro p H a2 dc ac ⟨ab,go,aF,cg⟩ dd;obtain⟨v,bD⟩:=aD (l:=x.scope) ac;have de:v∈bx x.scope:=bP.mem_iff.2 (x7 bD);refine bC Ω ?_;have df:=bB.F ab;have dg:=aC.W ab;have dh:=cd.W ab;rw[bh aw.u av.i Ψ (aI.ls.W df) bD,aJ a6.p 0 dg rfl,a1 an.u dh.ls];generalize cj:((x.scope.take p).map λv=>t.getD ((bx x.scope).idxOf v) 0)=A at aF;have et:A.length=p:=by rw[<-cj,r8,o8];omega
   refine b7.range (bx x.scope).length (λj H a7=>Ext z a7/\∃go,aB .i64 av a7 go H (A++if v∈(bx x.scope).take j then[t.getD ((bx x.scope).idxOf v) 0]else[])/\∀r,lw H r->z.heap.size<=r) Ω ⟨ab,go,by simpa using aF,cg⟩ ?_ ?_
   .rintro j di a7 dj dm ⟨X,bF,ad,aG⟩ dn;obtain⟨u,hu⟩:=aD (l:=(bx x.scope)) dm;have dp:=cd.W X;refine bC Ω ?_;refine aY (λH bG=>Ext z bG/\∃go,aB .i64 av bG go H (A++if v∈(bx x.scope).take (j+1)then[t.getD ((bx x.scope).idxOf v) 0]else[])/\∀r,lw H r->z.heap.size<=r) ?_ ?_
    .rintro eu bG dq;rw[aO];exact dn _ _ dq
    intro ax ck;have bH:v∈(bx x.scope).take (j+1)↔v∈(bx x.scope).take j\/v=u:=by
     rw[r9,hu,j6,j9,c9]
    rw[bh an.u ai.i Ψ dp.ls hu,bl,al];refine⟨λhe=>?_,λbI=>?_⟩
    .have dr:v∉(bx x.scope).take j:=λhm=>by
      obtain⟨ds,bJ⟩:=X8.1 hm;have dt:ds<j:=by have:=(x5.1 bJ).1;rw[o8]at this;omega
      rw[Y6 dt,<-he]at bJ;have:=lO bR bJ hu;omega
     rw[rc dr,U2]at ad;have du:t[j]?=σ (t.getD ((bx x.scope).idxOf v) 0):=by
      have:(bx x.scope).idxOf v=j:=rZ bR (by rw[hu,he]);rw[this,u5,x8 (show j<t.length by omega)];rfl
     rw[bh an.u ai.i Ψ (db.W X) du];refine eU aw.u av.i rfl λev ew ey ez bK dv=>?_;refine jp aw.u av.i rfl (ad.W bK) dv.ls Θ Θ λeA dw eB dx dy dz=>?_;have eC:=X.size;have eD:=bK.size;refine ck _ _ ⟨(X.F bK).then dz λr s he=>by have:=aG r he;omega,dw,?_,λr s=>(dy r s).elim (aG r) λh=>Ω⟩;rw[ms (bH.2 (.inr he.symm))];exact dx
    .refine ck _ _ ⟨X,bF,?_,aG⟩;have:(v∈(bx x.scope).take (j+1))=(v∈(bx x.scope).take j):=propext ⟨λau=>(bH.1 au).resolve_right λhe=>bI he.symm,λau=>bH.2 (.inl au)⟩;simp only[this];exact ad
   .rintro di a7 dj ⟨X,bF,ad,aG⟩;rw[o9,ms de]at ad;refine b3 Ω ?_;rw[aO];refine dd _ _ ⟨X,bF,?_,aG⟩;rw[r9,bD,j6,Z4,cj];exact ad
  .rintro H a2 dc ⟨ab,go,aF,cg⟩;rw[o9]at aF;refine b3 Ω ?_;intro eE cl _ _;have ba:=ab.F cl;have dA:=aC.W ba;have dC:=cf.W ba;rw[aJ a6.p 2 dA rfl,bz be.p be.i rfl dC.range];refine(Qh (h.W (bB.F ba)) ah.lines.1 (aF.ls.W cl)).Y ?_;rintro _ eF _ ⟨rfl,bL⟩;refine⟨.inl bL,?_⟩;refine eU aw.u av.i rfl λeH eI dD eJ cm dE=>?_;refine⟨.inl (bL.F cm),?_⟩;have bb:=(ba.F bL).F cm;have cn:=aE.W bb;refine jp aw.u av.i rfl cn dE.ls Θ Θ λdF dG eK bc dH cp=>?_;have cq:=aC.W bb;have cr:=cq.aa cp λhe=>ch cn cq Φ he rfl;rw[aU a6.p rfl];refine bu (g:=B) (o:=2) aw.i bc.ls.cells.1 bc.ls.cells.2 cr Ξ λdI ct eL dJ=>?_;rw[aO];have dK:af (λr=>lw a8 r\/r=B) dD dI:=(cp.Y λr _ h=>.inl h).F (ct.Y λr _ h=>.inr h);have eM:=bb.size;refine c6 _ ⟨(G.F (bb.aa _)).F (dK.Y λr _ h=>h.elim (λh=>.inr (aW r h)) .inl),dF,dG,dJ,?_,λr s=>(dH r s).elim (aW r) λh=>Ω⟩;rw[r9,aZ,j6,Z4];exact bw bc ct λr s he=>by
    have he:r=B:=he;subst he;exact ch bc cr Φ s rfl
 .rintro z c3 ⟨G,a8,aA,aC,aE,aW⟩;rw[o9]at aE;refine b3 Ω ?_;have Z:∀{O:Nat}{P:x4}{Q:Λ},aB .i64 ai C O P Q->aB .i64 ai z O P Q:=λhm=>bw hm G λr s J=>by
   rcases J with rfl|J
   .exact ch hm ay Φ s rfl
   .obtain⟨E,K⟩:=bW hm s;omega
  let c:fF:=⟨aS,lc,a8,bx x.scope,(jG f.co f.k x).2⟩;have dL:gb z f.co c:=⟨⟨gr,Z bt⟩,⟨gs,Z b9⟩,aA,aE⟩;rw[bz a6.p a6.i rfl (show z.rangeAt B 0 (dW c)from aC.range)];have cu:=cb.aa G λJ=>J.elim (λhe=>by have:=bg.lt;omega) λh=>by have:=cb.lt;omega
  refine b1 (vs:=dW c) a6.i rfl rfl dL.one cu λdM cw eN dN=>?_;rw[fe a6.p a6.i rfl dN.range];have aX:∀{O:Nat}{P:x4}{Q:Λ}{e:o5},e≠a6->aB .i64 e z O P Q->aB .i64 e dM O P Q:=λbI hm=>bw hm cw λr s he=>by
   have he:r=bT:=he;exact ch hm cu bI s he
  refine⟨(cc G).then cw λr s he=>by have he:r=bT:=he;have:=bS.size;omega,c,rfl,rfl,rfl,⟨⟨gr,aX Φ (Z bt)⟩,⟨gs,aX Φ (Z b9)⟩,aA,aX Φ aE⟩,λr s=>?_⟩;rcases s with s|s|s
  .have:=aW r s;omega
  .have:=cI r s;omega
  .have:=aM r s;omega
def EP{h:fF}{g:Nat}(e:gb w co h)(a:ag I g a6 (x4.agg (dW h).toArray).cells.toList):ag I g a6 (dW h):=by
 obtain⟨⟨g1,h1⟩,⟨s,f⟩,x,j⟩:=e;obtain⟨_,_,_,p⟩:=c5 h1.ls;obtain⟨_,_,_,q⟩:=c5 f.ls;obtain⟨_,_,_,r⟩:=c5 j.ls;simp only[dW,p,q,r]at a ⊢;exact a
def Qj{a b:fF}(R:gb w co a)(S:gb w co b)(Y:la a.sc)(Z:la b.sc):ak v8 AR [.agg (dW a).toArray,.agg (dW b).toArray] w λv I=>v= .bool (decide (dn a.sc<dn b.sc))/\Ext w I:=by
 obtain⟨⟨ga,W⟩,_⟩:=id R;obtain⟨⟨aw,aa⟩,_⟩:=id S;have J:=(xy Y Z).1;refine az func207 ?_;refine bn λg1 U ax ac L=>?_;refine bn λad V ay X M=>?_;have L:=(EP R L).W X;have M:=EP S M;have r:=ac.F X;have s:=W.ls.W r;have B:=aa.ls.W r;have z:∀{I:x6},Ext V I->∀{K:x4->Prop},ab v8 (u7 a6 (Γ g1) 0) I (λt=>ab v8 (u6 an t) I K)=K a.aS:=λe K=>by
  rw[aJ a6.p 0 (L.W e) rfl]
 have C:∀{I:x6},Ext V I->∀{K:x4->Prop},ab v8 (u7 a6 (Γ ad) 0) I (λt=>ab v8 (u6 an t) I K)=K b.aS:=λe K=>by
  rw[aJ a6.p 0 (M.W e) rfl]
 rw[z (Ext.refl _),a1 an.u s,C (Ext.refl _),a1 an.u B,bK,al];refine⟨λae=>?_,λaf=>?_⟩
 .rw[z (Ext.refl _),a1 an.u s,C (Ext.refl _),a1 an.u B,aT];refine⟨?_,r⟩;congr 1;rw[U6,sp,sp,J];exact⟨λh=>.inl Ω,λh=>by rcases h with h|h<;>omega⟩
 have ag:a.sc.length=b.sc.length:=by have:=X5.1 af;omega
 rw[z (Ext.refl _),a1 an.u s];refine b7.range a.sc.length (λi _ N=>Ext V N/\∀(j:Nat)(x y:Int),j<i->a.sc[j]?=σ x->b.sc[j]?=σ y->x=y) W.ls.le ⟨Ext.refl _,λj x y ah=>Ω⟩ ?_ ?_
 .rintro i _ N k hi ⟨O,E⟩ hk;obtain⟨x,e⟩:=aD (l:=a.sc) hi;obtain⟨y,G⟩:=aD (l:=b.sc) (i:=i) Ω;have f:=uF E Ω Ω;have aj:a.sc.drop i=x::a.sc.drop (i+1):=by rw[W3 hi,(x5.1 e).2]
  have am:b.sc.drop i=y::b.sc.drop (i+1):=by rw[W3 (show i<b.sc.length by omega),(x5.1 G).2]
  rw[aj,am]at f;simp only[jK]at f;refine bC Ω ?_;intro aA ao _ _;have q:=O.F ao;rw[z q,bh an.u ai.i Ψ (s.W q) e,C q,bh an.u ai.i Ψ (B.W q) G,bK,al];refine⟨λae=>?_,λhe=>?_⟩
  .intro aB ap _ _;have A:=q.F ap;rw[z A,bh an.u ai.i Ψ (s.W A) e,C A,bh an.u ai.i Ψ (B.W A) G,aT];refine⟨?_,r.F A⟩;congr 1;rw[U6,sp,sp,J,f];by_cases H:x<y
   .rw[ms H];exact⟨λ_=>.inr ⟨ag,Ω⟩,λ_=>H⟩
   .rw[rc H,ms (show y<x by omega)];exact⟨λh=>ro h H,λh=>by rcases h with h|h<;>omega⟩
  .rw[aO];refine hk _ _ ⟨q,λj aq au ah P Q=>?_⟩;by_cases av:j=i
   .subst av;rw[e]at P;rw[G]at Q;cases P;cases Q;exact X5.1 he
   .exact E j aq au Ω P Q
 .rintro _ N k ⟨O,E⟩;rw[aT,al];refine⟨λh=>Ω,λ_=>⟨?_,r.F O⟩⟩;congr 1;symm;rw[decide_eq_false_iff_not,J];have f:=uF E (o4 _) Ω;rw[List.drop_length,show b.sc.drop a.sc.length=[]from List.drop_eq_nil_of_le Ω]at f;rw[f];simp only[jK];omega
def dO(h:fF):cR:=(h.sc,h.cs)
def lW(w:x6)(B g:Nat)(v:x4)(co:Λ)(L:List fF):Prop:=bk dW 3 a6 w g v L/\(∀h∈L,gb w co h/\∀r,qJ h r->B<=r)/\(∀(i j:Nat)x y,L[i]?=σ x->L[j]?=σ y->i≠j->∀r,lw x.a8 r->¬lw y.a8 r)/\∀r,lm v r->B<=r
def oj{h:fF}(y:gb w co h)(q:af S w I)(s:∀r,S r->(∃e c,ag w r e c/\e≠ai/\e≠av)\/w.heap.size<=r\/((∃c,ag w r av c)/\¬lw h.a8 r)):gb I co h:=by
 obtain⟨⟨g1,h1⟩,⟨z,A⟩,B,j⟩:=y;have x:∀{g:Nat}{v:x4}{l:Λ},aB .i64 ai w g v l->aB .i64 ai I g v l:=λhm=>bw hm q λr a J=>by
  rcases s r J with⟨e,c,f,p,_⟩|C|⟨⟨c,f⟩,_⟩
  .exact ch hm f (λhe=>p he.symm) a rfl
  .obtain⟨E,F⟩:=bW hm a;omega
  .exact ch hm f Φ a rfl
 refine⟨⟨g1,x h1⟩,⟨z,x A⟩,B,bw j q λr a J=>?_⟩;rcases s r J with⟨e,c,f,_,p⟩|C|⟨_,G⟩
 .exact ch j f (λhe=>p he.symm) a rfl
 .obtain⟨E,F⟩:=bW j a;omega
 .exact G a
def lW.W{g:Nat}{L:List fF}(h:lW w B g v co L)(a:Ext w I):lW I B g v co L:=⟨h.1.W a,λx e=>⟨(h.2.1 x e).1.W a,(h.2.1 x e).2⟩,h.2.2⟩
section
variable{α:Type}{f:α->List x4}{k:Nat}{P:V5}{w:x6}{e:o5}{g:Nat}{v:x4}{L:List α}
def Qk{M:List α}(h:bk f k e w g v L)(j:L.map f=M.map f):bk f k e w g v M:=by
 have p:L.length=M.length:=by have:=congrArg Q2 j;simpa using this
 have hm:L.flatMap f=M.flatMap f:=by rw[List.flatMap_def,List.flatMap_def,j]
 refine⟨by rw[<-p,<-hm];exact h.1,λa q=>?_⟩;obtain⟨b,r,he⟩:=j5.1 (show f a∈L.map f by rw[j];exact j5.2 ⟨a,q,rfl⟩);rw[<-he];exact h.2 b r
def EQ{t:o5}{b l aW:Nat}{low high:Option x4}(r:P.underlying t=σ (.slice e))(hi:aR P e k b z)(h:bk f k e w g v L)(h1:nj low l)(s:nk high L.length aW)(p:l<=aW)(au:aW<=L.length)(x:∀q,(∀I,bk f k e I g v L->cg I k q ((L.drop l).take (aW-l)).length (((L.drop l).take (aW-l)).flatMap f))->K q):ab P (U4 t v low high ν) w K:=by
 have y:=h.sl;obtain⟨_,B,o,base,cap,rfl,C,_⟩:=y;rw[ip r hi h1 s fo p Ω (o4 _)];refine x _ λI j=>?_;have:=cg.part (l:=l) (h:=aW) (m:=cap) j.sl p au Ω (o4 _);rw[uh l j.2,rQ (aW-l) (λa A=>j.2 a (List.mem_of_mem_drop A))]at this;have el:((L.drop l).take (aW-l)).length=aW-l:=by rw[o8,List.length_drop];omega
 rw[el];exact this
def ye{t Q:o5}{b:Nat}{x:x4}{M:List α}{K:x4->x6->Prop}(A:P.underlying t=σ (.slice e))(hi:aR P e k b z)(G:z.cells.size=k)(h:bk f k e w g v L)(H:cg w k x M.length (M.flatMap f))(R:∀a∈M,(f a).length=k)(h1:∀a∈M,∀u∈f a,u.oneCell'=v2)(B:(L.length+M.length)*b<=140737488355328)(J:L.length+M.length<=9223372036854775807)(N:∀j p I,bk f k e I p j (L++M)->(∀r,lm j r->lm v r\/w.heap.size<=r)->af (λr=>lm v r) w I->K j I):aG P (Z9 #[t,t] Q #[v,x]) w K:=by
 have O:∀u∈M.flatMap f,u.oneCell'=v2:=λu hu=>by
  obtain⟨a,S,hu⟩:=List.mem_flatMap.1 hu;exact h1 a S u hu
 have C:∀j p I,b2 I p e k j (L.length+M.length) (L.flatMap f++M.flatMap f)->bk f k e I p j (L++M):=λj p I hm=>⟨by simpa using hm,λb B=>by
  rcases j9.1 B with aW|aW
  .exact h.2 b aW
  .exact R b aW⟩
 rcases h.1.2 with⟨q,T⟩|⟨cap,cs,q,U,_⟩
 .have hm:b2 w w.heap.size e k v L.length (L.flatMap f):=⟨h.1.1,.inl ⟨q,T⟩⟩;subst q;refine o3 A A hi G hm H O (by simpa using B) (by simpa[maxLen]using J) λj p I E s F=>N j p I (C _ _ _ s) (λr y=>.inr ?_) (F.Y λr y h=>Ω);have:=((C _ _ _ s).lw y).1;omega
 .refine o3 A A hi G h.1 H O (by simpa using B) (by simpa[maxLen]using J) λj p I E s F=>N j p I (C _ _ _ s) (λr y=>?_) (F.Y λr y h=>⟨_,_,_,q,h.symm⟩);have:=((C _ _ _ s).lw y).1;rcases E with E|E
  .exact .inl ⟨_,_,_,q,by show g=r;omega⟩
  .exact .inr Ω
def Ql{t:o5}{b:Nat}{K:x4->x6->Prop}(a:P.underlying t=σ (.slice e))(hi:aR P e k b z)(h:∀v g I,g=w.heap.size->Ext w I->bk f k e I g v []->K v I):aG P (X2 t 0 #[]) w K:=
 kZ a hi Ω (cs:=#[]) (by simp[Instr.fill]) λg I j p q=>by
  exact h _ g I j p ⟨by simpa using b2.full (n:=0) q Ξ (by simp[maxLen]),λc r=>by cases r⟩
end
def yf{α:Type}{A B:List α}{s:Nat}{a:α}(J:s<B.length)(e:A[s]?=σ a):(A.take s++B.drop s).set s a=A.take (s+1)++B.drop (s+1):=by
 have f:=(x5.1 e).1;have h1:(A.take s).length=s:=by rw[o8];omega
 rw[T4 _ _ Ω,h1,V0,W3 J,List.set_cons_zero,r9,e,j6,T6];rfl
def ER{α:Type}{A B:List α}{s:Nat}(J:s<=A.length):(A.take s++B.drop s)[s]?=B[s]?:=by
 have h1:(A.take s).length=s:=by rw[o8];omega
 rw[Z7 Ω,h1,V0,R3,Nat.add_zero]
theorem ES{g:cR}:∀{l:List cR}{i:Nat},(∀p<i,∀x,l[p]?=σ x->dn x.1<dn g.1)->i<=l.length->(∀x,l[i]?=σ x->¬dn x.1<dn g.1)->iL g l=l.take i++g::l.drop i
 |[],i,_,a,_=>by
  have:i=0:=by simpa using a
  subst this;rfl
 |x::l,0,_,_,e=>by
  unfold iL;rw[rc (e x rfl)];rfl
 |x::l,i+1,h1,a,e=>by
  unfold iL;rw[ms (h1 0 Ω x rfl),ES (λp ac y f=>h1 (p+1) Ω y f) (by simpa using a) (λy f=>e y f)];rfl
def Qm{g:Nat}{L:List fF}{h:fF}{s:Nat}{K:Unit->x6->Prop}(f:lW w B g v co L)(F:L[j]?=σ h)(J:s<h.cs.length)(X:∀I,af (λr=>lw h.a8 r) w I->(∀r,lw h.a8 r->∃c,ag w r av c)->lW I B g v co (L.set j {h with cs:=h.cs.set s n})->K () I):
  ab v8 (b8 aw h.a8 (Δ (s:Int))) w λt=>aG v8 (j0 av t (Δ n)) w K:=by
 obtain⟨h1,P,Q,Y⟩:=f;have N:=(x5.1 F).1;obtain⟨R,Z⟩:=P h (x7 F);obtain⟨_,_,S,G⟩:=id R;have H:∀r,lw h.a8 r->∃c,ag w r av c:=λr f=>by
  obtain⟨rfl,_⟩:=bW G f;obtain⟨_,⟨ad,_⟩|⟨cap,full,_,A,_⟩⟩:=G
  .obtain⟨a,n,c,e,_⟩:=f;rw[ad]at e;cases e
  .exact⟨_,A⟩
 have ae:∀r,r=S->lw h.a8 r:=λr he=>by
  subst he;obtain⟨_,⟨_,az⟩|⟨cap,full,e,A,_⟩⟩:=G
  .omega
  .exact⟨_,_,_,e,rfl⟩
 rw[jf rfl aw.u av.i G J];refine jg av.i G J λI C aA ah=>?_;have C:=C.Y λr _ he=>ae r he;refine X I C H ⟨?_,λx z=>?_,λp q x y z ai aj r ak al=>?_,Y⟩
 .refine Qk (h1.aa C λr f J=>?_) ?_
  .obtain⟨c,A⟩:=H r J;exact cL h1 A Φ f
  .rw[T2];symm;refine X0 λp=>?_;rw[Y7,u4];by_cases ac:j=p
   .subst ac;rw[ms rfl,ms (by simpa using N),F];rfl
   .rw[rc ac]
 .have am:x={h with cs:=h.cs.set s n}\/∃p,p≠j/\L[p]?=σ x:=by
   obtain⟨p,ac⟩:=X8.1 z;rw[Y7]at ac;by_cases E:j=p
   .subst E;rw[ms rfl,ms N]at ac;exact .inl (Z5 ac).symm
   .rw[rc E]at ac;exact .inr ⟨p,λh=>E h.symm,ac⟩
  rcases am with rfl|⟨p,an,ac⟩
  .obtain⟨⟨g1,U⟩,⟨ao,V⟩,_⟩:=R;refine⟨⟨⟨g1,bw U C λr f J=>?_⟩,⟨ao,bw V C λr f J=>?_⟩,S,ah⟩,Z⟩
   .obtain⟨c,A⟩:=H r J;exact ch U A Φ f rfl
   .obtain⟨c,A⟩:=H r J;exact ch V A Φ f rfl
  .obtain⟨ap,aq⟩:=P x (x7 ac);refine⟨oj ap C λr f=>.inr (.inr ⟨H r f,λO=>Q p j x h ac F an r O f⟩),aq⟩
 .have W:∀{p:Nat}{x:fF},(L.set j {h with cs:=h.cs.set s n})[p]?=σ x->∃M,L[p]?=σ M/\M.a8=x.a8:=λ{p x}z=>by
   rw[Y7]at z;by_cases E:j=p
   .subst E;rw[ms rfl,ms N]at z;cases z;exact⟨h,F,rfl⟩
   .rw[rc E]at z;exact⟨x,z,rfl⟩
  obtain⟨M,O,ex⟩:=W z;obtain⟨au,ax,ay⟩:=W ai;exact Q p q M au O ax aj r (by rw[ex];exact ak) (by rw[ay];exact al)
def mH(f:ce)(j:Nat):List cR:=(((fW f).take j).filter fV).foldl (λl g=>iL g l) []
def ET{f:ce}{x:cR}(h:(fW f)[j]?=σ x):mH f (j+1)=if fV x then iL x (mH f j)else mH f j:=by
 unfold mH;rw[r9,h,j6,List.filter_append,S2];cases J:fV x with
 |true=>rw[List.filter_cons_of_pos J];rfl
 |false=>rw[List.filter_cons_of_neg (by simp[J])];rfl
def Qn(f:ce):mH f (fW f).length=fX f:=by unfold mH fX;rw[o9]
theorem EU(g:cR):∀l,(iL g l).length=l.length+1
 |[]=>rfl
 |h::l=>by
  unfold iL;split
  .rw[Y1,EU g l,Y1]
  .rfl
def Qo{f:ce}(e:j<=(fW f).length):(mH f j).length<=j:=by
 induction j with
 |zero=>simp[mH]
 |succ j a=>
  have:=a Ω;rw[ET (x8 Ω)];split
  .rw[EU];omega
  .omega
def Qp{g:Nat}{l:x4}{f:ce}{L:List fF}{Q:x4->x6->Prop}(aB:fq N f)(A:lW w B g l f.co L)(aC:L.map dO=fW f)(bM:∀out I go z,Ext w I->bk dW 3 a6 I go out z->(∀h∈z,h∈L)->(∀h∈z,gb I f.co h)->z.map dO=fX f->(∀r,lm out r->w.heap.size<=r)->Q out I):
  ab v8 (V1 #[c0] ai #[l]) w λbN=>
 b7 (.slice ν 0 0) (Δ 0) w λout aE R bQ=>
  ab v8 (aP .lss ai v6 v6 aE bN) R λbR=>
  Split bR (cB (α:=x4->x6->Prop) (λ(bS:x4)(S:x6)=>
   ab v8 (aP .add ai v6 v2 aE (Δ 1)) S λbT=>
   bQ bS bT S) λba=>
  ab v8 (b8 c0 l aE) R λbU=>
  ab v8 (u6 a6 bU) R λbV=>
  aG v8 (Q8 a6 v2 (.tuple #[])) R λam bb=>
  aG v8 (j0 a6 am bV) bb λ(_:Unit)O=>
  ab v8 (u7 a6 am 2) O λbW=>
  ab v8 (u6 aw bW) O λbc=>
  ab v8 (V1 #[aw] ai #[bc]) O λbX=>
  b7 (.bool v6) (Δ 0) O λbd aF C b0=>
   ab v8 (aP .lss ai v6 v6 aF bX) C λb2=>
   Split b2 (cB (α:=x4->x6->Prop) (λ(b4:x4)(Y:x6)=>
    ab v8 (aP .add ai v6 v2 aF (Δ 1)) Y λb5=>
    b0 b4 b5 Y) λbe=>
   ab v8 (b8 aw bc aF) C λca=>
   ab v8 (u6 av ca) C λcc=>
   Split bd (be (.bool v2) C)
    (ab v8 (aP .gtr av v6 v2 cc (Δ 0)) C λcd=>
   be cd C))
    (ab v8 (Op.unary .not bd) C λcf=>
  Split cf (ba out C)
   (bY (Δ 0) C λi an cg=>
   cB (α:=x4->x6->Prop) (λ(ch:x4)(V:x6)=>
    Split ch (ab v8 (aP .add ai v6 v2 i (Δ 1)) V λci=>
   cg ci V)
     (en V λP=>
  ab v8 (u6 a6 am) P λcj=>
  ab v8 (U4 c0 out (σ i) ν ν) P λbf=>
  aG v8 (X2 c0 1 #[(0,cj)]) P λcl Z=>
   (Ext P Z\/b6 v8 (U4 c0 out (σ i) ν ν) bf Z/\True)/\
  aG v8 (Z9 #[c0,c0] c0 #[cl,bf]) Z λcm bg=>
   aG v8 (X2 c0 0 #[]) bg λcn ao=>
  ab v8 (U4 c0 out ν (σ i) ν) ao λcp=>
  aG v8 (Z9 #[c0,c0] c0 #[cn,cp]) ao λcq bi=>
  aG v8 (Z9 #[c0,c0] c0 #[cq,cm]) bi λcr bj=>
  ba cr bj)) λbl=>
   en an λG=>
   ab v8 (V1 #[c0] ai #[out]) G λct=>
   ab v8 (aP .lss ai v6 v6 i ct) G λcu=>
   Split cu (ab v8 (b8 c0 out i) G λcw=>
   ab v8 (u6 a6 cw) G λcz=>
   ab v8 (u6 a6 am) G λcA=>
   ak v8 AR [cz,cA] G λcC bm=>
    bl cC bm)
    (bl (.bool v6) G))))
   (Q out R):=by
 have cD:L.length=(fW f).length:=by rw[<-aC,r8]
 have di:L.length<=256:=by have:=(mz aB).2.2;have:=aB.mr;omega
 have bn:=(mz aB).1;rw[ef c0.u A.1];refine b7.range L.length (λj out U=>∃go z,Ext w U/\bk dW 3 a6 U go out z/\(∀h∈z,h∈L)/\z.map dO=mH f j/\∀r,lm out r->w.heap.size<=r) A.1.le
  ⟨0,[],Ext.refl _,bk.nil _ _ _ _ _,λh au=>(by cases au),rfl,λr A=>(fi A).elim⟩ ?_ ?_
 rotate_left
 .rintro out U cE ⟨go,z,bo,ad,K,ae,aH⟩;rw[aT,al];refine⟨λh=>Ω,λ_=>bM _ _ go z bo ad K (λh au=>((A.W bo).2.1 h (K h au)).1) ?_ aH⟩;rw[ae,cD,Qn]
 rintro j out R cE bp ⟨go,z,ap,ad,K,ae,aH⟩ cF;obtain⟨h,au⟩:=aD (l:=L) bp;have hm:(fW f)[j]?=σ (dO h):=by rw[<-aC,u4,au];rfl
 have cG:=bn _ (x7 hm);have dj:z.length<=256:=by
  have:=Qo (f:=f) (j:=j) Ω;rw[<-ae,r8]at this;omega
 have af:=A.W ap;obtain⟨aI,_⟩:=af.2.1 h (x7 au);obtain⟨_,_,dk,cH⟩:=id aI;refine bC Ω ?_;refine aY (λaK S=>∃aL ag,Ext w S/\bk dW 3 a6 S aL aK ag/\(∀h∈ag,h∈L)/\ag.map dO=mH f (j+1)/\∀r,lm aK r->w.heap.size<=r) ?_ ?_
 .rintro aK S ⟨aL,ag,h1,cI,cJ,cK,cL⟩;rw[aO];exact cF _ _ ⟨aL,ag,h1,cI,cJ,cK,cL⟩
 intro ax ah;rw[ck rfl c0.u a6.i af.1 bp,bz a6.p a6.i rfl (af.1.range au)];refine bE a6.i λbq bb dl cM cN=>?_;refine b1 (vs:=dW h) a6.i rfl rfl aI.one cN λO cO dm br=>?_;have bs:=cM.put cO Ω;have aM:=cH.W bs;rw[aJ a6.p 2 br rfl,a1 aw.u aM.ls];refine b7.range h.cs.length (λq sv C=>Ext O C/\sv= .bool ((h.cs.take q).any λc=>decide (0<c))) aM.ls.le ⟨Ext.refl _,rfl⟩ ?_ ?_
 .rintro q _ C cP cQ ⟨W,rfl⟩ cR;obtain⟨c,bt⟩:=aD (l:=h.cs) cQ;have e:(h.cs.take (q+1)).any (λc=>decide (0<c))=((h.cs.take q).any (λc=>decide (0<c))||decide (0<c)):=by
   rw[r9,bt,j6,List.any_append];simp
  refine bC Ω ?_;refine aY (λsv Y=>Ext O Y/\sv= .bool ((h.cs.take (q+1)).any λc=>decide (0<c))) ?_ ?_
  .rintro _ Y ⟨cS,rfl⟩;rw[aO];exact cR _ _ ⟨cS,rfl⟩
  intro ax ah;rw[bh aw.u av.i Ψ (aM.W W).ls bt,cb];refine⟨λcT=>ah _ _ ⟨W,by rw[e,cT];rfl⟩,λcU=>?_⟩;rw[bP];exact ah _ _ ⟨W,by rw[e,cU];rfl⟩
 rintro _ C cP ⟨W,rfl⟩;have bu:=br.W W;have M:=bs.F W;rw[o9];refine b3 Ω ?_;rw[bL,cb];have aq:=ET hm;have cV:(h.cs.any λc=>decide (0<c))=fV (dO h):=rfl;rw[cV];refine⟨λaN=>?_,λJ=>?_⟩
 .have aN:fV (dO h)=v6:=by simpa using aN
  rw[aN]at aq;exact ah _ _ ⟨go,z,ap.F M,ad.W M,K,by rw[ae,aq];rfl,aH⟩
 have J:fV (dO h)=v2:=by simpa using J
 rw[J,ms rfl]at aq;refine⟨λaQ an=>∃i:Nat,aQ=Δ (i:Int)/\i<=z.length/\Ext C an/\∀p<i,∀x,z[p]?=σ x->dn x.sc<dn h.sc,λaQ _=>z.length-(bZ aQ).toNat,⟨0,rfl,W0 _,Ext.refl _,λp ac=>Ω⟩,?_⟩;rintro _ an ⟨i,rfl,hi,cW,aR⟩;refine aY (λaV V=>Ext C V/\((aV= .bool v2/\i<z.length/\∀x,z[i]?=σ x->dn x.sc<dn h.sc)\/(aV= .bool v6/\∀x,z[i]?=σ x->¬dn x.sc<dn h.sc))) ?_ ?_
 rotate_left
 .intro dp aS;intro G cX _ _;have X:=cW.F cX;have aU:=ad.W (M.F X);rw[ef c0.u aU,aT,al];refine⟨λaR=>?_,λdq=>aS _ _ ⟨X,.inr ⟨rfl,λx s=>ro (x5.1 s).1 Ω⟩⟩⟩;obtain⟨x,s⟩:=aD (l:=z) (i:=i) Ω;have bw:=K x (x7 s);have cY:=(bn (dO x) (by rw[<-aC];exact j5.2 ⟨x,bw,rfl⟩)).scope;have bx:=af.W (M.F X);rw[ck rfl c0.u a6.i aU Ω,bz a6.p a6.i rfl (aU.range s),bz a6.p a6.i rfl (show G.rangeAt bq 0 (dW h)from(bu.W X).range)];refine(Qj (bx.2.1 x bw).1 (bx.2.1 h (x7 au)).1 cY cG.scope).Y ?_;rintro _ bm _ ⟨rfl,bA⟩;by_cases ay:dn x.sc<dn h.sc
  .rw[rs ay];exact aS _ _ ⟨X.F bA,.inl ⟨rfl,Ω,λy E=>by rw[s]at E;cases E;exact ay⟩⟩
  .rw[s2 ay];exact aS _ _ ⟨X.F bA,.inr ⟨rfl,λy E=>by rw[s]at E;cases E;exact ay⟩⟩
 rintro _ V ⟨bB,⟨rfl,dr,cZ⟩|⟨rfl,c1⟩⟩
 .rw[bO,aO,m1 Ω Ω];refine⟨⟨i+1,rfl,Ω,bB,λp ac x s=>?_⟩,by simp only[bZ];omega⟩;by_cases c2:p=i
  .subst c2;exact cZ x s
  .exact aR p Ω x s
 .rw[a7];intro P c3 _ _;have aj:=bB.F c3;have az:=ad.W (M.F aj);have c4:=af.W (M.F aj);have aW:∀x∈z,∀u∈dW x,u.oneCell'=v2:=λx s=>(c4.2.1 x (K x s)).1.one;have c5:∀u∈dW h,u.oneCell'=v2:=aI.one;rw[bz a6.p a6.i rfl (show P.rangeAt bq 0 (dW h)from(bu.W aj).range)];refine EQ c0.u a6.i az (oY i _ rfl) kY hi (o4 _) λds bD=>?_;refine iO c0.u a6.i Ω rfl rfl λdt du Z dv aX bF=>?_;refine⟨.inl aX,?_⟩;have c6:(z.drop i).take (z.length-i)=z.drop i:=b9 (by rw[List.length_drop];omega);rw[c6]at bD;refine ye c0.u a6.i rfl bF (bD Z (az.W aX)) (λ_ _=>rfl) (λa H=>aW a (List.mem_of_mem_drop H)) Θ Θ λdw dx bg aZ dy c7=>?_;have bG:=aX.then c7 λr A he=>by have:=(bF.lw he).1;omega
  refine Ql (f:=dW) (k:=3) c0.u a6.i λdz dA ao dC a2 aA=>?_;have a8:=bG.F a2;refine EQ c0.u a6.i (az.W a8) jZ (oZ i _ rfl) (W0 _) hi λdD bH=>?_;rw[List.drop_zero,Nat.sub_zero]at bH;refine ye c0.u a6.i rfl aA (bH ao (az.W a8)) (λ_ _=>rfl) (λa H=>aW a (T1 H)) Θ Θ λc8 dE bi da db bI=>?_;have dF:=bG.size;have dG:=a2.size;have dc:=(aZ.W a2).aa bI λr A J=>by have:=(aZ.lw A).1;have:=(aZ.lw A).2;have:=(aA.lw J).1;omega
  refine ye c0.u a6.i rfl da dc.sl (λ_ _=>rfl) (λa H=>?_) Θ Θ λdH dd bj de df dg=>?_
  .rcases j9.1 H with H|H
   .rw[c9.1 H];exact c5
   .exact aW a (List.mem_of_mem_drop H)
  have bJ:=a8.then bI λr A he=>by have:=(aA.lw he).1;omega
  have bK:∀r,lm c8 r->P.heap.size<=r:=λr A=>(db r A).elim (λh=>by have:=(aA.lw h).1;omega) λh=>Ω
  have dh:=bJ.then dg λr A he=>by have:=bK r he;omega
  have dI:=(ap.F (M.F aj)).size;have dJ:=bJ.size;refine ah _ _ ⟨dd,_,(ap.F (M.F aj)).F dh,de,λx s=>?_,?_,λr A=>(df r A).elim (λh=>by have:=bK r h;omega) λh=>Ω⟩
  .rcases j9.1 s with s|s
   .exact K x (T1 (by simpa using s))
   .rcases j9.1 s with s|s
    .rw[c9.1 s];exact x7 au
    .exact K x (List.mem_of_mem_drop s)
  .rw[aq,<-ae,ES (λp ac x s=>?_) (by simpa using hi) (λx s=>?_)]
   .simp
   .rw[u4]at s;cases E:z[p]? with
    |none=>rw[E]at s;cases s
    |some y=>rw[E]at s;cases s;exact aR p ac y E
   .rw[u4]at s;cases E:z[i]? with
    |none=>rw[E]at s;cases s
    |some y=>rw[E]at s;cases s;exact c1 y E
def Qq(w:x6)(f:ce)(v:x4)(I:x6):Prop:=Ext w I/\∃go a,bk dW 3 a6 I go v a/\(∀h∈a,gb I f.co h/\∀r,qJ h r->w.heap.size<=r)/\a.map dO=fX f/\∀r,lm v r->w.heap.size<=r
def mI(k:Int)(sc cs:Λ)(h:cR):cR:=if h.1=sc then(h.1,ez k h.2 cs)else h
def Qr{bI:Nat}{f:ce}(cF:pC w bI f)(Q:fq N f):ak v8 I9 [Γ bI] w (Qq w f):=by
 have hk:=Q.k;obtain⟨lc,gz,ap,gr,aW,bJ,cG⟩:=id cF;obtain⟨X,aX,cH,cI⟩:=id cG;refine az func137 ?_;rw[aL eo.p 3 aW rfl,ef dI.u aX];refine b7.range X.length (λi l U=>∃g L,Ext w U/\lW U w.heap.size g l f.co L/\L.map dO=eY f i) aX.le
  ⟨0,[],Ext.refl _,⟨bk.nil _ _ _ _ _,λh au=>(by cases au),λi j x y aZ=>(by simp at aZ),λr A=>(fi A).elim⟩,rfl⟩ ?_ ?_
 rotate_left
 .rintro l U cJ ⟨g,L,R,A,S⟩;rw[<-cH,Ea]at S;rw[aT,al];refine⟨λh=>Ω,λ_=>Qp Q A S λout I go cK aZ a2 cL W cM cN=>?_⟩;have cO:=R.size;exact⟨R.F aZ,go,cK,a2,λh au=>⟨W h au,(A.2.1 h (cL h au)).2⟩,cM,λr A=>by have:=cN r A;omega⟩
 rintro i l U cJ hi ⟨g,L,R,A,S⟩ cP;obtain⟨a7,bK⟩:=aD (l:=X) hi;obtain⟨x,ba⟩:=aD (l:=f.d9) (i:=i) Ω;have bb:=x7 ba;have bc:=cI i a7 x bK ba;have bM:=qz Q bb;obtain⟨cQ,dC,dD⟩:=D9 Q i;have bO:L.length=(eY f i).length:=by rw[<-S,r8]
 have dE:=Q.mr;have bP:=aX.W R;refine bC Ω ?_;refine aY (λl' V=>∃g L,Ext w V/\lW V w.heap.size g l' f.co L/\L.map dO=eY f (i+1)) ?_ ?_
 .rintro l' V bf;rw[aO];exact cP _ _ bf
 intro ax bQ;rw[ck rfl dI.u be.i bP hi,bz be.p be.i rfl (bP.range bK)];refine bE be.i λaq dF dG cR cS=>?_;refine b1 (vs:=fE a7) be.i rfl rfl bc.one cS λdH cT dJ cU=>?_;have bR:=cR.put cT Ω;have dK:=bR.size;refine aY (λbd ay=>∃E c,bd=Γ E/\Ext U ay/\ag ay E a6 (dW c)/\c.sc=bx x.scope/\c.cs=(jG f.co f.k x).2/\gb ay f.co c/\U.heap.size<=E/\∀r,qJ c r->U.heap.size<=r) ?_ ?_
 rotate_left
 .intro dL bS;intro cV bT _ _;have aA:=bR.F bT;have aB:=R.F aA;have cW:=cU.W bT;have bU:=aW.W aB;have dM:=aA.size;rw[bz be.p be.i rfl (show cV.rangeAt aq 0 (fE a7)from cW.range),aL eo.p 2 bU rfl,aL eo.p 1 bU rfl];refine⟨?_,?_⟩
  .refine (EO (bc.W aB) Q bb (bJ.W aB)).Y ?_;rintro _ dN _ ⟨bg,c,rfl,h1,bi,W,M⟩;refine bE a6.i λE dP bV bj aC=>?_;refine⟨.inl (bg.F bj),?_⟩;refine b1 (vs:=dW c) a6.i rfl rfl W.one aC λdQ bX dR cX=>?_;have dS:=bg.size;refine bS _ _ ⟨E,c,rfl,(aA.F bg).F (bj.then bX λr A he=>by have he:r=E:=he;omega),cX,h1,bi,?_,Ω,λr A=>by have:=M r A;omega⟩;exact oj (W.W bj) bX λr A=>.inl ⟨_,_,by have A:r=E:=A;subst A;exact aC,Φ,Φ⟩
  .refine bE a6.i λE dT bV aE aC=>?_;refine⟨.inl aE,?_⟩;have bZ:=aB.F aE;refine(EO (bc.W bZ) Q bb (bJ.W bZ)).Y ?_;rintro _ dV _ ⟨b0,c,rfl,h1,bi,W,M⟩;have b2:=aC.W b0;have dX:=aE.size;refine b1 (vs:=dW c) a6.i rfl rfl W.one b2 λdY b4 dZ cY=>?_;refine bS _ _ ⟨E,c,rfl,aA.F ((aE.F b0).then b4 λr A he=>by have he:r=E:=he;omega),cY,h1,bi,?_,Ω,λr A=>by have:=M r A;omega⟩;exact oj W b4 λr A=>.inl ⟨_,_,by have A:r=E:=A;subst A;exact b2,Φ,Φ⟩
 rintro _ ay ⟨E,c,rfl,bl,cZ,ah,aG,c1,bV,M⟩;have b5:=A.W bl;have c2:∀h∈L,∀r,lw h.a8 r->r<U.heap.size:=λh au r c3=>by
  obtain⟨⟨_,_,c4,b6⟩,_⟩:=A.2.1 h au;have:=bW b6 c3;omega
 have c5:∀{j:Nat},decide (c.sc∈(L.take j).map (·.sc))=decide (bx x.scope∈((eY f i).take j).map (·.1)):=λ{j}=>by
  rw[ah,<-S,<-List.map_take,S5];rfl
 have cO:=R.size;rw[ef c0.u b5.1];refine b7.range L.length (λj ap O=>∃C,ap= .bool (decide (c.sc∈(L.take j).map (·.sc)))/\Ext w O/\U.heap.size<=O.heap.size/\lW O w.heap.size g l f.co C/\C.map dO=((eY f i).map (mI f.k c.sc c.cs)).take j++(eY f i).drop j/\ag O E a6 (dW c)/\gb O f.co c/\∀h∈C,∀r,lw h.a8 r->r<U.heap.size) A.1.le
  ⟨L,Ξ,R.F bl,bl.size,b5,by simpa using S,cZ,c1,c2⟩ ?_ ?_
 .rintro j _ O c6 b8 ⟨C,rfl,aj,c7,aH,K,bm,bn,Y⟩ c8;have da:C.length=L.length:=by
   have:=congrArg Q2 K;simp only[r8,n9,o8,List.length_drop]at this;omega
  obtain⟨h,au⟩:=aD (l:=C) (i:=j) Ω;have aI:(eY f i)[j]?=σ (dO h):=by
   have ca:(C.map dO)[j]?=σ (dO h):=by rw[u4,au];rfl
   rw[K,ER (by rw[r8];omega)]at ca;exact ca
  have aK:((eY f i).map (mI f.k c.sc c.cs))[j]?=σ (mI f.k c.sc c.cs (dO h)):=by rw[u4,aI];rfl
  have db:∃y,L[j]?=σ y/\y.sc=h.sc:=by
   refine⟨_,x8 b8,?_⟩;rw[<-S,u4,x8 b8]at aI;exact congrArg Prod.fst (Z5 aI)
  obtain⟨y,H,dc⟩:=db;have bo:(c.sc∈(L.take (j+1)).map (·.sc))↔c.sc∈(L.take j).map (·.sc)\/h.sc=c.sc:=by
   rw[r9,H,j6,Z4,j9,List.map_singleton,c9,dc];exact or_congr Iff.rfl ⟨λe=>e.symm,λe=>e.symm⟩
  have cc:=cQ _ (x7 aI);refine bC Ω ?_;refine aY (λap P=>∃C,ap= .bool (decide (c.sc∈(L.take (j+1)).map (·.sc)))/\Ext w P/\U.heap.size<=P.heap.size/\lW P w.heap.size g l f.co C/\C.map dO=((eY f i).map (mI f.k c.sc c.cs)).take (j+1)++(eY f i).drop (j+1)/\ag P E a6 (dW c)/\gb P f.co c/\∀h∈C,∀r,lw h.a8 r->r<U.heap.size) ?_ ?_
  .rintro ea P bf;rw[aO];exact c8 _ _ bf
  intro eb cd;intro dd am _ _;have aM:=aH.W am;have cf:=bm.W am;have cg:=bn.W am;obtain⟨de,ec⟩:=aM.2.1 h (x7 au);obtain⟨⟨g1,h1⟩,_,c4,b6⟩:=id de;obtain⟨⟨ed,df⟩,_,ee,ch⟩:=id cg;rw[ck rfl c0.u a6.i aM.1 Ω,aU a6.p rfl,aF Ψ (aM.1.range au 0 _ rfl),aJ a6.p 0 cf rfl];refine(LU h1.ls df.ls).Y ?_;rintro _ eg _ ⟨rfl,ad⟩;have ci:=aM.W ad;have bp:=cf.W ad;have cj:=cg.W ad;have cl:=(aj.F am).F ad;have z9:=(am.F ad).size;rw[al];refine⟨λbq=>?_,λcm=>?_⟩
  rotate_left
  .refine cd _ _ ⟨C,?_,cl,Ω,ci,?_,bp,cj,Y⟩
   .congr 1;exact decide_eq_decide.2 ⟨λh=>bo.2 (.inl h),λh=>(bo.1 h).resolve_right cm⟩
   .have e:mI f.k c.sc c.cs (dO h)=dO h:=rc cm;rw[e]at aK;rw[<-yf Ω aK,<-K];symm;refine X0 λp=>?_;rw[Y7];by_cases ac:j=p
    .subst ac;rw[ms rfl,ms Θ,u4,au];rfl
    .rw[rc ac]
  have dg:h.cs.length=c.cs.length:=by
   have dh:h.cs.length=_:=cc.len;have di:c.cs.length=(aQ (bN f.co (jG f.co f.k x).1)).toNat:=by rw[aG];exact bM.len
   rw[dh,di,show(dO h).1=h.sc from rfl,bq,ah];rfl
  have eh:(ez f.k h.cs c.cs).length=h.cs.length:=by unfold ez;rw[List.length_zipWith];omega
  rw[aJ a6.p 2 bp rfl,a1 aw.u (ch.W ad).ls];refine bY.range c.cs.length (λs Z=>Ext w Z/\U.heap.size<=Z.heap.size/\lW Z w.heap.size g l f.co (C.set j {h with cs:=(ez f.k h.cs c.cs).take s++h.cs.drop s})/\ag Z E a6 (dW c)/\gb Z f.co c) ch.ls.le
   ⟨cl,Ω,?_,bp,cj⟩ ?_ ?_
  .have e:C.set j {h with cs:=(ez f.k h.cs c.cs).take 0++h.cs.drop 0}=C:=by
    refine X0 λp=>?_;rw[Y7];by_cases ac:j=p
    .subst ac;rw[ms rfl,ms Ω,au];rfl
    .rw[rc ac]
   rw[e];exact ci
  .rintro s Z dj J ⟨br,cn,aN,bs,bt⟩ dk;refine bC Ω ?_;intro ei an _ _;have ae:=aN.W an;have cp:=bs.W an;have cq:=bt.W an;have cr:=br.F an;have aP:(C.set j {h with cs:=(ez f.k h.cs c.cs).take s++h.cs.drop s})[j]?=σ {h with cs:=(ez f.k h.cs c.cs).take s++h.cs.drop s}:=by
    rw[Y7,ms rfl,ms Ω]
   have ct:j<(C.set j {h with cs:=(ez f.k h.cs c.cs).take s++h.cs.drop s}).length:=by rw[o7];omega
   obtain⟨⟨_,_,dl,bu⟩,dm⟩:=ae.2.1 _ (x7 aP);obtain⟨_,_,ej,dn⟩:=id cq;obtain⟨a,bw⟩:=aD (l:=h.cs) (i:=s) Ω;obtain⟨b,ao⟩:=aD (l:=c.cs) J;have dp:s<({h with cs:=(ez f.k h.cs c.cs).take s++h.cs.drop s}:fF).cs.length:=by show s<((ez f.k h.cs c.cs).take s++h.cs.drop s).length;rw[n9,o8,List.length_drop];omega
   have dq:((ez f.k h.cs c.cs).take s++h.cs.drop s)[s]?=σ a:=by rw[ER Ω];exact bw
   have bA:(ez f.k h.cs c.cs)[s]?=σ (min (a+b) f.k):=by
    unfold ez;rw[List.getElem?_zipWith,bw,ao]
   have ek:=cc.jm a (x7 bw);have em:=bM.jm b (by rw[<-aG];exact x7 ao);have dr:=aW.W cr;rw[ck rfl c0.u a6.i ae.1 ct,aU a6.p rfl,aF Ψ (ae.1.range aP 2 _ rfl),ck rfl c0.u a6.i ae.1 ct,aU a6.p rfl,aF Ψ (ae.1.range aP 2 _ rfl),bh aw.u av.i Ψ bu.ls dq,aJ a6.p 2 cp rfl,bh aw.u av.i Ψ dn.ls ao,aL eo.p 1 dr rfl];refine(nt Ω Ω).Y ?_;rintro _ en _ ⟨rfl,af⟩;refine⟨.inl af,?_⟩;have z12:=(an.F af).size;refine Qm (ae.W af) aP dp λep aR cu bB=>?_;rw[aO];have ds:=cq.W af;have cw:=cp.W af;have er:=aR.size;refine dk _ ⟨(cr.F af).then aR λr A he=>by have:=dm r (.inl he);omega,Ω,?_,?_,?_⟩
   .rw[List.set_set]at bB;have e:=yf (B:=h.cs) (s:=s) Ω bA;simp only[e]at bB;exact bB
   .exact cw.aa aR λJ=>by
     obtain⟨es,dt⟩:=cu _ J;exact ro (ft cw dt) Φ
   .refine oj ds aR λr A=>.inr (.inr ⟨cu r A,λdu=>?_⟩);have:=M r (.inl du);have:=Y h (x7 au) r A;omega
  .rintro Z dj ⟨br,cn,aN,bs,bt⟩;refine b3 Ω ?_;have e:(ez f.k h.cs c.cs).take c.cs.length++h.cs.drop c.cs.length=ez f.k h.cs c.cs:=by
    rw[<-dg,List.drop_length,U2,b9 Ω]
   simp only[e]at aN;refine cd _ _ ⟨_,?_,br,cn,aN,?_,bs,bt,λz G r A=>?_⟩
   .congr 1;symm;exact rs (bo.2 (.inr bq))
   .have dv:mI f.k c.sc c.cs (dO h)=dO {h with cs:=ez f.k h.cs c.cs}:=ms bq;rw[dv]at aK;rw[T2,K,yf Ω aK]
   .rcases W8 G with G|rfl
    .exact Y z G r A
    .exact Y h (x7 au) r A
 rintro _ O c6 ⟨C,rfl,aj,c7,aH,K,bm,bn,Y⟩;refine b3 Ω ?_;rw[c5,bO,o9,bL,cb];have cz:=xN ba;have bA:((eY f i).map (mI f.k c.sc c.cs)).take L.length++(eY f i).drop L.length=(eY f i).map (mI f.k c.sc c.cs):=by
  rw[bO,List.drop_length,U2,b9 (by rw[r8];exact o4 _)]
 rw[bA]at K;have da:C.length=L.length:=by
  have:=congrArg Q2 K;rw[r8,r8]at this;omega
 refine⟨λaS=>?_,λbD=>?_⟩
 .have aS:bx x.scope∉(eY f i).map (·.1):=by simpa using aS
  have dw:(eY f i).map (mI f.k c.sc c.cs)=eY f i:=by
   refine(List.map_congr_left λz G=>?_).F (List.map_id _);exact rc λhe=>aS (j5.2 ⟨z,G,by rw[he,ah]⟩)
  rw[dw]at K;rw[bz a6.p a6.i rfl (show O.rangeAt E 0 (dW c)from bm.range)];refine iO c0.u a6.i Ω rfl rfl λet dl P eu aV bu=>?_;have ab:=aH.W aV;have cA:=bn.W aV;refine jl c0.u a6.i rfl ab.1 (by simpa using bu.sl) cA.one Ω Ω λev dx dd a2 dy bF=>?_;have cB:∀r,lm l r->∃e c,ag P r e c/\e≠ai/\e≠av:=λr A=>by
   obtain⟨rfl,c,ao⟩:=dU ab.1 A;exact⟨_,c,ao,Φ,Φ⟩
  have ew:=aV.size;have ey:=aj.size;refine bQ _ _ ⟨dx,C++[c],(aj.F aV).then bF λr A he=>by have:=ab.2.2.2 r he;omega,⟨a2,λz G=>?_,λp q y z H G dz r bG bH=>?_,λr A=>(dy r A).elim (ab.2.2.2 r) λh=>Ω⟩,?_⟩
  .rcases j9.1 G with G|G
   .exact⟨oj (ab.2.1 z G).1 bF λr A=>.inl (cB r A),(ab.2.1 z G).2⟩
   .rw[c9.1 G];exact⟨oj cA bF λr A=>.inl (cB r A),λr A=>by have:=M r A;omega⟩
  .have cC:∀{p:Nat}{y:fF},(C++[c])[p]?=σ y->C[p]?=σ y\/(p=C.length/\y=c):=λ{p y}H=>by
    rw[List.getElem?_append]at H;split at H
    .exact .inl H
    .by_cases dA:p-C.length=0
     .rw[dA]at H;cases H;exact .inr ⟨Ω,rfl⟩
     .rw[Y5 Θ]at H;cases H
   rcases cC H with cD|⟨eA,rfl⟩<;>rcases cC G with cE|⟨eq,rfl⟩
   .exact ab.2.2.1 p q y z cD cE dz r bG bH
   .have:=Y y (x7 cD) r bG;have:=M r (.inl bH);omega
   .have:=Y z (x7 cE) r bH;have:=M r (.inl bG);omega
   .omega
  .rw[Z4,K,cz,D8 λz G he=>aS (j5.2 ⟨z,G,he⟩)];show _++[(c.sc,c.cs)]=_;rw[ah,aG];rfl
 .have bD:bx x.scope∈(eY f i).map (·.1):=by simpa using bD
  refine bQ _ _ ⟨g,C,aj,aH,?_⟩;rw[K,cz];unfold jH;rw[ms (show(jG f.co f.k x).1∈_ from bD)];refine List.map_congr_left λz _=>?_;unfold mI;rw[ah,aG];rfl
def yg(w:x6)(B:Nat)(v:x4)(n:aI):Prop:=∃lc gz a f aZ e gr L,v= .agg #[Δ n.k,lc,Δ n.zero,a,e]/\aB .i64 ai w gz lc n.co/\iS w f a aZ/\aZ.map (·.l)=n.unary/\bk dW 3 a6 w gr e L/\(∀h∈L,gb w n.co h)/\L.map dO=n.d9/\(∀r,lw lc r->B<=r)/\∀h∈L,∀r,qJ h r->B<=r
def z9:List x4:=[Δ 0,.slice ν 0 0,Δ 0,.slice ν 0 0,.slice ν 0 0]
def ol(w:x6)(C gt gs go:Nat)(lc a8:x4)(f:ce)(a:List fF)(I:x6):Prop:=Ext w I/\C<=I.heap.size/\ag I gt dY z9/\aB .i64 ai I gs lc f.co/\bk dW 3 a6 I go a8 a/\(∀r,lm a8 r->r<C)/\∀h∈a,gb I f.co h
def ol.W{V:x6}{C gt go:Nat}{a8:x4}{f:ce}{e:List fF}(h:ol w C gt gs go lc a8 f e I)(a:Ext I V):ol w C gt gs go lc a8 f e V:=by
 obtain⟨h1,z,j,p,q,r,s⟩:=h;have:=a.size;exact⟨h1.F a,Ω,j.W a,p.W a,q.W a,r,λx y=>(s x y).W a⟩
def Qs(w I:x6)(C gt:Nat)(r:Nat):Prop:=w.heap.size<=r/\r≠gt/\((∃c,ag I r dY c)\/(∃c,ag I r aw c)\/((∃c,ag I r a6 c)/\C<=r))
def ol.aa{V:x6}{C gt go:Nat}{a8:x4}{f:ce}{y:List fF}(h:ol w C gt gs go lc a8 f y I)(p:af S I V)(q:∀r,S r->Qs w I C gt r):ol w C gt gs go lc a8 f y V:=by
 obtain⟨h1,K,E,z,s,A,F⟩:=h;have:=p.size;have B:∀r,S r->∃e c,ag I r e c/\e≠ai/\e≠av:=λr j=>by
  obtain⟨_,_,⟨c,a⟩|⟨c,a⟩|⟨⟨c,a⟩,_⟩⟩:=q r j
  .exact⟨_,c,a,Φ,Φ⟩
  .exact⟨_,c,a,Φ,Φ⟩
  .exact⟨_,c,a,Φ,Φ⟩
 refine⟨h1.then p λr j J=>by have:=(q r J).1;omega,Ω,E.aa p λJ=>(q _ J).2.1 rfl,bw z p λr j J=>?_,s.aa p λr j J=>?_,A,λx G=>oj (F x G) p λr j=>.inl (B r j)⟩
 .obtain⟨e,c,a,H,_⟩:=B r J;exact ch z a (λhe=>H he.symm) j rfl
 .obtain⟨_,_,⟨c,a⟩|⟨c,a⟩|⟨_,L⟩⟩:=q r J
  .exact cL s a Φ j
  .exact cL s a Φ j
  .have:=A r j;omega
def EV(w:x6)(C f:Nat)(lc:x4)(k:Int)(n:aI)(j:List fF)(I:x6):Prop:=∃a p aZ e gr L,ag I f dY [Δ k,lc,Δ n.zero,a,e]/\iS I p a aZ/\aZ.map (·.l)=n.unary/\(∀r,lm a r->w.heap.size<=r)/\bk dW 3 a6 I gr e L/\(∀h∈L,h∈j)/\L.map dO=n.d9/\∀r,lm e r->C<=r
def EW{bT:Nat}{f:ce}(bU:pC w bT f)(Q:fq N f):ak v8 Iq [Γ bT] w λv I=>Ext w I/\yg I w.heap.size v (cK f):=by
 have hk:=Q.k;have dx:=Q.co.2.1;obtain⟨dy,dz,dA,dC,bV,bX,dD⟩:=id bU;refine az func64 ?_;refine bE dY.i λgt U dE aR aS=>?_;have aS:=aS;rw[aL eo.p 1 (bV.W aR) rfl,dk (cs:=#[Δ f.k,.slice ν 0 0,Δ 0,.slice ν 0 0,.slice ν 0 0]) Ψ];refine bE dY.i λA V dF bZ cI=>?_;refine b1 (vs:=[Δ f.k,.slice ν 0 0,Δ 0,.slice ν 0 0,.slice ν 0 0]) dY.i rfl rfl (by intro u hu;simp at hu;rcases hu with rfl|rfl|rfl|rfl<;>rfl) cI λdG b0 dH cJ=>?_;have bq:=(aR.F bZ).then b0 λr q he=>by have he:r=A:=he;have:=aR.size;omega
 have dI:=aS.lt;have E:A≠gt:=Ω
 have cM:=(aS.W bZ).aa b0 λhe=>by have he:=he;omega
 rw[aL eo.p 2 (bV.W bq) rfl,a1 aw.u (bX.W bq).ls];have dJ:=aR.size;refine bY.range f.co.length (λi W=>Ext w W/\ag W gt dY z9/\∃lc gs B H aZ,ag W A dY [Δ f.k,lc,Δ 0,B,.slice ν 0 0]/\aB .i64 ai W gs lc (f.co.take i)/\(∀r,lw lc r->w.heap.size<=r)/\iS W H B aZ/\aZ.map (·.l)=(f.co.take i).map (λz=>o6 z.toNat 0)/\∀r,lm B r->w.heap.size<=r) Ω
  ⟨bq,cM,_,0,_,0,[],cJ,aB.nil _ _ _ _,(λr q=>by obtain⟨a,n,c,cN,dK⟩:=q;cases cN),⟨bk.nil _ _ _ _ _,λx br=>(by cases br)⟩,rfl,λr q=>(fi q).elim⟩ ?_ ?_
 .rintro i W cO hi ⟨X,bs,lc,gs,B,H,aZ,aC,aT,aV,bt,aE,aW⟩ cP;obtain⟨z,C⟩:=aD (l:=f.co) hi;have dL:=Q.co.2.2 z (x7 C);have dM:aZ.length=i:=by have:=congrArg Q2 aE;simp only[r8,o8]at this;omega
  refine bC Ω ?_;rw[bh aw.u av.i Ψ (bX.W X).ls C,aJ dY.p 1 aC rfl];refine eU an.u ai.i rfl λa5 dP b4 dQ ae cQ=>?_;have aG:=aT.W ae;refine jp an.u ai.i rfl aG cQ.ls Θ Θ λb5 b6 dR aX cR b7=>?_;have bx:=aC.W ae;have b8:=bs.W ae;have b9:=bx.aa b7 λhe=>ch aG bx Φ he rfl;rw[aU dY.p rfl];refine bu (g:=A) (o:=1) an.i aX.ls.cells.1 aX.ls.cells.2 b9 Ξ λca cb dS aY=>?_;have aY:=aY;have bA:af (λr=>lw lc r\/r=A) b4 ca:=(b7.Y λr _ h=>.inl h).F (cb.Y λr _ h=>.inr h);have cS:aB .i64 ai ca b6 b5 (f.co.take (i+1)):=by
   rw[r9,C];exact bw aX cb λr q he=>by
    have he:r=A:=he;subst he;exact ch aX b9 Φ q rfl
  have ah:∀r,(lw lc r\/r=A)->∃e c,ag b4 r e c/\e≠av/\e≠aw:=λr q=>by
   rcases q with q|rfl
   .obtain⟨rfl,_⟩:=bW aG q;obtain⟨_,⟨cT,_⟩|⟨cap,full,_,s,_⟩⟩:=aG
    .obtain⟨a,n,c,e,_⟩:=q;rw[cT]at e;cases e
    .exact⟨_,_,s,Φ,Φ⟩
   .exact⟨_,_,bx,Φ,Φ⟩
  have cU:=(bt.W ae).aa bA ah;have z4:=X.size;have z5:=ae.size;have cc:=(X.F ae).then bA λr q he=>by
   rcases he with he|he
   .have:=aV r he;omega
   .omega
  have cV:=b8.aa bA λJ=>by
   rcases J with J|J
   .exact ch aG b8 Φ J rfl
   .omega
  intro dT cd _ _;have cX:=aY.W cd;rw[aJ dY.p 3 cX rfl];obtain⟨a2,rfl⟩:∃n:Nat,z=n:=⟨z.toNat,Ω⟩;refine ku aw.u av.i Ω Ω λcf dV dX bB cY=>?_;refine⟨.inl bB,?_⟩;have cZ:=aB.of (b2.full (n:=a2) cY Ξ (by simp[maxLen];omega));let a:mD:=⟨.slice (σ ⟨cf,0,ν⟩) a2 a2,o6 a2 0⟩;refine iO (f:=sa) (a:=a) cW.u aw.i Ω rfl rfl λdZ ea bD eb bF c1=>?_;refine⟨.inl (bB.F bF),?_⟩;have aj:=(cd.F bB).F bF;have aH:=cU.W aj;refine jl (f:=sa) (a:=a) cW.u aw.i rfl aH.1 (by simpa using c1.sl) (λu hu=>by rw[c9.1 (show u∈[a.v]from hu)];rfl) Ω Ω λbG bH ec K bI cg=>?_;have am:∀{r:Nat},lm B r->∃c,ag bD r aw c:=λq=>by
   obtain⟨rfl,c,s⟩:=dU aH.1 q;exact⟨c,s⟩
  have bJ:=aY.W aj;have ci:=bJ.aa cg λhe=>cL aH.1 bJ Φ he;rw[aU dY.p rfl];refine bu cW.i (eB K.sl).1 (eB K.sl).2 ci Ξ λc2 cj ed c3=>?_;rw[aO];have R:af (λr=>lm B r\/r=A) bD c2:=(cg.Y λr _ h=>.inl h).F (cj.Y λr _ h=>.inr h);have bK:∀r,(lm B r\/r=A)->∃e c,ag bD r e c/\e≠av/\e≠ai:=λr q=>by
   rcases q with q|rfl
   .obtain⟨c,s⟩:=am q;exact⟨_,c,s,Φ,Φ⟩
   .exact⟨_,_,bJ,Φ,Φ⟩
  have cl:=cS.W aj;have ee:=cc.size;have eg:=aj.size;have cm:=cV.W aj;refine cP _ ⟨(cc.F aj).then R (λr q he=>?_),cm.aa R (λJ=>?_),b5,b6,bG,bH,aZ++[a],c3,bw cl R (λr q J=>?_),λr q=>?_,⟨K.aa cj λr q he=>?_,λy M=>?_⟩,?_,λr q=>?_⟩
  .rcases he with he|rfl
   .have:=aW r he;omega
   .omega
  .rcases J with J|J
   .exact cL aH.1 cm Φ J
   .omega
  .obtain⟨e,c,s,_,E⟩:=bK r J;exact ch cl s (λhe=>E he.symm) q rfl
  .rcases cR r q with h|h
   .exact aV r h
   .omega
  .have he:r=A:=he;subst he;exact cL K ci Φ q
  .rcases j9.1 M with M|M
   .exact aH.sb R (λr q=>by obtain⟨e,c,s,E,_⟩:=bK r q;exact⟨e,c,s,E⟩) y M
   .rw[c9.1 M];have cn:=cZ.W bF;exact⟨cf,bw cn R λr q J=>by
     obtain⟨e,c,s,E,_⟩:=bK r J;exact ch cn s (λhe=>E he.symm) q rfl⟩
  .rw[Z4,aE,r9,C,j6,Z4];rfl
  .rcases bI r q with h|h
   .exact aW r h
   .omega
 rintro W cO ⟨X,bs,lc,gs,B,H,aZ,aC,aT,aV,bt,aE,aW⟩;refine b3 Ω ?_;rw[o9]at aT aE;refine(Qr (bU.W X) Q).Y ?_;rintro a8 a7 _ ⟨ao,go,O,K,cp,cq,eh⟩;have cr:O.length=(fX f).length:=by rw[<-cq,r8]
 have ei:O.length<=256:=by
  have h1:=(rY Q).2.length_eq;have ba:=(mz Q).2.2;have ej:=List.length_filter_le fV (fW f);have ek:=Q.mr;omega
 have z4:=X.size;have em:=ao.size;have en:=aC.lt;rw[ef c0.u K];refine bY.range O.length (λi ap=>ol w a7.heap.size gt gs go lc a8 f O ap/\EV w a7.heap.size A lc f.k (dN f i) O ap) K.le
  ⟨⟨X.F ao,o4 _,bs.W ao,aT.W ao,K,λr q=>by have:=K.lw q;omega,λh au=>(cp h au).1⟩,B,H,aZ,_,0,[],aC.W ao,bt.W ao,aE,aW,bk.nil _ _ _ _ _,λx br=>(by cases br),rfl,λr q=>(fi q).elim⟩ ?_ ?_
 rotate_left
 .rintro ap c4 ⟨aq,B,H,aZ,Y,gr,L,bb,bc,Z,aI,aK,ay,ab,aM⟩;obtain⟨c5,ep,ct,bL,er,es,c6⟩:=id aq;have bd:=qC f O.length;rw[cr,uM]at bd;rw[cr,uM]at bb Z ab;refine b3 Ω ?_;rw[bz dY.p dY.i rfl (show ap.rangeAt A 0 [Δ f.k,lc,Δ (cK f).zero,B,Y]from bb.range)];refine b1 (vs:=[Δ f.k,lc,Δ (cK f).zero,B,Y]) dY.i rfl rfl (λu hu=>?_) ct λet aN eu c7=>?_
  .simp at hu;rcases hu with rfl|rfl|rfl|rfl|rfl
   .rfl
   .exact bL.ls.cells.2
   .rfl
   .exact (eB bc.1.sl).2
   .exact (eB aK.sl).2
  rw[fe dY.p dY.i rfl c7.range];have ah:∀r,r=gt->∃e c,ag ap r e c/\e≠av/\e≠aw/\e≠ai/\e≠a6:=λr q=>by
   subst q;exact⟨_,_,ct,Φ,Φ,Φ,Φ⟩
  refine⟨c5.then aN λr q he=>by have he:r=gt:=he;omega,lc,gs,B,H,aZ,Y,gr,L,?_,?_,bc.aa aN (λr q=>?_),Z,aK.aa aN (λr q J=>?_),λh au=>?_,ab,aV,λh au r q=>by have:=(cp h (ay h au)).2 r q;omega⟩
  .rw[bd.1]
  .rw[bd.2.1];refine bw bL aN λr q J=>?_;obtain⟨e,c,s,_,_,E,_⟩:=ah r J;exact ch bL s (λhe=>E he.symm) q rfl
  .obtain⟨e,c,s,h1,ba,_⟩:=ah r q;exact⟨e,c,s,h1,ba⟩
  .obtain⟨e,c,s,_,_,_,E⟩:=ah r J;exact cL aK s (λhe=>E he.symm) q
  .rw[bd.2.1];exact oj (c6 h (ay h au)) aN λr q=>by
    obtain⟨e,c,s,h1,_,ba,_⟩:=ah r q;exact .inl ⟨e,c,s,ba,h1⟩
 rintro i ap c4 hi ⟨aq,B,H,aZ,Y,gr,L,bb,bc,Z,aI,aK,ay,ab,aM⟩ da;obtain⟨y,M⟩:=aD (l:=O) hi;have be:=x7 M;have cu:(fX f)[i]?=σ (dO y):=by rw[<-cq,u4,M];rfl
 have bM:=uv Q _ (x7 cu);have bO:=xP cu;obtain⟨ev,ew,ey,ez⟩:=qC f i;refine bC Ω ?_;refine c8 (λbP=>ol w a7.heap.size gt gs go lc a8 f O bP/\EV w a7.heap.size A lc f.k (dN f (i+1)) O bP) ?_ ?_
 .rintro bP h;rw[aO];exact da _ h
 intro ax bQ;rw[ck rfl c0.u a6.i aq.2.2.2.2.1 hi,bz a6.p a6.i rfl (aq.2.2.2.2.1.range M)];refine bE a6.i λdb eA eC dc dd=>?_;refine b1 (vs:=dW y) a6.i rfl rfl (aq.2.2.2.2.2.2 y be).one dd λde df eD bf=>?_;have bg:=dc.put df Ω;have bi:=aq.W bg;have ac:=bb.W bg;have bR:=bc.W bg;have bj:=aK.W bg;obtain⟨eE,eF,cw,eH,eI,eJ,cz⟩:=id bi;obtain⟨⟨eK,cA⟩,_,dg,cB⟩:=cz y be;rw[aJ a6.p 0 bf rfl,a1 an.u cA.ls];have eL:aZ.length=f.co.length:=by have:=congrArg Q2 Z;rw[r8]at this;omega
 have eM:L.length<=256:=by have:=congrArg Q2 ab;rw[r8]at this;omega
 rw[bl,al];refine⟨λeN=>?_,λeO=>?_⟩
 .
  have ad:y.sc=[]:=Z2 Ω;have G:dN f (i+1)={dN f i with zero:=y.cs.getD 0 0}:=by rw[bO];unfold kb;simp only[dO,ad]
  have eP:y.cs.length=1:=by have:=bM.len;simpa[dO,ad,bN,aQ]using this
  have dh:y.cs[0]?=σ (y.cs.getD 0 0):=by rw[u5,x8 Ω];rfl
  rw[aJ a6.p 2 bf rfl,fP (y:=0) (i:=0) rfl aw.u av.i Ψ cB.ls dh,aU dY.p rfl];refine bu av.i rfl rfl ac Ξ λdi P dj dl=>?_;refine bQ _ ⟨bi.aa P λr q=>?_,B,H,aZ,Y,gr,L,?_,bR.aa P (λr q=>?_),by rw[G];exact Z,aI,bj.aa P (λr q J=>?_),ay,by rw[G];exact ab,aM⟩
  .have q:r=A:=q;subst q;exact⟨Ω,E,.inl ⟨_,ac⟩⟩
  .rw[G];exact dl
  .have q:r=A:=q;subst q;exact⟨_,_,ac,Φ,Φ⟩
  .have J:r=A:=J;subst J;exact cL bj ac Φ q
 rw[bl,al];refine⟨λh1=>?_,λeQ=>?_⟩
 .
  obtain⟨v,ad⟩:∃v,y.sc=[v]:=V6.1 Ω;have eR:=bM.scope.1 v (by show v∈y.sc;rw[ad];exact .head _);have eS:=bM.d6 v (by show v∈y.sc;rw[ad];exact .head _);have G:dN f (i+1)={dN f i with unary:=(dN f i).unary.set v.toNat y.cs}:=by rw[bO];unfold kb;simp only[dO,ad]
  intro dm S _ _;have bS:=ac.W S;have cC:=bf.W S;have aP:=bR.W S;have dn:=bi.W S;have cD:=bj.W S;rw[aJ dY.p 3 bS rfl,aJ a6.p 0 cC rfl];refine rv rfl an.u ai.i (cA.ls.W S) (show y.sc[0]?=σ v by rw[ad];rfl) λb o dp=>?_;rw[aF Ψ dp,aJ a6.p 2 cC rfl];obtain⟨u,hu⟩:=aD (l:=aZ) (i:=v.toNat) Ω;rw[ck (i:=v.toNat) Ω cW.u aw.i aP.1 Ω];let a:mD:=⟨y.a8,y.cs⟩;have bm:=cB.W S;refine k6 (j:=0) (a:=u) (a':=a) aw.i bm.ls.cells.1 bm.ls.cells.2 aP.1 hu rfl Ω λdi P dj dq=>?_;have am:∀{r:Nat},lm B r->∃c,ag dm r aw c:=λq=>by
   obtain⟨rfl,c,s⟩:=dU aP.1 q;exact⟨c,s⟩
  refine bQ _ ⟨dn.aa P λr q=>?_,B,H,aZ.set v.toNat a,Y,gr,L,?_,⟨dq,λz C=>?_⟩,?_,aI,cD.aa P (λr q J=>?_),ay,by rw[G];exact ab,aM⟩
  .obtain⟨c,s⟩:=am q;exact⟨aI r q,λhe=>(by subst he;exact ro (ft s (cw.W S)) Φ),.inr (.inl ⟨c,s⟩)⟩
  .rw[G];exact bS.aa P λhe=>cL aP.1 bS Φ he
  .rcases W8 C with C|rfl
   .exact aP.sb P (λr q=>by obtain⟨c,s⟩:=am q;exact⟨_,c,s,Φ⟩) z C
   .exact⟨dg,bw bm P λr q J=>by
     obtain⟨c,s⟩:=am J;exact ch bm s Φ q rfl⟩
  .rw[G,T2,Z]
  .obtain⟨c,s⟩:=am J;exact cL cD s Φ q
 .
  have G:dN f (i+1)={dN f i with d9:=(dN f i).d9++[dO y]}:=by
   rw[bO];unfold kb;have cE:2<=(dO y).1.length:=by show 2<=y.sc.length;omega
   generalize dO y=g at cE ⊢;obtain⟨sc,cs⟩:=g
   match sc,cE with
   |_::_::_,_=>rfl
  rw[aJ dY.p 4 ac rfl,bz a6.p a6.i rfl (show de.rangeAt db 0 (dW y)from bf.range)];refine iO c0.u a6.i Ω rfl rfl λeV eW dr eX aA ds=>?_;have bn:=bj.W aA;have dt:=bR.W aA;have bo:=ac.W aA;have du:=bi.W aA;refine jl c0.u a6.i rfl bn (by simpa using ds.sl) (cz y be).one Ω Ω λbG bH eY bp bI cF=>?_;have cG:=bo.aa cF λhe=>cL bn bo Φ he;rw[aU dY.p rfl];refine bu c0.i (eB bp.sl).1 (eB bp.sl).2 cG Ξ λdv cH eZ dw=>?_;have R:af (λr=>lm Y r\/r=A) dr dv:=(cF.Y λr _ h=>.inl h).F (cH.Y λr _ h=>.inr h);have e0:=aA.size;refine bQ _ ⟨du.aa R λr q=>?_,B,H,aZ,bG,bH,L++[y],?_,dt.aa R (λr q=>?_),by rw[G];exact Z,aI,bp.aa cH (λr q J=>?_),λz C=>?_,?_,λr q=>?_⟩
  .rcases q with q|rfl
   .obtain⟨rfl,c,s⟩:=dU bn q;have:=aM _ q;refine⟨Ω,λhe=>?_,.inr (.inr ⟨⟨c,s⟩,this⟩)⟩;subst he;exact ro (ft s (cw.W aA)) Φ
   .exact⟨Ω,E,.inl ⟨_,bo⟩⟩
  .rw[G];exact dw
  .rcases q with q|rfl
   .obtain⟨rfl,c,s⟩:=dU bn q;exact⟨_,c,s,Φ,Φ⟩
   .exact⟨_,_,bo,Φ,Φ⟩
  .have J:r=A:=J;subst J;exact cL bp cG Φ q
  .rcases j9.1 C with C|C
   .exact ay z C
   .rw[c9.1 C];exact be
  .rw[G,Z4,ab];rfl
  .rcases bI r q with h|h
   .exact aM r h
   .omega
def sj(w:x6)(S:Nat->Prop)(e:o5):Prop:=∀r,S r->∃c,ag w r e c
def yh{k:j4}{g:Nat}(h:aB k a w g v l)(f:af S w I)(j:sj w S e)(p:a≠e):aB k a I g v l:=bw h f λr q J=>by
 obtain⟨c,s⟩:=j r J;exact ch h s p q rfl
def EX{α:Type}{f:α->List x4}{k:Nat}{g:Nat}{L:List α}(h:bk f k a w g v L)(j:af S w I)(p:sj w S e)(q:a≠e):bk f k a I g v L:=h.aa j λr s J=>by
 obtain⟨c,x⟩:=p r J;exact cL h x q s
def yi{r:Nat}{c:List x4}(h:ag w r a c)(f:af S w I)(j:sj w S e)(p:a≠e):ag I r a c:=h.aa f λJ=>by
 obtain⟨c,q⟩:=j r J;exact p (ft h q)
def EY{g:Nat}{c:List x4}(h:ag w g e c):sj w (λr=>r=g) e:=λr a=>by
 have a:r=g:=a;subst a;exact⟨c,h⟩
def Qt{k:j4}{g:Nat}(h:aB k e w g v l):sj w (λr=>lw v r) e:=λr f=>by
 have f:=f;obtain⟨rfl,_⟩:=bW h f;obtain⟨_,⟨p,_⟩|⟨cap,full,_,q,_⟩⟩:=h
 .obtain⟨a,n,c,j,_⟩:=f;rw[p]at j;cases j
 .exact⟨_,q⟩
def aC(x:bo):Λ:=((X9 x.un.length).map λv:Nat=>(v:Int)).filter λv=>!dropped x.mask v
def yj{P:V5}{k:j4}{t:o5}{b:Nat}{K:x4->x6->Prop}(a:P.underlying t=σ (.slice e))(hi:aR P e 1 b z)(f:∀v g I,g=w.heap.size->Ext w I->aB k e I g v []->K v I):aG P (X2 t 0 #[]) w K:=
 kZ a hi Ω (cs:=#[]) (by simp[Instr.fill]) λg I h j p=>f _ g I h j (aB.of (b2.full (by simpa using p) Ξ (by simp[maxLen])))
def Qu{n:aI}(h:yg w B v n){g:Nat}(j:ag I g dY v.cells.toList):∃lc gz a f aZ e gr L,ag I g dY [Δ n.k,lc,Δ n.zero,a,e]/\aB .i64 ai w gz lc n.co/\iS w f a aZ/\aZ.map (·.l)=n.unary/\bk dW 3 a6 w gr e L/\(∀h∈L,gb w n.co h)/\L.map dO=n.d9/\(∀r,lw lc r->B<=r)/\∀h∈L,∀r,qJ h r->B<=r:=by
 obtain⟨lc,gz,a,f,aZ,e,gr,L,rfl,p,q,x,s,y,z⟩:=h;obtain⟨_,_,_,A⟩:=c5 p.ls;obtain⟨_,_,_,_,_,C,_⟩:=q.1.sl;obtain⟨_,_,_,_,_,E,_⟩:=s.sl;refine⟨lc,gz,a,f,aZ,e,gr,L,?_,p,q,x,s,y,z⟩;rw[A,C,E]at j ⊢;exact j
def z12:List x4:=[Δ 0,.slice ν 0 0,Δ 0,.slice ν 0 0,.slice ν 0 0,.slice ν 0 0,.slice ν 0 0,.slice ν 0 0]
def Qv(u:Λ):aC (newVar u)=(X9 u.length).map λv:Nat=>(v:Int):=by
 unfold aC newVar dropped;rw[List.filter_eq_self.2];intro a _;simp
section
variable{P:V5}{w:x6}{t:o5}{cx cy:Bool}{a b:Nat}{K:x4->Prop}
def Qw(f:a<2 ^ 62)(h:b<2 ^ 62):ab P (aP .or t cx cy (Δ a) (Δ b)) w K=K (Δ ((a ||| b:Nat):Int)):=ab.of λI _=>by
 have e:(T8 64 (a:Int) ||| T8 64 (b:Int)).toNat=a ||| b:=by
  rw[n2,n2,BitVec.toNat_or,BitVec.toNat_ofNat,BitVec.toNat_ofNat,Nat.mod_eq_of_lt Ω,Nat.mod_eq_of_lt Ω]
 have p:a ||| b<2 ^ 62:=Nat.or_lt_two_pow f h;have hw:W5.wrap ((a ||| b:Nat):Int)=((a ||| b:Nat):Int):=m1 Ω Ω;have j:(T8 W5.bits (a:Int) ||| T8 W5.bits (b:Int)).toNat=a ||| b:=e;simp only[aP,eqGuard,binOp,Op.intBits,j,hw];rfl
def EZ(j:a<2 ^ 62)(f:b<2 ^ 62):ab P (aP .and t cx cy (Δ a) (Δ b)) w K=K (Δ ((a &&& b:Nat):Int)):=ab.of λI _=>by
 have e:(T8 64 (a:Int) &&& T8 64 (b:Int)).toNat=a &&& b:=by
  rw[n2,n2,BitVec.toNat_and,BitVec.toNat_ofNat,BitVec.toNat_ofNat,Nat.mod_eq_of_lt Ω,Nat.mod_eq_of_lt Ω]
 have p:a &&& b<2 ^ 62:=Nat.and_lt_two_pow _ f;have hw:W5.wrap ((a &&& b:Nat):Int)=((a &&& b:Nat):Int):=m1 Ω Ω;have h:(T8 W5.bits (a:Int) &&& T8 W5.bits (b:Int)).toNat=a &&& b:=e;simp only[aP,eqGuard,binOp,Op.intBits,h,hw];rfl
def Qx{k:j4}{n:Nat}(a:n<62):ab P (aP .shl t cx cy (Δ 1) (.int k (n:Int))) w K=K (Δ ((2 ^ n:Nat):Int)):=by
 rw[A4 Ω];have e:min ((n:Int).toNat) W5.bits=n:=Nat.min_eq_left (by show n<=64;omega);have f:2 ^ n<2 ^ 62:=Nat.pow_lt_pow_right Ω a;rw[e,Int.one_mul,show((2:Int) ^ n)=((2 ^ n:Nat):Int) by simp];generalize 2 ^ n=q at f ⊢;rw[m1 Ω Ω]
end
def E0(a n:Nat):(a / 2 ^ n &&& 1=1)↔a.testBit n=v2:=by
 rw[Nat.and_one_is_mod,Nat.testBit_eq_decide_div_mod_eq,sp]
def Qy{b n:Nat}{v:Int}(q:mq b n):ak v8 IR [j3 b n,Δ v] w λr I=>r= .bool (decide (0<=v/\v<n)&&b.testBit v.toNat)/\Ext w I:=by
 refine az func98 ?_;refine bn λg U A e f=>?_;refine aY (λr V=>r= .bool (decide (0<=v/\v<n)&&b.testBit v.toNat)/\Ext w V) (λ_ _ h=>h) λax j=>?_;rw[bz cc.p cc.i rfl f.range];refine B8.Y ?_;rintro _ B _ ⟨rfl,a⟩;rw[al];refine⟨λh=>?_,λh=>j _ _ ⟨by rw[s2 h];rfl,e.F a⟩⟩;obtain⟨x,C⟩:=q;obtain⟨s,rfl⟩:∃s:Nat,v=s:=⟨v.toNat,Ω⟩;have y:=f.W a;have E:(2:Nat) ^ n<=2 ^ 32:=S4 Ω x;have z:b / 2 ^ s<2 ^ 64:=Nat.lt_of_le_of_lt (Nat.div_le_self _ _) Ω;rw[aJ cc.p 0 y rfl,mp Ω,show(1:Int)=((1:Nat):Int)from rfl,u64_and z Ω,bl];refine j _ _ ⟨?_,e.F a⟩;congr 1;rw[rs h,Q4,U6,sp,u9,<-E0];omega
def Qz(m v:Nat):dropped (m:Int) (v:Int)=m.testBit v:=by unfold dropped;rw[u9,u9]
def bG(w:x6)(ad ae:Nat)(A R:ah)(n:aI)(s:am)(t:aA):Prop:=StateM w ad ae A R n s t/\t.b5=s.cells/\od t/\bc n.k n.co s/\lb n
def bG.W{A R:ah}{n:aI}{s:am}{t:aA}(h:bG w ad ae A R n s t)(a:Ext w I):bG I ad ae A R n s t:=⟨h.1.W a,h.2⟩
def StateM.parts{A R:ah}{n:aI}{s:am}{t:aA}(h:StateM w ad ae A R n s t):∃a e f j bd p L q,ag w ad cU [Γ a,Γ ae,e,f,j]/\gB w a n/\dC w ae q t/\aB .i64 ai w bd e (jM s)/\bk qF 3 gj w p f L/\mE R w L s:=by
 obtain⟨a,e,f,j,_,bd,p,ge,L,E,q,w0,r,⟨x,y,G⟩,⟨z,H,I,J⟩,B,⟨C,F⟩,K,M⟩:=h;exact⟨a,e,f,j,bd,p,L,q,r,x.W y,z,B,C,F⟩
def uW{s:am}{i:Nat}(h:i<s.d6.length):(jM s)[i]?=σ (ie s i:Int):=by
 unfold jM;rw[u4,List.getElem?_range h];rfl
def uX{s:am}{t:aA}(a:t.b5=s.cells)(J:od t):s.cells.length<=100000000:=by
 rw[<-a];unfold aA.b5;rw[r8];exact J.1
def uY{s:am}{i:Nat}{x:bo}(h:s.d6[i]?=σ x):ie s i+x.un.length+2<=s.cells.length:=by
 have h1:=sf h (j:=x.un.length+1) Ω;have a:(iT x)[x.un.length+1]? ≠ν:=by
  rw[Ne,List.getElem?_eq_none_iff];show¬(x.un.length+1+1<=x.un.length+1);omega
 rw[<-h1]at a;have:=(x5.1 (Option.ne_none_iff_exists'.1 a).choose_spec).1;omega
def E1{s:am}{f:cm}(h:s.d9[j]?=σ f):fu s j+f.cs.length+1<=s.cells.length:=by
 have h1:=xS h (j:=f.cs.length) Ω;have a:(jn f)[f.cs.length]? ≠ν:=by
  rw[Ne,List.getElem?_eq_none_iff];show¬(f.cs.length+1<=f.cs.length);omega
 rw[<-h1]at a;have:=(x5.1 (Option.ne_none_iff_exists'.1 a).choose_spec).1;omega
section
variable{w:x6}{ad ae:Nat}{A R:ah}{n:aI}{s:am}{t:aA}
def E2(h:bG w ad ae A R n s t):ak v8 IM [Γ ad] w λv I=>(∃a,v=Γ a/\gB I a n)/\Ext w I:=by
 obtain⟨a,j,q,r,bd,x,L,y,e,f,z,B,C,E⟩:=h.1.parts;refine az func93 ?_;rw[di eF.u];simp only[Y0,a7];rw[aL cU.p 0 e rfl];exact⟨⟨a,rfl,f⟩,Ext.refl _⟩
def E3(h:bG w ad ae A R n s t):ak v8 Ic [Γ ad] w λv I=>v=Δ (n.co.length:Int)/\Ext w I:=by
 refine az func46 ?_;refine(E2 h).Y ?_;rintro _ U _ ⟨⟨j,rfl,a⟩,e⟩;refine(xU a).Y ?_;rintro _ V _ ⟨rfl,f⟩;exact⟨rfl,e.F f⟩
def om(h:bG w ad ae A R n s t):ak v8 Jo [Γ ad] w λv I=>v=Δ n.k/\Ext w I:=by
 refine az func155 ?_;refine(E2 h).Y ?_;rintro _ U _ ⟨⟨j,rfl,a⟩,e⟩;refine(PG a).Y ?_;rintro _ V _ ⟨rfl,f⟩;exact⟨rfl,e.F f⟩
def yk{i:Int}(h:bG w ad ae A R n s t):ak v8 Ir [Γ ad,Δ i] w λv I=>v= .bool (decide (0<=i/\i<n.co.length))/\Ext w I:=by
 refine az func65 ?_;refine aY (λv U=>v= .bool (decide (0<=i/\i<n.co.length))/\Ext w U) (λ_ _ h=>h) λax a=>?_;rw[cP,al];refine⟨λe=>?_,λe=>a _ _ ⟨by rw[s2 Ω],Ext.refl _⟩⟩;refine(E3 h).Y ?_;rintro _ U _ ⟨rfl,f⟩;rw[aT];refine a _ _ ⟨?_,f⟩;congr 1;exact decide_eq_decide.2 ⟨λh=>⟨e,h⟩,λh=>h.2⟩
def sk(h:bG w ad ae A R n s t):ak v8 HU [Γ ad] w λv I=>v=Δ s.zero/\Ext w I:=by
 obtain⟨j,q,r,x,bd,y,L,z,a,B,e,C,E,G⟩:=h.1.parts;refine az func13 ?_;rw[di eF.u];simp only[Y0,a7];rw[aL cU.p 1 a rfl];refine(pw e rfl (show t.b5[0]?=σ s.zero by rw[h.2.1];exact PB s)).Y ?_;rintro _ U _ ⟨rfl,f⟩;exact⟨rfl,f⟩
def qK(h:bG w ad ae A R n s t):ak v8 HW [Γ ad] w λv I=>v=Δ (s.d9.length:Int)/\Ext w I:=by
 obtain⟨j,q,r,x,bd,y,L,z,a,B,C,E,e,f⟩:=h.1.parts;refine az func15 ?_;rw[di eF.u];simp only[Y0,a7];rw[aL cU.p 3 a rfl,ef gi.u e];exact⟨by rw[f.1],Ext.refl _⟩
def dD(s:am)(i:Nat):Bool:=match s.d6[i]? with
 |some x=>decide (x.gone≠0)
 |none=>v6
def uZ{i:Int}(h:bG w ad ae A R n s t):ak v8 Ie [Γ ad,Δ i] w λv I=>v= .bool (decide (0<=i)&&dD s i.toNat)/\Ext w I:=by
 refine az func48 ?_;refine aY (λv U=>v= .bool (decide (0<=i)&&dD s i.toNat)/\Ext w U) (λ_ _ h=>h) λax e=>?_;intro V f _ _;refine(yk (h.W f)).Y ?_;rintro _ J _ ⟨rfl,r⟩;have a:=f.F r;have K:=h.2.2.2.1.d6;rw[al];refine⟨λz=>?_,λM=>e _ _ ⟨?_,a⟩⟩
 .obtain⟨N,O,P,Q,bd,S,L,W,j,X,B,C,Y,Z⟩:=(h.W a).1.parts;obtain⟨x,q⟩:=aD (l:=s.d6) (i:=i.toNat) Ω;rw[aL cU.p 1 j rfl,aL cU.p 2 j rfl,fP (y:=i) (i:=i.toNat) Ω an.u ai.i Ψ C.ls (uW Ω)];have E:t.b5[ie s i.toNat+0]?=σ x.gone:=by rw[h.2.1,sf q Ω];rfl
  refine(pw B rfl E).Y ?_;rintro _ aa _ ⟨rfl,G⟩;rw[bK];refine e _ _ ⟨?_,a.F G⟩;rw[rs z.1,Q4];unfold dD;rw[q]
 .by_cases H:0<=i
  .unfold dD;rw[Y5 Ω,Bool.and_false]
  .rw[s2 H];rfl
def ew(n:aI)(i v:Int):Prop:=0<=i/\i<n.co.length/\0<=v/\v<n.co.getD i.toNat 0
instance (n:aI) (i v:Int):Decidable (ew n i v):=inferInstanceAs (Decidable (_/\_))
def ew.var{i v:Int}(h:ew n i v)(a:bc n.k n.co s):∃x,s.d6[i.toNat]?=σ x/\v.toNat<x.un.length/\x.un.length<=32/\n.co.getD i.toNat 0=x.un.length:=by
 obtain⟨h1,p,q,j⟩:=h;have r:=a.d6;obtain⟨x,f⟩:=aD (l:=s.d6) (i:=i.toNat) Ω;obtain⟨z,e⟩:=aD (l:=n.co) (i:=i.toNat) Ω;have w:=a.ev.2.2 z (x7 e);have y:=(a.var i.toNat x z f e).1;rw[u5,e,W7]at j ⊢;exact⟨x,f,Ω,Ω,Ω⟩
def yl{i v:Int}(h:bG w ad ae A R n s t):ak v8 II [Γ ad,Δ i,Δ v] w λr I=>r=Δ (if ew n i v then((ie s i.toNat+2+v.toNat:Nat):Int)else-1)/\Ext w I:=by
 have ab:=h.2.2.2.1.d6;refine az func85 ?_;refine aY (λr U=>r= .bool (decide (¬ew n i v))/\Ext w U) ?_ ?_
 .rintro _ U ⟨rfl,q⟩;rw[al];refine⟨λG=>⟨by rw[rc G],q⟩,λf=>?_⟩;have f:=X5.1 f;obtain⟨x,H,ac,af,_⟩:=f.var h.2.2.2.1;obtain⟨J,K,M,N,bd,O,L,P,a,B,Q,C,S,W⟩:=(h.W q).1.parts;have E:=uY H;have ag:=uX h.2.1 h.2.2.1;obtain⟨h1,ah,aj,am⟩:=id f;rw[aL cU.p 2 a rfl,fP (y:=i) (i:=i.toNat) Ω an.u ai.i Ψ C.ls (uW Ω),aO,m1 Ω Ω,aO,m1 Ω Ω,ms f];refine⟨?_,q⟩;congr 1;omega
 .intro ax z;refine(yk h).Y ?_;rintro _ V _ ⟨rfl,j⟩;rw[bL,cb];refine⟨λa=>?_,λa=>?_⟩
  .have a:¬(0<=i/\i<n.co.length):=λX=>by rw[rs X]at a;cases a
   exact z _ _ ⟨by rw[rs];exact λe=>a ⟨e.1,e.2.1⟩,j⟩
  have a:0<=i/\i<n.co.length:=by simpa using a
  rw[aT,al];refine⟨λY=>z _ _ ⟨by rw[rs];exact λe=>by have:=e.2.2.1;omega,j⟩,λY=>?_⟩;obtain⟨J,K,M,N,bd,O,L,P,Z,B,Q,C,S,W⟩:=(h.W j).1.parts;rw[aL cU.p 0 Z rfl];refine(Em B h.2.2.2.2).Y ?_;rintro _ ao _ ⟨aa,rfl⟩;rw[ms a.1,cP];refine z _ _ ⟨?_,j.F aa⟩;congr 1;refine decide_eq_decide.2 ⟨λh e=>?_,λh=>?_⟩
  .have:=e.2.2.2;omega
  .refine Int.not_lt.1 λE=>h ⟨a.1,a.2,Ω,E⟩
def fl(s:am)(i v:Nat):Int:=match s.d6[i]? with
 |some x=>x.un.getD v 0
 |none=>0
def pD{i v:Int}(h:bG w ad ae A R n s t):ak v8 wr [Γ ad,Δ i,Δ v] w λr I=>r=(if ew n i v then .tuple #[Δ (fl s i.toNat v.toNat),Δ 0]else .tuple #[Δ 0,Δ 1])/\Ext w I:=by
 refine az func36 ?_;rw[di eF.u];simp only[Y0,a7];refine(yl h).Y ?_;rintro _ U _ ⟨rfl,e⟩;by_cases a:ew n i v
 .rw[ms a,ms a];refine b3 Ω ?_;obtain⟨x,f,j,C,_⟩:=a.var h.2.2.2.1;obtain⟨E,G,H,J,bd,K,L,M,q,N,y,O,P,Q⟩:=(h.W e).1.parts;rw[aL cU.p 1 q rfl];have z:t.b5[ie s i.toNat+2+v.toNat]?=σ (x.un.getD v.toNat 0):=by
   rw[h.2.1,Q3,sf f Ω,show 2+v.toNat=v.toNat+1+1 by omega];show x.un[v.toNat]?=_;rw[u5,x8 j];rfl
  refine(pw y rfl z).Y ?_;rintro _ V _ ⟨rfl,B⟩;refine⟨?_,e.F B⟩;unfold fl;rw[f]
 .rw[rc a,rc a,aT,al];exact⟨λ_=>⟨rfl,e⟩,λh=>Ω⟩
def fv(s:am)(j:Nat):Bool:=match s.d9[j]? with
 |some f=>decide (f.live≠0)
 |none=>v6
def ym{j:Int}(h:bG w ad ae A R n s t):ak v8 If [Γ ad,Δ j] w λv I=>v= .bool (decide (0<=j)&&fv s j.toNat)/\Ext w I:=by
 refine az func49 ?_;refine aY (λv U=>v= .bool (decide (0<=j)&&fv s j.toNat)/\Ext w U) (λ_ _ h=>h) λax a=>?_;intro V e _ _;rw[cP,al];refine⟨λq=>?_,λq=>a _ _ ⟨by rw[s2 q];rfl,e⟩⟩;refine(qK (h.W e)).Y ?_;rintro _ N _ ⟨rfl,G⟩;have r:=e.F G;rw[aT,al];refine⟨λO=>?_,λP=>a _ _ ⟨?_,r⟩⟩
 .obtain⟨Q,S,W,X,bd,Y,L,Z,B,aa,H,ab,C,x⟩:=(h.W r).1.parts;obtain⟨f,z⟩:=aD (l:=s.d9) (i:=j.toNat) Ω;obtain⟨y,E⟩:∃y,L[j.toNat]?=σ y:=⟨_,x8 (by rw[x.1];omega)⟩;obtain⟨_,_,J⟩:=x.2 j.toNat y f E z;rw[aL cU.p 1 B rfl,aL cU.p 3 B rfl,ck (i:=j.toNat) Ω gi.u gj.i C (by rw[x.1];omega),aU gj.p rfl,aF Ψ (C.range E 2 _ rfl)];have K:t.b5[fu s j.toNat+0]?=σ f.live:=by rw[h.2.1,xS z Ω];rfl
  refine(pw (i:=fu s j.toNat) H (by rw[J]) K).Y ?_;rintro _ ac _ ⟨rfl,M⟩;rw[bK];refine a _ _ ⟨?_,r.F M⟩;rw[rs q,Q4];unfold fv;rw[z]
 .unfold fv;rw[Y5 Ω,Bool.and_false]
end
def u0(s:am)(n:aI)(i:Int)(b m:Nat):Prop:=mq b m/\(¬(0<=i/\i<n.co.length)->b=0/\m=0)/\∀x,0<=i->s.d6[i.toNat]?=σ x->m=x.un.length/\∀j:Nat,b.testBit j=(decide (j<x.un.length)&& !dropped x.mask (j:Int))
section
variable{w:x6}{ad ae:Nat}{A R:ah}{n:aI}{s:am}{t:aA}
def kG{i:Int}(h:bG w ad ae A R n s t):ak v8 Ar [Γ ad,Δ i] w λv I=>(∃b m,v=j3 b m/\u0 s n i b m)/\Ext w I:=by
 have bo:=h.2.2.2.1.d6;refine az func25 ?_;refine bE cc.i λB U bp ao P=>?_;have P:=P;refine(yk (h.W ao)).Y ?_;rintro _ V _ ⟨rfl,ap⟩;have Q:=P.W ap;have S:=ao.F ap;rw[bL,cb];refine⟨λa=>?_,λa=>?_⟩
 .have a:¬(0<=i/\i<n.co.length):=λaN=>by rw[rs aN]at a;cases a
  rw[dk (cs:=#[.int .u64 0,Δ 0]) Ψ];refine b1 (vs:=[.int .u64 0,Δ 0]) cc.i rfl rfl (by intro u hu;simp at hu;rcases hu with rfl|rfl<;>rfl) Q λbq aP br aQ=>?_;rw[fe cc.p cc.i rfl aQ.range];refine⟨⟨0,0,rfl,⟨Ω,Ξ⟩,λ_=>⟨rfl,rfl⟩,λx aq aR=>?_⟩,S.put aP Ω⟩;have:=(x5.1 aR).1;exact ro ⟨aq,Ω⟩ a
 have a:0<=i/\i<n.co.length:=by simpa using a
 obtain⟨x,E⟩:=aD (l:=s.d6) (i:=i.toNat) Ω;obtain⟨z,W⟩:=aD (l:=n.co) (i:=i.toNat) Ω;have aS:=h.2.2.2.1.ev.2.2 z (x7 W);obtain⟨bs,_,bt,bu⟩:=h.2.2.2.1.var i.toNat x z E W;obtain⟨aT,aU,aV,aW,bd,aX,L,aY,G,au,_⟩:=(h.W S).1.parts;rw[aL cU.p 0 G rfl];refine(Em au h.2.2.2.2).Y ?_;rintro _ bw _ ⟨X,rfl⟩;rw[ms a.1,u5,W,W7];refine L6.Y ?_;rintro _ bx _ ⟨Y,rfl⟩;rw[ms aS];obtain⟨m,rfl⟩:∃m:Nat,z=m:=⟨z.toNat,Ω⟩;rw[bA,bB,u9];have av:=(S.F X).F Y;refine bE cc.i λe bD bF aw aZ=>?_;refine b1 (vs:=[.int .u64 ((2 ^ m-1:Nat):Int),Δ (m:Int)]) cc.i rfl rfl (by intro u hu;simp at hu;rcases hu with rfl|rfl<;>rfl) aZ λa1 ay bH a2=>?_;have z5:=av.size;have aA:=(av.F aw).put ay Ω;have bI:=(((Q.W X).W Y)).lt;have a6:ag a1 B cc [.int .u64 0,Δ 0]:=(((Q.W X).W Y).W aw).aa ay λhe=>by have he:=he;omega
 intro bJ Z _ _;have aB:=aA.F Z;obtain⟨aT,aU,aV,aW,bd,aX,L,aY,G,au,a7,a8,_⟩:=(h.W aB).1.parts;have bK:=uY E;have bM:=uX h.2.1 h.2.2.1;rw[aL cU.p 1 G rfl,aL cU.p 2 G rfl,fP (y:=i) (i:=i.toNat) Ω an.u ai.i Ψ a8.ls (uW Ω),aO,m1 Ω Ω];have ba:t.b5[ie s i.toNat+1]?=σ x.mask:=by rw[h.2.1,sf E Ω];rfl
 refine(pw a7 Ω ba).Y ?_;rintro _ bb _ ⟨rfl,ab⟩;have aC:=(a2.W Z).W ab;have bc:=(a6.W Z).W ab;obtain⟨mk,aE⟩:∃mk:Nat,x.mask=mk:=⟨x.mask.toNat,Ω⟩;rw[bz cc.p cc.i rfl (show bb.rangeAt e 0 [.int .u64 ((2 ^ m-1:Nat):Int),Δ (m:Int)]from aC.range)];refine(w4).Y ?_;rintro _ bN _ ⟨rfl,ac⟩;have be:=aB.F ab;have bf:B≠e:=Ω
 have bO:=aA.size;have bP:w.heap.size<=e:=Ω
 have bQ:w.heap.size<=B:=Ω
 refine bY.range m (λq f=>Ext w f/\ag f B cc [.int .u64 0,Δ 0]/\∃b:Nat,ag f e cc [.int .u64 (b:Int),Δ (m:Int)]/\mq b m/\∀j:Nat,b.testBit j=(decide (j<m)&& !(decide (j<q)&&mk.testBit j))) Ω
  ⟨be.F ac,bc.W ac,_,aC.W ac,⟨Ω,by have:=Nat.two_pow_pos m;omega⟩,λj=>by rw[B7];simp⟩ ?_ ?_
 .rintro q f bg bR ⟨H,J,b,C,K,M⟩ bh;refine bC Ω ?_;refine c8 (λN=>Ext w N/\ag N B cc [.int .u64 0,Δ 0]/\∃b:Nat,ag N e cc [.int .u64 (b:Int),Δ (m:Int)]/\mq b m/\∀j:Nat,b.testBit j=(decide (j<m)&& !(decide (j<q+1)&&mk.testBit j))) ?_ ?_
  .rintro N bi;rw[aO];exact bh _ bi
  intro ax aF;have bj:mk / 2 ^ q<2 ^ 62:=Nat.lt_of_le_of_lt (Nat.div_le_self _ _) Ω;rw[aE,C8 Ω,show(1:Int)=((1:Nat):Int)from rfl,EZ bj Ω,bl,al];have aG:(((mk / 2 ^ q &&& 1:Nat):Int)=((1:Nat):Int))↔mk.testBit q=v2:=by rw[<-E0];omega
  refine⟨λaf=>?_,λah=>?_⟩
  .have af:=aG.1 af;rw[bz cc.p cc.i rfl (show f.rangeAt e 0 [.int .u64 (b:Int),Δ (m:Int)]from C.range)];refine(L8 K).Y ?_;rintro _ bS _ ⟨rfl,aj⟩;rw[ms ⟨Ω,Ω⟩,u9];refine b1 (vs:=[.int .u64 ((k2 b (2 ^ q):Nat):Int),Δ (m:Int)]) cc.i rfl rfl (by intro u hu;simp at hu;rcases hu with rfl|rfl<;>rfl) (C.W aj) λbT aH bU bk=>?_;have aI:∀j:Nat,(k2 b (2 ^ q)).testBit j=(decide (j<m)&& !(decide (j<q+1)&&mk.testBit j)):=λj=>by
    rw[BY,M,Nat.testBit_two_pow];by_cases aJ:j<m
    .by_cases O:j=q
     .subst O;simp[af]
     .have am:decide (j<q+1)=decide (j<q):=decide_eq_decide.2 ⟨λh=>Ω,λh=>Ω⟩;rw[am,rs aJ,rs (show j<64 by omega),s2 (show¬q=j from λh=>O h.symm)];simp
    .simp[aJ]
   refine aF _ ⟨(H.F aj).then aH λr bV he=>by have he:r=e:=he;omega,(J.W aj).aa aH λhe=>bf he,_,bk,⟨Ω,LZ λj aK=>by rw[aI,s2 Ω];rfl⟩,aI⟩
  .have ah:mk.testBit q=v6:=by simpa using λh=>ah (aG.2 h)
   refine aF _ ⟨H,J,b,C,K,λj=>?_⟩;rw[M];by_cases O:j=q
   .subst O;simp[ah]
   .have am:decide (j<q+1)=decide (j<q):=decide_eq_decide.2 ⟨λh=>Ω,λh=>Ω⟩;rw[am]
 .rintro f bg ⟨H,J,b,C,K,M⟩;refine b3 Ω ?_;rw[bz cc.p cc.i rfl (show f.rangeAt e 0 [.int .u64 (b:Int),Δ (m:Int)]from C.range)];refine b1 (vs:=[.int .u64 (b:Int),Δ (m:Int)]) cc.i rfl rfl (by intro u hu;simp at hu;rcases hu with rfl|rfl<;>rfl) J λbW bm bX bn=>?_;rw[fe cc.p cc.i rfl bn.range];refine⟨⟨b,m,rfl,K,λh=>ro a h,λy aq aM=>?_⟩,H.put bm Ω⟩;rw[E]at aM;cases aM;refine⟨Ω,λj=>?_⟩;rw[M,aE,Qz,show x.un.length=m by omega];by_cases aK:j<m<;>simp[aK]
def u1{f:cm}(e:bc k co s)(j:f∈s.d9):ci f.aj/\f.cs.length=(aQ f.aj).toNat/\aQ f.aj<=4096:=by
 obtain⟨a,J,_⟩:=e.d9 f j;rw[J];refine⟨⟨?_,ps e.ev.2.2 λv h=>⟨(a.scope.1 v h).1,a.d6 v h⟩⟩,a.len,a.small⟩;have:=a.scope.2;simp[bN];exact this
def iy(s:am)(j:Nat)(tl:Λ):Option Nat:=match s.d9[j]? with
 |some f=>if f.live≠0 then(cj f.aj tl 0).map λm=>fu s j+1+m.toNat else ν
 |none=>ν
def oo(s:am)(j:Nat)(tl:Λ):Int:=match s.d9[j]? with
 |some f=>bq f.aj f.cs tl
 |none=>0
def E4(h:bG w ad ae A R n s t)(N:aM .i64 w aV tl):ak v8 IJ [Γ ad,Δ (j:Int),aV] w λv I=>v=Δ (match iy s j tl with|some p=>(p:Int)|none=>-1)/\Ext w I:=by
 refine az func86 ?_;refine(ym h).Y ?_;rintro _ U _ ⟨rfl,B⟩;rw[rs Ω,Q4,u9,bL,cb];refine⟨λa=>⟨?_,B⟩,λa=>?_⟩
 .have a:fv s j=v6:=by simpa using a
  have:iy s j tl=ν:=by
   unfold iy;unfold fv at a;cases e:s.d9[j]? with
   |none=>rfl
   |some f=>
    rw[e]at a;have a:f.live=0:=by simpa using a
    simp[a]
  rw[this]
 have a:fv s j=v2:=by simpa using a
 obtain⟨f,e,O⟩:∃f,s.d9[j]?=σ f/\f.live≠0:=by
  unfold fv at a;cases e:s.d9[j]? with
  |none=>rw[e]at a;cases a
  |some f=>rw[e]at a;exact⟨f,rfl,by simpa using a⟩
 obtain⟨J,ag,ah⟩:=u1 h.2.2.2.1 (x7 e);obtain⟨P,Q,S,W,bd,K,L,X,C,Y,Z,aa,x,z⟩:=(h.W B).1.parts;obtain⟨y,r⟩:∃y,L[j]?=σ y:=⟨_,x8 (by rw[z.1];exact(x5.1 e).1)⟩;have E:=(x5.1 r).1;obtain⟨_,ab,M⟩:=z.2 j y f r e;have ac:U.rangeAt K (j*3+1) [y.lc]:=λq v G=>by
  match q,G with
  |0,G=>cases G;exact x.range r 1 _ rfl
 rw[aL cU.p 3 C rfl,ck rfl gi.u gj.i x E,aU gj.p rfl,bz (cs:=[y.lc]) bH.p bH.i rfl ac];refine(Bq ab.ls (N.W B) J).Y ?_;rintro _ V _ ⟨rfl,af⟩;have H:=B.F af;unfold mn iy;rw[e];simp only[ms O];cases hi:cj f.aj tl 0 with
 |none=>
  simp only[Option.map_none];rw[bA,bB,bK,al];exact⟨λ_=>⟨trivial,H⟩,λh=>ro (show(3:Int)≠0 by decide) h⟩
 |some m=>
  simp only[Y3];rw[bA,bB,bK,al];refine⟨λh=>ro rfl h,λ_=>?_⟩;have ai:=mm J.2 hi;have am:=E1 e;have an:=uX h.2.1 h.2.2.1;obtain⟨P,Q,S,W,bd,K,L,X,C,Y,Z,aa,x,z⟩:=(h.W H).1.parts;obtain⟨y,r⟩:∃y,L[j]?=σ y:=⟨_,x8 (by rw[z.1];exact(x5.1 e).1)⟩;have E:=(x5.1 r).1;obtain⟨_,_,M⟩:=z.2 j y f r e;rw[aL cU.p 3 C rfl,ck rfl gi.u gj.i x E,aU gj.p rfl,aF Ψ (x.range r 2 _ rfl),M,aO,m1 Ω Ω,aO,m1 Ω Ω];refine⟨?_,H⟩;congr 1;omega
def E5{p:Nat}(e:bc k co s)(h:iy s j tl=σ p):s.cells[p]?=σ (oo s j tl)/\∃f,s.d9[j]?=σ f/\f.live≠0/\∃m:Nat,cj f.aj tl 0=σ (m:Int)/\m<f.cs.length/\p=fu s j+(m+1):=by
 unfold iy at h;cases a:s.d9[j]? with
 |none=>rw[a]at h;cases h
 |some f=>
  rw[a]at h;simp only at h;split at h
  .rename_i r;obtain⟨m,hm,rfl⟩:=Y9.1 h;obtain⟨w,x,y⟩:=u1 e (x7 a);have z:=mm w.2 hm;obtain⟨q,rfl⟩:∃q:Nat,m=q:=⟨m.toNat,Ω⟩;refine⟨?_,f,rfl,r,q,hm,Ω,Ω⟩;rw[show fu s j+1+(q:Int).toNat=fu s j+(q+1) by omega,xS a Ω];unfold oo bq;rw[a];simp only[hm];show f.cs[q]?=_;rw[u9,u5,x8 Ω];rfl
  .cases h
def yn(h:bG w ad ae A R n s t)(e:aM .i64 w aV tl):ak v8 Aw [Γ ad,Δ (j:Int),aV] w λv I=>v=(if(iy s j tl).isSome then .tuple #[Δ (oo s j tl),Δ 0]else .tuple #[Δ 0,Δ 1])/\Ext w I:=by
 refine az func37 ?_;rw[di eF.u];simp only[Y0,a7];refine(E4 h e).Y ?_;rintro _ U _ ⟨rfl,a⟩;cases ac:iy s j tl with
 |none=>
  simp only;rw[aT,al];exact⟨λ_=>⟨rfl,a⟩,λh=>Ω⟩
 |some p=>
  simp only;refine b3 Ω ?_;obtain⟨x,y,z,B,bd,C,L,E,f,G,q,H,J,K⟩:=(h.W a).1.parts;rw[aL cU.p 1 f rfl];refine(pw q rfl (by rw[h.2.1];exact(E5 h.2.2.2.1 ac).1)).Y ?_;rintro _ V _ ⟨rfl,r⟩;exact⟨rfl,a.F r⟩
end
def eZ.parts{a:Nat}{e f q:x4}{A R:ah}{n:aI}{s:am}{t:aA}(h:eZ w ad ae a e f q A R n s t):∃bd j L p,ag w ad cU [Γ a,Γ ae,e,f,q]/\gB w a n/\dC w ae p t/\aB .i64 ai w bd e (jM s)/\bk qF 3 gj w j f L/\mE R w L s:=by
 obtain⟨_,bd,j,ge,L,E,p,w0,r,⟨x,y,G⟩,⟨z,H,I,J⟩,B,⟨C,F⟩,K,M⟩:=h;exact⟨bd,j,L,p,r,x.W y,z,B,C,F⟩
def QA{a b:Int}(e:0<=a/\a<=k)(f:0<=b/\b<=k)(hk:1<=k/\k<=2147483648):ak v8 AT [Δ a,Δ b,Δ k] w λv I=>v= .tuple #[Δ (min (a+b) k),Δ 0]/\Ext w I:=by
 refine CD.Y ?_;rintro _ U _ ⟨rfl,h⟩;refine⟨?_,h⟩;unfold rI;rw[ms ⟨⟨hk,e.1,e.2⟩,hk,f.1,f.2⟩]
def Room(t:aA):Prop:=t.marks=[]\/t.olds.length<100000000
def dP(s:am)(i v:Nat):am:=match s.d6[i]? with
 |some x=>{s with d6:=s.d6.set i {x with mask:=((x.mask.toNat ||| 2 ^ v:Nat):Int)}}
 |none=>s
def bc.u2{s:am}{i:Nat}{x y:bo}(h:bc k co s)(e:s.d6[i]?=σ x)(r:y.un.length=x.un.length)(w:∀c∈y.un,0<=c/\c<=k)(hm:0<=y.mask/\y.mask<4294967296):bc k co {s with d6:=s.d6.set i y}:=
 ⟨h.fk,h.ev,h.zero,by show(s.d6.set i y).length=_;rw[o7];exact h.d6,λp z q a f=>by
  have a:(s.d6.set i y)[p]?=σ z:=a;rw[Y7]at a;by_cases j:i=p
  .subst j;rw[ms rfl,ms (x5.1 e).1]at a;cases a;exact⟨r.F (h.var i x q e f).1,w,hm⟩
  .rw[rc j]at a;exact h.var p z q a f,h.d9⟩
def bc.E6{s:am}{f g:cm}(h:bc k co s)(e:s.d9[j]?=σ f)(h1:g.sc=f.sc)(p:g.aj=f.aj)(q:g.cs.length=f.cs.length)(r:∀c∈g.cs,0<=c/\c<=k):bc k co {s with d9:=s.d9.set j g}:=
 ⟨h.fk,h.ev,h.zero,h.d6,h.var,λx a=>by
  rcases W8 a with a|rfl
  .exact h.d9 x a
  .obtain⟨⟨w,y,z,A,B,F⟩,C,E⟩:=h.d9 f (x7 e);refine⟨⟨?_,?_,?_,?_,?_,r⟩,?_,?_⟩
   .show la x.sc;rw[h1];exact w
   .show x.sc.Pairwise _;rw[h1];exact y
   .show ∀v∈x.sc,_;rw[h1];exact z
   .show x.cs.length=(aQ (bN co x.sc)).toNat;rw[h1,q];exact A
   .show aQ (bN co x.sc)<=_;rw[h1];exact B
   .rw[h1,p];exact C
   .rw[h1];exact E⟩
def QB{r:Nat}{c:List x4}(a:ag w r e c)(he:¬(e=gI\/e=e3\/e=nf\/e=gW\/e=cU\/e=gj\/e=e2)):¬eH w r:=by
 rintro (⟨p,q,f,h⟩|j)
 .rw[ft a f]at he;exact he h
 .exact j _ a rfl
section
variable{w:x6}{ad ae:Nat}{A R:ah}{n:aI}{s:am}{t:aA}
def od.set(h:od t)(a:Room t)(p:Nat)(x:Int):od (t.set p x):=by
 refine⟨by rw[aA.Es];exact h.1,?_,by rw[aA.xV];exact h.2.2⟩;rcases a with a|a
 .rw[aA.xW a];exact h.2.1
 .have:=aA.Et t p x;omega
def E7{s':am}{p:Nat}{x:Int}(h:bG w ad ae A R n s t)(q:y=(p:Int))(ac:p<s.cells.length)(z:s.cells.set p x=s'.cells)(J:py s s')(B:bc n.k n.co s')(C:Room t):
  ak v8 AH [Γ ae,Δ y,Δ x] w λr I=>r=Δ 0/\af (eH w) w I/\∃aN,Grow A w aN I/\bG I ad ae aN R n s' (t.set p x):=by
 obtain⟨E,f,j,_,G⟩:=id h;obtain⟨H,K,L⟩:=E.sg;have M:p<t.cells.length:=by rw[<-f]at ac;unfold aA.b5 at ac;rw[r8]at ac;exact ac
 refine(uO K.min q M j).Y ?_;rintro _ U _ ⟨rfl,N,a,O⟩;obtain⟨aN,P,Q⟩:=L (λr=>H r\/N r) U _ ⟨a.1.Y λr _ h=>h.1,λr e=>e.elim .inl λh=>(a.2.1 r h).imp (λh=>h.1) id,λr e=>.inl e⟩ (O.Y λr h=>.inr h);exact⟨rfl,a.1.Y λr _ h=>.inl h.2,aN,P,Q.same J,by rw[aA.ru,f,z],j.set C p x,B,G⟩
def yo{i v:Int}(h:bG w ad ae A R n s t)(K:Room t):ak v8 Ix [Γ ad,Δ i,Δ v] w λr I=>(¬ew n i v->r=Δ 1/\Ext w I)/\
  (ew n i v->r=Δ 0/\af (eH w) w I/\∃aN x,Grow A w aN I/\bG I ad ae aN R n (dP s i.toNat v.toNat) (t.set (ie s i.toNat+1) x)):=by
 refine az func71 ?_;rw[di eF.u];simp only[Y0,a7];refine(yl h).Y ?_;rintro _ U _ ⟨rfl,f⟩;by_cases e:ew n i v
 rotate_left
 .rw[rc e,aT,al];exact⟨λ_=>⟨λ_=>⟨by trivial,f⟩,λh=>ro h e⟩,λh=>Ω⟩
 rw[ms e];refine b3 Ω ?_;obtain⟨x,a,M,ac,ag⟩:=e.var h.2.2.2.1;obtain⟨h1,ah,aj,am⟩:=id e;have ao:=h.2.2.2.1.d6;obtain⟨z,N⟩:=aD (l:=n.co) (i:=i.toNat) Ω;obtain⟨_,O,ap,aq⟩:=h.2.2.2.1.var i.toNat x z a N;have au:=uY a;have av:=uX h.2.1 h.2.2.1;obtain⟨aw,ax,ay,aA,P⟩:=(h.W f).1;obtain⟨bd,aB,L,aC,E,aE,Q,S,aF,aG⟩:=P.parts;rw[aL cU.p 2 E rfl,fP (y:=i) (i:=i.toNat) Ω an.u ai.i Ψ S.ls (uW Ω),aO,m1 Ω Ω];intro V j _ _;have W:=f.F j;have G:=E.W j;have X:=Q.W j;obtain⟨q,rfl⟩:∃q:Nat,v=q:=⟨v.toNat,Ω⟩;obtain⟨mk,H⟩:∃mk:Nat,x.mask=mk:=⟨x.mask.toNat,Ω⟩;rw[u9]at M;rw[aL cU.p 1 G rfl,aL cU.p 1 G rfl,Qx Ω];have Y:t.b5[ie s i.toNat+1]?=σ x.mask:=by rw[h.2.1,sf a Ω];rfl
 refine(pw (i:=ie s i.toNat+1) X Ω Y).Y ?_;rintro _ aH _ ⟨rfl,J⟩;refine⟨.inl J,?_⟩;have aI:(2:Nat) ^ q<=2 ^ 31:=S4 Ω Ω;rw[H,Qw Ω Ω];have B:=W.F J;have aJ:mk ||| 2 ^ q<2 ^ 32:=Nat.or_lt_two_pow Ω Ω;have C:dP s i.toNat (q:Int).toNat={s with d6:=s.d6.set i.toNat {x with mask:=((mk ||| 2 ^ q:Nat):Int)}}:=by
  unfold dP;rw[a];simp only[H,u9]
 refine(E7 (p:=ie s i.toNat+1) (s':=dP s i.toNat (q:Int).toNat) (h.W B) Ω Ω ?_ ?_ ?_ K).Y ?_
 .rw[C,Ej a Ω];rfl
 .rw[C];exact Ep a rfl
 .rw[C];exact h.2.2.2.1.u2 a rfl O ⟨by simp only;omega,by simp only;omega⟩
 rintro _ aK _ ⟨rfl,Z,aN,aa,ab⟩;exact⟨λh=>ro e h,λ_=>⟨rfl,jo B Z,aN,_,(Grow.W B).F aa,ab⟩⟩
end
def u3{df:x4}{v:Int}(h:aM .i64 w df l):ak v8 H4 [df,Δ v] w λr I=>r= .bool (decide (v∈l))/\Ext w I:=by
 refine az func30 ?_;rw[a1 an.u h];refine b7.range l.length (λi _ U=>Ext w U/\v∉l.take i) h.le ⟨Ext.refl _,Ξ⟩ ?_ ?_
 .rintro i _ U k hi ⟨a,e⟩ hk;obtain⟨x,f⟩:=aD (l:=l) hi;refine bC Ω ?_;rw[bh an.u ai.i Ψ (h.W a) f,bl,al];refine⟨λhe=>⟨by rw[rs];rw[<-he];exact x7 f,a⟩,λj=>?_⟩;rw[aO];refine hk _ _ ⟨a,λhm=>?_⟩;rw[r9,f,j6,j9,c9]at hm;rcases hm with hm|hm
  .exact e hm
  .exact j hm.symm
 .rintro _ U k ⟨a,e⟩;rw[o9]at e;rw[aT,al];exact⟨λh=>Ω,λ_=>⟨by rw[s2 e],a⟩⟩
theorem E8:∀{s t:Λ}{m k v:Int},s.length=t.length->cj (s++[k]) (t++[v]) m=(cj s t m).bind λr=>if 0<=v/\v<k then σ (r*k+v)else ν
 |[],[],m,k,v,_=>by simp[cj]
 |x::s,y::t,m,k,v,h=>by
  have h:s.length=t.length:=by simpa using h
  rw[List.cons_append,List.cons_append];simp only[cj];split
  .exact E8 h
  .rfl
def E9{x:bo}{v:Int}(h:0<=v/\v<x.un.length):v∈aC x↔dropped x.mask v=v6:=by
 unfold aC;rw[S8,j5];constructor
 .rintro⟨_,a⟩;simpa using a
 .intro a;exact⟨⟨v.toNat,S1.2 Ω,Ω⟩,by simp[a]⟩
def b4(s:am):Prop:=∀f∈s.d9,f.live≠0->∀v∈f.sc,∀x,s.d6[v.toNat]?=σ x->x.gone=0
def gB.put{g x:Nat}{c:List x4}{n:aI}(h:gB w x n)(a:ag w g aE c)(f:af (λr=>r=g) w I):gB I x n:=by
 have p:=EY a;have y:∀r,r=g->∃e c,ag w r e c/\e≠iG/\e≠c4/\e≠ai/\e≠av/\e≠aw:=λr j=>by
  subst j;exact⟨_,c,a,Φ,Φ,Φ,Φ,Φ⟩
 obtain⟨z,A,B,C,gr,aZ,L,nm,lc,gz,fv2,h1,E,F,G,H,J,K⟩:=h;refine⟨z,A,B,C,gr,aZ,L,nm,lc,gz,fv2,yi h1 f p Φ,yi E f p Φ,yh F f p Φ,G.aa f λr j=>?_,H,J.aa f λr j=>?_,K⟩
 .obtain⟨e,c,a,_,_,_,q,s⟩:=y r j;exact⟨e,c,a,q,s⟩
 .obtain⟨e,c,a,q,s,M,N,_⟩:=y r j;exact⟨e,c,a,q,s,M,N⟩
def StateM.put{g:Nat}{A R:ah}{n:aI}{s:am}{t:aA}{c:List x4}(h:StateM w ad ae A R n s t)(y:ag w g aE c)(p:af (λr=>r=g) w I)(U:¬A g):∃R',(∀r,R' r->R r/\r≠g)/\StateM I ad ae A R' n s t:=by
 obtain⟨V,W,X,Y,⟨h1,Z,ab,ac⟩,bd,ai,ge,L,E,aj,w0,ak,⟨M,C,al⟩,⟨an,N,ao,ap⟩,aq,⟨au,O⟩,av,P⟩:=h;obtain⟨cA,Q⟩:=Ec;have z:=p.size;have q:=EY y;have B:∀r,(w0.heap.setIfInBounds g cA)[r]?=if g=r then(if g<w0.heap.size then σ cA else ν)else w0.heap[r]?:=λr=>Array.getElem?_setIfInBounds;have aw:∀r,A r->r≠g:=λr a he=>U (he▸a);have int:∀{v:x4}{l:Λ},ke R w v l->ke (λr=>R r/\r≠g) I v l:=λ⟨⟨ax,hm⟩,ay⟩=>⟨⟨ax,yh hm p q Φ⟩,λr a=>⟨ay r a,ch hm y Φ a⟩⟩;refine⟨λr=>R r/\r≠g,λr h=>h,V,W,X,Y,⟨h1,λr a az=>Z r a az.1,λr a=>by have:=ab r a.1;omega,λr a=>by have:=ac r a;omega⟩,bd,ai,ge,L,E,aj,{w0 with heap:=w0.heap.setIfInBounds g cA},yi ak p q Φ,⟨?_,?_,?_⟩,
  ⟨an.aa p λr a=>aw r (N r a),N,ao,ap⟩,yh aq p q Φ,⟨EX au p q Φ,O.1,λj x f F aB=>?_⟩,EX av p q Φ,P.1,λj x e F he=>?_⟩
 .by_cases J:∃o,w0.heap[g]?=σ o/\fK o=v2
  .obtain⟨o,S,aC⟩:=J;have aD:ag w0 g aE c:=by
    unfold ag at y ⊢;have:=C.aX g o S aC;rw[y]at this;rw[S,this]
   refine M.put aD ⟨Ξ,λr o a J aF=>?_⟩;show(w0.heap.setIfInBounds g cA)[r]?=σ o;rw[B,rc λhe=>aF he.symm];exact a
  .refine M.W ⟨Ξ,λr o a aG=>?_⟩;show(w0.heap.setIfInBounds g cA)[r]?=σ o;rw[B,rc λhe=>J ⟨o,by rw[he];exact a,aG⟩];exact a
 .refine⟨by show(w0.heap.setIfInBounds g cA).size<=_;rw[Array.size_setIfInBounds];exact X1 C.size z,λr o a J=>?_⟩;have a:(w0.heap.setIfInBounds g cA)[r]?=σ o:=a;rw[B]at a;by_cases he:g=r
  .rw[ms he]at a;split at a
   .cases a;rw[Q]at J;cases J
   .cases a
  .rw[rc he]at a;exact p.aX r o (C.aX r o a J) J λh=>he h.symm
 .intro r o a J;have a:(w0.heap.setIfInBounds g cA)[r]?=σ o:=a;rw[B]at a;by_cases he:g=r
  .rw[ms he]at a;split at a
   .cases a;rw[Q]at J;cases J
   .cases a
  .rw[rc he]at a;exact⟨al r o a J,λh=>he h.symm⟩
 .obtain⟨G,H,K⟩:=O.2 j x f F aB;exact⟨int G,int H,K⟩
 .obtain⟨G,H,K⟩:=P.2 j x e F he;exact⟨G,int H,int K⟩
def QC{f:ce}(j:pl.length<=60000)(h:gY pl=σ f):∃N,N<=60000/\fq N f/\f.name≠[]/\∀b∈f.name,bV b=v2:=by
 unfold gY at h;rw[rc Ω]at h;cases a:jD ⟨(lex pl).1,0,v6,[]⟩with
 |none=>rw[a]at h;cases h
 |some q=>
  obtain⟨p,s⟩:=q;rw[a]at h;simp only at h;split at h
  .rename_i au;cases h;obtain⟨h1,e⟩:=Cx rfl a au.2.2;have r:=rr pl.length pl (o4 _);obtain⟨U,V,_⟩:=tG pl.length pl (o4 _) f.name e;exact⟨_,by show(lex pl).1.length<=60000;omega,h1,U,V⟩
  .cases h
def QD:ak v8 Az [.pointer ν] w λv I=>v= .pointer ν/\Ext w I:=by
 refine az func62 ?_;rw[di nS.u];simp only[Option.isNone_none,bO];exact⟨by trivial,Ext.refl _⟩
def QE(h:aM .u8 w v l)(B:l.length<=100000):ak v8 Il [v] w λf I=>Ext w I/\∃g,aB .u8 cO I g f l:=by
 have e:=h;obtain⟨C,b,o,base,cap,rfl,E,hm,q,s⟩:=h;refine az func58 ?_;rw[p9 cT.u,cb];refine⟨λx=>⟨Ext.refl _,0,?_⟩,λ_=>?_⟩
 .have:l=[]:=by
   cases base with
   |none=>
        by_cases e:0<l.length
        .have:=q e;cases this
        .exact Z2 Ω
   |some a=>cases x
  subst this;exact aB.nil _ _ _ _
 .refine yj (k:=.u8) cT.u cO.i λG g1 U H j p=>?_;refine jp cT.u cO.i rfl p (e.W j) Θ Θ λf y V z J A=>?_;exact⟨j.then A (λr s he=>by have:=(bW p he).1;omega),y,by simpa using z⟩
def QF(sv:x4):Prop:=∃cs:List x4,sv= .agg cs.toArray/\cs.length=8/\∀u∈cs,u.oneCell'=v2
def Fa:QF (.agg z12.toArray):=⟨z12,rfl,rfl,by intro u hu;simp[z12]at hu;rcases hu with rfl|rfl|rfl|rfl<;>rfl⟩
def yp{f:ce}(a:fq N f):(cK f).d9.length<=256:=by
 have h1:=(rY a).2.length_eq;have h:=(mz a).2.2;have j:=List.length_filter_le fV (fW f);have p:=a.mr;have e:=(qC f (fX f).length).2.2.2;rw[uM]at e;omega
def QG{n:aI}{t:aA}(e:lb n)(f:n.d9.length<=256)(h:t.b5=(c6 n).cells)(a:Plain t):od t:=by
 have h1:=uU e f n.unary.length n.d9.length;rw[x0,<-h]at h1;unfold aA.b5 at h1;rw[r8]at h1;refine⟨Ω,?_,?_⟩
 .rw[a.2.1];exact W0 _
 .rw[a.1];exact W0 _
section
variable{w:x6}{ad ae:Nat}{A R:ah}{n:aI}{s:am}{t:aA}
def QH{j:Int}(h:bG w ad ae A R n s t)(p:¬(0<=j/\j<s.d9.length)):ak v8 tp [Γ ad,Δ j] w λr I=>r= .slice ν 0 0/\Ext w I:=by
 refine az func103 ?_;refine aY (λv U=>v= .bool v2/\Ext w U) ?_ ?_
 .rintro _ U ⟨rfl,e⟩;rw[bO];exact⟨rfl,e⟩
 intro ax a;rw[aT,al];refine⟨λ_=>a _ _ ⟨rfl,Ext.refl _⟩,λq=>?_⟩;refine(qK h).Y ?_;rintro _ x _ ⟨rfl,f⟩;rw[cP];exact a _ _ ⟨by rw[rs Ω],f⟩
end
section
variable{w:x6}{B:Nat}{sv:x4}{k:Int}{co:Λ}{s:am}
end
def iz:List (Λ)->List (Λ)
 |[]=>[[]]
 |d::a=>d.flatMap λv=>(iz a).map (v:: ·)
theorem sm:∀{a:List (Λ)}{t:Λ},t∈iz a↔t.length=a.length/\∀(p:Nat)d v,a[p]?=σ d->t[p]?=σ v->v∈d
 |[],t=>by
  simp only[iz,c9];exact⟨λh=>by subst h;exact⟨rfl,λp d v h=>by simp at h⟩,λh=>Z2 h.1⟩
 |d::a,t=>by
  simp only[iz,List.mem_flatMap,j5];constructor
  .rintro⟨v,j,bt,q,rfl⟩;obtain⟨h1,e⟩:=sm.1 q;refine⟨by simp[h1],λp f u ac hu=>?_⟩;cases p with
   |zero=>simp at ac hu;subst ac hu;exact j
   |succ p=>exact e p f u (by simpa using ac) (by simpa using hu)
  .rintro⟨h1,e⟩;cases t with
   |nil=>simp at h1
   |cons v bt=>exact⟨v,e 0 d v rfl rfl,bt,sm.2 ⟨by simpa using h1,λp f u ac hu=>e (p+1) f u (by simpa using ac) (by simpa using hu)⟩,rfl⟩
def oq:List (Int->Bool)->Λ->Bool
 |q::a,v::t=>q v&&oq a t
 |_,_=>v2
theorem Fb:∀(j:List (Λ))(a:List (Int->Bool)),a.length=j.length->iz ((j.zip a).map λp=>p.1.filter p.2)=(iz j).filter (oq a)
 |[],[],_=>rfl
 |d::j,q::a,h=>by
  have r:=Fb j a (by simpa using h);simp only[List.zip_cons_cons,T3,iz];rw[r];clear r h;induction d with
  |nil=>rfl
  |cons v d s=>
   rw[V8,List.filter_append,<-s];have e:((iz j).map (v:: ·)).filter (oq (q::a))=if q v then((iz j).filter (oq a)).map (v:: ·)else[]:=by
    rw[List.filter_map];by_cases f:q v=v2
    .rw[ms f];congr 1;apply List.filter_congr;intro t _;show(q v&&oq a t)=_;rw[f,Q4]
    .rw[rc f];rw[List.filter_eq_nil_iff.2 λt _=>by show¬(q v&&oq a t)=v2;simp[f]];rfl
   rw[e];by_cases f:q v=v2
   .rw[ms f,List.filter_cons_of_pos f,V8]
   .rw[rc f,List.filter_cons_of_neg f];rfl
def iA(k:Int):Λ:=(X9 k.toNat).map λv:Nat=>(v:Int)
theorem va:∀(s:Λ),br s=iz (s.map iA)
 |[]=>rfl
 |k::s=>by
  simp only[br,T3,iz,iA,List.flatMap_map,<-va s]
def sn{v:Int}:v∈iA k↔0<=v/\v<k:=by
 unfold iA;rw[j5];constructor
 .rintro⟨n,a,rfl⟩;have:=S1.1 a;omega
 .intro h;exact⟨v.toNat,S1.2 Ω,Ω⟩
def dX(f:Int->Int)(L:List (Λ))(aj cs:Λ):Λ:=((br aj).zip cs).map λp=>if p.1∈L then f p.2 else p.2
def pE(f:Int->Int)(L:List (Λ))(aj cs:Λ)(h:cs.length<=(br aj).length):(dX f L aj cs).length=cs.length:=by
 unfold dX;rw[r8,List.length_zip];omega
def qL{f:Int->Int}{L:List (Λ)}{i:Nat}(a:(br aj)[i]?=σ t)(e:cs[i]?=σ c):(dX f L aj cs)[i]?=σ (if t∈L then f c else c):=by
 unfold dX;have h:((br aj).zip cs)[i]?=σ (t,c):=List.getElem?_zip_eq_some.2 ⟨a,e⟩;rw[u4,h];rfl
def QI{f:Int->Int}{L:List (Λ)}{i:Nat}(J:dT aj)(q:cs.length<=(br aj).length)(p:(br aj)[i]?=σ t)(r:cs[i]?=σ c)(x:t∉L):(dX f L aj cs)[i]?=σ c/\(dX f L aj cs).set i (f c)=dX f (L++[t]) aj cs:=by
 have h1:=qL (f:=f) (L:=L) p r;rw[rc x]at h1;refine⟨h1,?_⟩;apply X0;intro j;rw[Y7];by_cases s:i=j
 .subst s;rw[ms rfl,ms (x5.1 h1).1,qL p r,ms Ξ]
 .rw[rc s];cases a:cs[j]? with
  |none=>
   have:=List.getElem?_eq_none_iff.1 a;rw[Y5 (by rw[pE _ _ _ _ q];exact this),Y5 (by rw[pE _ _ _ _ q];exact this)]
  |some A=>
   obtain⟨u,hu⟩:∃u,(br aj)[j]?=σ u:=⟨_,x8 (by have:=(x5.1 a).1;omega)⟩;rw[qL hu a,qL hu a];have y:u≠t:=λhe=>by
    subst he;have z:=kA J p;have w:=kA J hu;rw[z]at w;have:=Z5 w;omega
   have:u∈L++[t]↔u∈L:=by simp[y]
   by_cases e:u∈L
   .rw[ms e,ms (this.2 e)]
   .rw[rc e,rc λh=>e (this.1 h)]
def li(s:am)(i v:Nat)(c:Int):am:=match s.d6[i]? with
 |some x=>{s with d6:=s.d6.set i {x with un:=x.un.set v c}}
 |none=>s
def lj(s:am)(j m:Nat)(c:Int):am:=match s.d9[j]? with
 |some f=>{s with d9:=s.d9.set j {f with cs:=f.cs.set m c}}
 |none=>s
def sq{i:Nat}(h:∀x∈l,0<=x/\x<=k)(e:0<=c/\c<=k):∀x∈l.set i c,0<=x/\x<=k:=λx a=>by
 rcases W8 a with a|rfl
 .exact h x a
 .exact e
def ot(w:x6)(ad ae:Nat)(A R:ah)(n:aI)(s':am)(t:aA)(v:x4)(I:x6):Prop:=v=Δ 0/\af (eH w) w I/\∃aN p x,Grow A w aN I/\bG I ad ae aN R n s' (t.set p x)
def ot.W{U:x6}{A R:ah}{n:aI}{s':am}{t:aA}(a:Ext w U)(h:ot U ad ae A R n s' t v I):ot w ad ae A R n s' t v I:=by
 obtain⟨h1,e,aN,p,x,f,j⟩:=h;exact⟨h1,jo a e,aN,p,x,(Grow.W a).F f,j⟩
section
variable{w:x6}{ad ae:Nat}{A R:ah}{n:aI}{s:am}{t:aA}
def sr(h:bG w ad ae A R n s t)(f:y<0\/¬(0<=c/\c<=n.k)):ak v8 A0 [Γ ad,Δ y,Δ c] w λv I=>v=Δ (if y<0 then 1 else 3)/\Ext w I:=by
 refine az func263 ?_;rw[di eF.u];simp only[Y0,a7];rw[aT,al];refine⟨λe=>⟨by rw[ms e],Ext.refl _⟩,λe=>?_⟩;refine(om h).Y ?_;rintro _ U _ ⟨rfl,j⟩;refine(k0 (a:=c) (k:=n.k)).Y ?_;rintro _ V _ ⟨rfl,p⟩;have q:=f.resolve_left e;rw[s2 (λh=>q h.2),bL,W6,bO,rc e];exact⟨rfl,j.F p⟩
def yq{s':am}{p:Nat}(h:bG w ad ae A R n s t)(f:Room t)(j:y=(p:Int))(ac:p<s.cells.length)(q:s.cells.set p c=s'.cells)(J:py s s')(r:bc n.k n.co s')(x:0<=c/\c<=n.k):
  ak v8 A0 [Γ ad,Δ y,Δ c] w (ot w ad ae A R n s' t):=by
 refine az func263 ?_;rw[di eF.u];simp only[Y0,a7];refine b3 Ω ?_;refine(om h).Y ?_;rintro _ U _ ⟨rfl,z⟩;refine(k0 (a:=c) (k:=n.k)).Y ?_;rintro _ V _ ⟨rfl,B⟩;have e:=z.F B;rw[rs (show cG c n.k from⟨h.2.2.2.1.fk,x⟩),bL,X3,a7];obtain⟨I,K,M,N,bd,O,L,P,C,Q,S,W,X,Y⟩:=(h.W e).1.parts;rw[aL cU.p 1 C rfl];refine(E7 (h.W e) j ac q J r f).Y ?_;rintro _ Z _ ⟨rfl,E,aN,G,H⟩;exact ot.W e ⟨rfl,E,aN,_,_,G,H⟩
def QJ(h:bG w ad ae A R n s t)(e:Room t):ak v8 J8 [Γ ad,Δ c] w λv I=>(¬(0<=c/\c<=n.k)->v=Δ 3/\Ext w I)/\((0<=c/\c<=n.k)->ot w ad ae A R n {s with zero:=c} t v I):=by
 refine az func218 ?_;by_cases a:0<=c/\c<=n.k
 .refine (yq (p:=0) h e rfl (by unfold am.cells kc;simp) (PC s c) (Eo s c) ⟨h.2.2.2.1.fk,h.2.2.2.1.ev,a,h.2.2.2.1.d6,h.2.2.2.1.var,h.2.2.2.1.d9⟩ a).Y ?_;rintro v U _ f;exact⟨λh=>ro a h,λ_=>f⟩
 .refine (sr h (.inr a)).Y ?_;rintro v U _ ⟨rfl,j⟩;exact⟨λ_=>⟨rfl,j⟩,λh=>ro h a⟩
def Fc{i v:Int}(h:bG w ad ae A R n s t)(B:Room t):ak v8 J7 [Γ ad,Δ i,Δ v,Δ c] w λr I=>
  (¬ew n i v->r=Δ 1/\Ext w I)/\(ew n i v->¬(0<=c/\c<=n.k)->r=Δ 3/\Ext w I)/\(ew n i v->(0<=c/\c<=n.k)->ot w ad ae A R n (li s i.toNat v.toNat c) t r I):=by
 refine az func217 ?_;refine(yl h).Y ?_;rintro _ U _ ⟨rfl,e⟩;by_cases a:ew n i v
 .rw[ms a];by_cases j:0<=c/\c<=n.k
  .obtain⟨x,f,H,J,_⟩:=a.var h.2.2.2.1;have K:=h.2.2.2.1.d6;obtain⟨z,C⟩:∃z,n.co[i.toNat]?=σ z:=⟨_,x8 (by have:=a.1;have:=a.2.1;omega)⟩;obtain⟨_,E,hm⟩:=h.2.2.2.1.var i.toNat x z f C;have L:=uY f;have q:li s i.toNat v.toNat c={s with d6:=s.d6.set i.toNat {x with un:=x.un.set v.toNat c}}:=by unfold li;rw[f]
   refine(yq (p:=ie s i.toNat+(2+v.toNat)) (s':=li s i.toNat v.toNat c) (h.W e) B Ω Ω ?_ ?_ ?_ j).Y ?_
   .rw[q];refine Ej f Ω ?_;rw[show 2+v.toNat=v.toNat+1+1 by omega];rfl
   .rw[q];exact Ep f Ξ
   .rw[q];exact h.2.2.2.1.u2 f Ξ (sq E j) hm
   .rintro r V _ G;exact⟨λh=>ro a h,λ_ h=>ro j h,λ_ _=>G.W e⟩
  .refine (sr (h.W e) (.inr j)).Y ?_;rintro r V _ ⟨rfl,y⟩;rw[rc Ω];exact⟨λh=>ro a h,λ_ _=>⟨rfl,e.F y⟩,λ_ h=>ro h j⟩
 .rw[rc a];refine(sr (h.W e) (.inl Ω)).Y ?_;rintro r V _ ⟨rfl,y⟩;rw[ms Ω];exact⟨λ_=>⟨rfl,e.F y⟩,λh=>ro h a,λh=>ro h a⟩
def QK(h:bG w ad ae A R n s t)(C:Room t)(E:aM .i64 w aV tl):ak v8 J6 [Γ ad,Δ (j:Int),aV,Δ c] w λr I=>
  (iy s j tl=ν->r=Δ 1/\Ext w I)/\((iy s j tl).isSome=v2->¬(0<=c/\c<=n.k)->r=Δ 3/\Ext w I)/\
  ((iy s j tl).isSome=v2->(0<=c/\c<=n.k)->∀f (m:Nat),s.d9[j]?=σ f->cj f.aj tl 0=σ (m:Int)->ot w ad ae A R n (lj s j m c) t r I):=by
 refine az func216 ?_;refine(E4 h E).Y ?_;rintro _ U _ ⟨rfl,e⟩;cases G:iy s j tl with
 |none=>
  simp only;refine(sr (h.W e) (.inl Ω)).Y ?_;rintro r V _ ⟨rfl,x⟩;rw[ms Ω];exact⟨λ_=>⟨rfl,e.F x⟩,λh=>by simp at h,λh=>by simp at h⟩
 |some p=>
  simp only;by_cases q:0<=c/\c<=n.k
  .obtain⟨K,f,a,L,m,hm,M,rfl⟩:=E5 h.2.2.2.1 G;have N:=E1 a;have y:lj s j m c={s with d9:=s.d9.set j {f with cs:=f.cs.set m c}}:=by unfold lj;rw[a]
   obtain⟨H,_⟩:=h.2.2.2.1.d9 f (x7 a);refine(yq (p:=fu s j+(m+1)) (s':=lj s j m c) (h.W e) C rfl Ω ?_ ?_ ?_ q).Y ?_
   .rw[y];exact PD a Ω rfl
   .rw[y];exact PL a Ξ rfl rfl
   .rw[y];exact h.2.2.2.1.E6 a rfl rfl Ξ (sq H.jm q)
   .rintro r V _ J;refine⟨(λh=>by cases h),λ_ h=>ro q h,λ_ _ O bR z B=>?_⟩;rw[a]at z;cases z;rw[hm]at B;have:bR=m:=by have:=Z5 B;omega
    subst this;exact J.W e
  .refine (sr (h.W e) (.inr q)).Y ?_;rintro r V _ ⟨rfl,x⟩;rw[rc Ω];exact⟨(λh=>by cases h),λ_ _=>⟨rfl,e.F x⟩,λ_ h=>ro h q⟩
end
def e0(of:Int->Int)(p:Int×Int)(v:Int):Int×Int:=if p.2= -1\/of v<p.1 then(of v,v)else p
def dE(k:Int)(l:Λ)(of:Int->Int):Int×Int:=l.foldl (e0 of) (k,-1)
def mJ{s:am}{n:aI}{i:Int}{b m:Nat}{x:bo}(h:u0 s n i b m)(e:0<=i)(f:s.d6[i.toNat]?=σ x):(gP b m).map (λv:Nat=>(v:Int))=aC x:=by
 obtain⟨_,_,j⟩:=h;obtain⟨rfl,p⟩:=j x e f;unfold gP aC;rw[List.filter_map];congr 1;refine List.filter_congr λq a=>?_;have a:=S1.1 a;rw[p,rs a,Q4];rfl
section
variable{w:x6}{ad ae:Nat}{A R:ah}{n:aI}{s:am}{t:aA}
def lk(n:aI)(s:am)(i:Int):Bool:=decide (0<=i/\i<n.co.length)&& !dD s i.toNat
def QL{i:Int}(h:bG w ad ae A R n s t):ak v8 Jt [Γ ad,Δ i] w λv I=>v=Δ (if lk n s i=v2 then 0 else 1)/\Ext w I:=by
 refine az func161 ?_;rw[di eF.u];simp only[Y0,a7];refine aY (λv U=>v= .bool (!lk n s i)/\Ext w U) ?_ ?_
 .rintro _ U ⟨rfl,a⟩;rw[cb];refine⟨λj=>⟨by rw[rc (by simpa using j)],a⟩,λj=>⟨by rw[ms (by simpa using j)],a⟩⟩
 intro ax p;refine(uZ h).Y ?_;rintro _ U _ ⟨rfl,a⟩;rw[cb];refine⟨λe=>p _ _ ⟨?_,a⟩,λe=>?_⟩
 .rw[U9]at e;unfold lk;rw[e.2,X3,Bool.and_false];rfl
 refine(kG (i:=i) (h.W a)).Y ?_;rintro _ V _ ⟨⟨b,m,rfl,G,y,B⟩,C⟩;refine(w4).Y ?_;rintro _ H _ ⟨rfl,E⟩;rw[bl];refine p _ _ ⟨?_,(a.F C).F E⟩;congr 1;have J:=h.2.2.2.1.d6;unfold lk;by_cases f:0<=i/\i<n.co.length
 .obtain⟨x,q⟩:=aD (l:=s.d6) (i:=i.toNat) Ω;obtain⟨z,r⟩:=aD (l:=n.co) (i:=i.toNat) Ω;have h1:=(h.2.2.2.1.var i.toNat x z q r).1;have K:=h.2.2.2.1.ev.2.2 z (x7 r);have hm:=(B x f.1 q).1;rw[rs f.1,Q4]at e;rw[rs f,e,s2 Ω];rfl
 .rw[s2 f,(y f).2];rfl
def Fe(w:x6)(lX:Nat)(cap:Array x4)(l:Λ)(of:Int->Int):Prop:=∀(I:x6)(v:Int),Ext w I->v∈l->ak v8 lX (Δ v::cap.toList) I λr a=>r=Δ (of v)/\Ext I a
def QM{i:Int}{x:bo}{of:Int->Int}{lX:Nat}{cap:Array x4}(h:bG w ad ae A R n s t)(M:Laid w)(aL:0<=i)(f:s.d6[i.toNat]?=σ x)(aM:Fe w lX cap (aC x) of):
  ak v8 Ju [Γ ad,Δ i,.func (.func lX) #[] cap] w λr I=>Ext w I/\r= .tuple #[Δ (dE n.k (aC x) of).1,Δ (dE n.k (aC x) of).2]:=by
 refine jy func162 ?_;refine bn λaN U bc N E=>?_;have E:=E;refine(om (h.W N)).Y ?_;rintro _ V _ ⟨rfl,G⟩;refine bE av.i λO be bf an ao=>?_;refine bE ai.i λga bg bh P ap=>?_;have bi:=(N.F G).size;have z3:=an.size;have z4:=P.size;refine bu av.i rfl rfl (ao.W P) Φ λbj aq bk aO=>?_;have bm:=ao.lt;have bp:=ap.lt;refine bu ai.i rfl rfl (ap.aa aq Ω) Φ λbq au br aP=>?_;have aQ:=aO.aa au Ω;have aw:=((an.F P).then aq λr a he=>by have he:r=O:=he;omega).put au Ω;have ay:=(N.F G).F aw;refine(kG (i:=i) (h.W ay)).Y ?_;rintro _ bs _ ⟨⟨b,m,rfl,Q⟩,az⟩;refine(n4).Y ?_;rintro _ W _ ⟨aR,bd,rfl,bt,X⟩;have bw:=Q.1;have aA:=mJ Q aL f;have B:=az.F aR;have y:=ay.F B;have bx:=y.size;have bz:=B.size;have bA:=E.lt;have bB:=az.size;have z12:=G.size;obtain⟨S,H⟩:∃S:ah,S=λr=>r=O\/r=ga:=⟨_,rfl⟩;have J:∀r,S r->w.heap.size<=r:=λr a=>by rw[H]at a;rcases a with rfl|rfl<;>omega
 have Y:∀r,S r->r≠aN/\r≠bd:=λr a=>by rw[H]at a;rcases a with rfl|rfl<;>omega
 let st:Nat->Int×Int:=λj=>((aC x).take j).foldl (e0 of) (n.k,-1);have aS:=E.W (G.F (aw.F B));refine lD.old ⟨_,v6,kq,#[Γ bd],_,_,_,_,λj I=>af S W I/\ag I O av [Δ (st j).1]/\ag I ga ai [Δ (st j).2],λ_ _ _=>False,rfl,(n3 (g:=bd) Q.1).s,?_,
  λ_ _ f h=>⟨h.1.W f,h.2.W f⟩,λ_ _ _ f h=>⟨h.1.F (f.aa S),h.2.1.W f,h.2.2.W f⟩,λ_ _ _ _ _ h=>h,⟨X,M.W y⟩,⟨af.refl _ _,aQ.W B,aP.W B⟩,?_,?_,λ_ _ h=>h.elim,λ_ _ _ h=>h.elim⟩
 .rintro _ _ _ _ ⟨_,_,_,_,rfl⟩;rfl
 .rintro _ j _ aU ⟨_,_⟩ ⟨bC,rfl,v,aV,aW⟩ ⟨z,K,L⟩;cases aW;intro aB p _ _;have aD:(aC x)[j]?=σ (v:Int):=by rw[<-aA,u4,aV];rfl
  have aE:st (j+1)=e0 of (st j) v:=by
   show((aC x).take (j+1)).foldl _ _=_;rw[r9,aD,S2];rfl
  have aX:=((y.then z λr a h=>by have:=J r h;omega)).F p;have aZ:=(aS.aa z λh=>(Y _ h).1 rfl).W p;rw[aF Ψ (aZ.cell rfl)];refine ak.Y (aM aB v aX (x7 aD)) ?_;rintro _ aG _ ⟨rfl,Z⟩;have ab:=p.F Z;have ac:=K.W ab;have aj:=L.W ab;refine aY (λr am=>r= .bool (decide ((st j).2= -1\/of v<(st j).1))/\Ext aG am) ?_ ?_
  .rintro _ am ⟨rfl,C⟩;have aH:=ab.F C;rw[al];refine⟨λa1=>?_,λa2=>?_⟩
   .refine bu av.i rfl rfl (ac.W C) Ξ λbD aI bF a6=>?_;refine bu ai.i rfl rfl ((aj.W C).aa aI Ω) Ξ λa7 aJ bH a8=>?_;have ba:=a6.aa aJ Ω;have q:af S W a7:=((z.F (aH.aa S)).F (aI.Y λr _ h=>by rw[H];exact .inl h)).F (aJ.Y λr _ h=>by rw[H];exact .inr h);have e:st (j+1)=(of v,(v:Int)):=by rw[aE];unfold e0;rw[ms a1]
    refine⟨⟨X.aa q λh=>(Y _ h).2 rfl,(M.W (y.then q λr a h=>by have:=J r h;omega))⟩,⟨q,?_,?_⟩,λh=>by cases h⟩
    .rw[e];exact ba
    .rw[e];exact a8
   .have e:st (j+1)=st j:=by rw[aE];unfold e0;rw[rc a2]
    have q:af S W am:=z.F (aH.aa S);refine⟨⟨X.aa q λh=>(Y _ h).2 rfl,(M.W (y.then q λr a h=>by have:=J r h;omega))⟩,⟨q,?_,?_⟩,λh=>by cases h⟩
    .rw[e];exact ac.W C
    .rw[e];exact aj.W C
  .intro ax aK;rw[aF Ψ (aj.cell rfl),bl,al];refine⟨λh1=>aK _ _ ⟨by rw[rs (.inl h1)],Ext.refl _⟩,λh1=>?_⟩;rw[aF Ψ (ac.cell rfl),aT];refine aK _ _ ⟨?_,Ext.refl _⟩;congr 1;exact decide_eq_decide.2 ⟨.inr,λh=>h.resolve_left h1⟩
 .rintro k aU rfl ⟨z,K,L⟩;intro aB p _ _;have bb:st (gP b m).length=dE n.k (aC x) of:=by
   show((aC x).take _).foldl _ _=_;rw[b9 (by rw[<-aA,r8];exact o4 _)];rfl
  rw[bb]at K L;rw[aF Ψ ((K.W p).cell rfl),aF Ψ ((L.W p).cell rfl)];intro aG Z _;exact⟨((y.then z λr a h=>by have:=J r h;omega).F p).F Z,rfl⟩
end
def Ff{x:bo}{v:Int}(h:v∈aC x):0<=v/\v<x.un.length:=by
 unfold aC at h;obtain⟨h,_⟩:=S8.1 h;obtain⟨q,a,rfl⟩:=j5.1 h;have:=S1.1 a;omega
def QN{s:am}{n:aI}{i v:Int}{b m:Nat}{x:bo}(h:u0 s n i b m)(f:0<=i)(j:s.d6[i.toNat]?=σ x):(decide (0<=v/\v<m)&&b.testBit v.toNat)=decide (v∈aC x):=by
 obtain⟨_,_,p⟩:=h;obtain⟨rfl,q⟩:=p x f j;by_cases a:0<=v/\v<x.un.length
 .rw[rs a,Q4,q,rs (show v.toNat<x.un.length by omega),Q4,show((v.toNat:Nat):Int)=v by omega];have:=E9 a;cases e:dropped x.mask v with
  |false=>rw[rs (this.2 e)];rfl
  |true=>rw[s2 λh=>by rw[this.1 h]at e;cases e];rfl
 .rw[s2 a,s2 λh=>a (Ff h)];rfl
def yr(s:am)(j:Nat)(tl:Λ):Int:=if(iy s j tl).isSome then oo s j tl else 0
def cu(n:aI)(s:am)(i v:Int):Int:=if ew n i v then fl s i.toNat v.toNat else 0
def qM{n:aI}{s:am}{i v:Int}(a:bc n.k n.co s):0<=cu n s i v/\cu n s i v<=n.k:=by
 have hk:=a.fk;have p:=a.d6;unfold cu;split
 .rename_i h;obtain⟨x,e,f,_⟩:=h.var a;obtain⟨z,j⟩:∃z,n.co[i.toNat]?=σ z:=⟨_,x8 (by have:=(x5.1 e).1;omega)⟩;have:=(a.var i.toNat x z e j).2.1;unfold fl;rw[e];simp only;rw[u5,x8 f];exact this _ (P6 f)
 .omega
section
variable{w:x6}{ad ae:Nat}{A R:ah}{n:aI}{s:am}{t:aA}
def QO{K:x4->x6->Prop}{i v:Int}(h:bG w ad ae A R n s t)(f:∀e I,Ext w I->K (.tuple #[Δ (cu n s i v),Δ e]) I):ak v8 wr [Γ ad,Δ i,Δ v] w K:=by
 refine(pD h).Y ?_;rintro _ U _ ⟨rfl,a⟩;have:=f;unfold cu at this;split
 .rename_i J;rw[ms J]at this;exact this 0 U a
 .rename_i J;rw[rc J]at this;exact this 1 U a
def QP{i:Int}(h:bG w ad ae A R n s t):ak v8 Jv [Γ ad,Δ i] w λr I=>Ext w I/\∃cap,r= .func (.func AU) #[] cap/\∀l,Fe I AU cap l (cu n s i):=by
 refine az func163 ?_;refine bn λg1 U z x a=>?_;refine bn λB V C p f=>?_;rw[mg];have q:=x.F p;refine⟨q,_,rfl,λl I v j _=>?_⟩;refine az func220 ?_;have a:=a;have f:=f;rw[aF Ψ (((a.W p).W j).cell rfl),aF Ψ ((f.W j).cell rfl)];refine QO (h.W (q.F j)) λe E y=>?_;rw[bA,bB];exact⟨rfl,y⟩
def Fg{i:Int}(f:bc n.k n.co s)(h:lk n s i=v2):0<=i/\∃x,s.d6[i.toNat]?=σ x/\x.gone=0:=by
 unfold lk at h;rw[U9]at h;have h1:=ty h.1;have j:=f.d6;obtain⟨x,e⟩:=aD (l:=s.d6) (i:=i.toNat) Ω;have a:=h.2;unfold dD at a;rw[e]at a;exact⟨h1.1,x,e,by simpa using a⟩
def QQ{i:Int}(h:bG w ad ae A R n s t)(p:Laid w):ak v8 AB [Γ ad,Δ i] w λr I=>Ext w I/\(lk n s i=v6->r= .tuple #[Δ 0,Δ (-1),Δ 1])/\
  ∀x,lk n s i=v2->s.d6[i.toNat]?=σ x->r= .tuple #[Δ (dE n.k (aC x) (cu n s i)).1,Δ (dE n.k (aC x) (cu n s i)).2,Δ 0]:=by
 refine az func100 ?_;refine(QL h).Y ?_;rintro _ U _ ⟨rfl,a⟩;cases q:lk n s i with
 |false=>
  rw[rc Φ,bK,al];exact⟨λ_=>⟨a,λ_=>rfl,λ_ h=>by cases h⟩,λh=>ro Φ h⟩
 |true=>
  obtain⟨y,x,f,_⟩:=Fg h.2.2.2.1 q;rw[ms rfl,bK,al];refine⟨λh=>ro rfl h,λ_=>?_⟩;refine(QP (h.W a)).Y ?_;rintro _ V _ ⟨z,cap,rfl,B⟩;have e:=a.F z;refine(QM (h.W e) (p.W e) y f (B _)).Y ?_;rintro _ E _ ⟨C,rfl⟩;rw[bA,bB];exact⟨e.F C,(λh=>by cases h),λG _ j=>by rw[f]at j;cases j;rfl⟩
def ss{f:cm}(h:bG w ad ae A R n s t)(a:s.d9[j]?=σ f):ak v8 tp [Γ ad,Δ (j:Int)] w λr I=>Ext w I/\∃g,w.heap.size<=g/\aB .i64 ai I g r f.sc:=by
 have J:=(x5.1 a).1;refine az func103 ?_;refine aY (λv U=>v= .bool v6/\Ext w U) ?_ ?_
 .rintro _ U ⟨rfl,e⟩;rw[a7];obtain⟨K,M,N,O,bd,P,L,Q,B,S,W,X,x,q⟩:=(h.W e).1.parts;obtain⟨y,z⟩:∃y,L[j]?=σ y:=⟨_,x8 (by rw[q.1];omega)⟩;obtain⟨C,_,_⟩:=q.2 j y f z a;rw[aL cU.p 3 B rfl,ck rfl gi.u gj.i x (by rw[q.1];omega),aU gj.p rfl,aF Ψ (x.range z 0 _ rfl)];have Y:f.sc.length<=6:=(h.2.2.2.1.d9 f (x7 a)).1.scope.2;refine(k1 C.ls Ω).Y ?_;rintro v V _ ⟨E,g,Z,hm⟩;have:=e.size;exact⟨e.F E,g,Ω,hm⟩
 intro ax G;rw[aT,al];refine⟨λaa=>Ω,λ_=>?_⟩;refine(qK h).Y ?_;rintro _ ab _ ⟨rfl,H⟩;rw[cP];exact G _ _ ⟨by rw[s2 Ω],H⟩
end
def ba(s:am)(i:Int):Λ:=match s.d6[i.toNat]? with
 |some x=>aC x
 |none=>[]
def pF(s:am)(sc:Λ)(pos:Int):Nat->Nat->Λ->List (Λ)
 |0,_,tl=>[tl]
 |m+1,p,tl=>if(p:Int)=pos then pF s sc pos m (p+1) tl else(ba s (sc.getD p 0)).flatMap λv=>pF s sc pos m (p+1) (tl.set p v)
section
variable{ad ae:Nat}{A R:ah}{n:aI}{s:am}{t:aA}
end
end Go.Proofs.YtnhkbjhpbbobaaaGreatDoor
