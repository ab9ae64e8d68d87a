/- own texts, made small by a tool (wip/ holds them as they were written): no statement of the seat. -/
import Derived.Test.YtnhkbjhpbbobaaaGreatDoorZc
set_option linter.unusedVariables false
set_option linter.unusedSimpArgs false
set_option linter.unnecessarySimpa false
open Array renaming getElem?_eq_some_iff→b8
open BitVec renaming ofInt→T8
open Bool renaming false→v6,true→v2,not_true→X3,not_false→W6,or_eq_false_iff→U1,eq_iff_iff→U8,and_eq_true→U9,true_and→Q4
open Decidable renaming not_not→X5
open Go renaming Value→x4,World→x5,TypeId→o5,IntKind→j0,Program→V3
open Go.Builtin renaming append_→Z9,len_→V0
open Go.Instr renaming loadAt→u6,fieldAt→u7,storeAt→l9,indexAt→c9,extract→Y8,buildSlice→X2,sliceAt→U4
open Go.IntKind renaming i64→W5
open Go.Proofs.Tryz renaming prog→v8
open Int renaming toNat_natCast→u9,le_refl→S0
open List renaming getElem?_eq_some_iff→x6,mem_of_getElem?→x7,getElem?_eq_getElem→x8,getElem?_map→u4,getD_eq_getElem?_getD→u5,length_map→r8,take_add_one→r9,replicate→o6,length_set→o7,length_take→o8,length_append→o9,take_length→j4,mem_map→j5,mem_append→j9,mem_singleton→b9,take_of_length_le→Z0,map_append→Z3,eq_nil_of_length_eq_zero→Z5,getElem?_append_right→Z7,length_cons→Y0,getElem?_append_left→Y4,getElem?_eq_none→Y5,getElem?_take_of_lt→Y6,getElem?_set→Y7,ext_getElem?→X0,mem_iff_getElem?→X8,range→X9,drop_eq_getElem_cons→W3,mem_or_eq_of_mem_set→W8,length_eq_one_iff→V4,flatMap_cons→V6,append_nil→U2,mem_of_mem_take→T1,map_set→T2,map_cons→T3,set_append_right→T4,length_singleton→T5,append_assoc→T6,mem_range→S2,foldl_append→S3,map_map→S6,mem_filter→S9,getElem?_drop→R3,length→Q2,getElem_mem→Q9
open Nat renaming le_refl→o4,le_trans→X1,mul_le_mul_right→X4,zero_le→W0,sub_self→V2,add_mul→U6,mul_one→T0,pow_le_pow_right→S5,add_assoc→Q3,eq_zero_or_pos→Q8
open Option renaming toList_some→j6,isNone_some→Y2,map_some→Y3,map_eq_some_iff→Y9,getD_some→W7,map→U7,isSome_some→R2,isSome_none→Q1
open Option.some renaming inj→Z4,injEq→X7
open Prod.mk renaming injEq→S8
set_option maxHeartbeats 16000000
open Option renaming some→σ,none→ν
variable{aj all cs l pl co t tl:Λ}{I w:x5}{B N ad ae gs gz j:Nat}{c k n y:Int}{a e:o5}{aT sv lc v z:x4}{K:x4->Prop}{S:Nat->Prop}
namespace Go.Proofs.YtnhkbjhpbbobaaaGreatDoor
open Go Go.Vc Go.RowKit Go.Proofs Go.Proofs.Tryz
set_option maxRecDepth 100000
def kc(s:ak)(sc aj cs:Λ):ak:={s with d9:=s.d9++[⟨sc,aj,1,cs⟩]}
def ps(s:ak)(t:az)(cs:Λ):az:=(n7 t (1::cs)).set 1 ((s.d9.length+1:Nat):Int)
theorem Px{s:ak}{t:az}{sc:Λ}(h:t.b1=s.cells):(ps s t cs).b1=(kc s sc aj cs).cells:=by
 unfold ps kc;rw[az.ri,Es,h,<-Po];rfl
theorem Py{bn:Nat}{bo aJ bp:x4}{A R:ah}{n:aH}{s:ak}{t:az}{aV:x4}{sc:Λ}{g bM:Nat}{Z:x4}(h:eY w ad ae bn bo aJ bp A R n s t)(cc:t.b1=s.cells)(cd:aN .i64 w aV sc)(dl:∀r,lw aV r->¬A r)(bq:dh w g bM Z aj k cs)(bN:¬A g/\¬A bM/\∀r,lw Z r->¬A r)(dn:sc.length<=1000)(aS:t.cells.length+cs.length+1<=100000000)(bd:t.olds.length+cs.length+1<=100000000)(hm:t.marks.length<=100000000)(dp:s.d9.length<=1000000):
  al v8 IQ [Γ ad,aV,Γ g] w λv I=>v=Δ (s.d9.length:Int)/\af (eG w) w I/\∃aM R' br,Grow A w aM I/\eY I ad ae bn bo br bp aM R' n (kc s sc aj cs) (ps s t cs)/\(∀r,R r->R' r)/\∀r,R' r->R r\/lw Z r\/w.heap.size<=r:=by
 have dq:t.cells.length=s.cells.length:=by rw[<-cc];simp[az.b1]
 have dr:=xM s;have cf:fq (kc s sc aj cs) s.d9.length=t.cells.length:=by
  unfold fq kc;simp only[List.take_left];omega
 have cg:∀j,j<s.d9.length->fq (kc s sc aj cs) j=fq s j:=λj bs=>by
  unfold fq kc;simp only[List.take_append_of_le_length (show j<=s.d9.length by omega)]
 have ch:jG (kc s sc aj cs)=jG s:=rfl;refine aB func134 ?_;refine c7 (λU=>af (eG w) w U/\∃aM R' br,Grow A w aM U/\eY U ad ae bn bo br bp aM R' n (kc s sc aj cs) (n7 t (1::cs))/\(∀r,R r->R' r)/\∀r,R' r->R r\/lw Z r\/w.heap.size<=r) ?_ ?_
 .rintro U ⟨ci,ds,cj,ck,cl,cm,cn,cp⟩;intro aa bu _ _;have bO:=cm.W bu;obtain⟨_,bc,bw,ge,L,E,_,w0,am,_,_,_,⟨aZ,be⟩,_⟩:=id bO;have bf:L.length=s.d9.length+1:=by rw[be.1];simp[kc]
  rw[aK cV.p 1 am rfl,aK cV.p 3 am rfl,ew gb.u aZ];obtain⟨bP,cq,cr⟩:=bO.xS;have ct:=xQ t (1::cs) (1::cs).length;have cu:=xR t (1::cs) (1::cs).length;have cw:=r5 t (1::cs) (1::cs).length;simp only[Y0]at ct cu;refine(uE cq rfl (by show 1<(fU _ _ _).cells.length;simp only[Y0];omega) ⟨by show(fU _ _ _).cells.length<=_;simp only[Y0];omega,by show(fU _ _ _).olds.length<=_;simp only[Y0];omega,by show(fU _ _ _).marks.length<=_;rw[cw];exact hm⟩).Y ?_;rintro _ cz _ ⟨rfl,cA,cB,cC⟩;obtain⟨cD,cE,cF,bQ⟩:=cr cA cz _ cB cC;obtain⟨_,bc,bw,ge,cG,E,_,w0,am,_,_,_,⟨aZ,cH⟩,_⟩:=id bQ;have dt:cG.length=s.d9.length+1:=by rw[cH.1];simp[kc]
  rw[aK cV.p 3 am rfl,ew gb.u aZ,dx,m1 Ω Ω];refine⟨by congr 1;omega,uI ci (jf bu cD),cE,cj,ck,cl.F ((Grow.W bu).F cF),?_,cn,cp⟩;have e:ps s t cs=(n7 t (1::cs)).set 1 (L.length:Int):=by unfold ps;rw[bf]
  rw[e];exact bQ
 intro ax cI;intro aL aO _ _;have bR:=h.W aO;obtain⟨_,bc,bw,ge,L,E,_,w0,am,_⟩:=id bR;rw[aK cV.p 3 am rfl];have z4:=aO.size;have bg:∀{C:x5}{ac Q:x4}{a1 W:Nat},Ext aL C->w.heap.size<=a1->w.heap.size<=W->aA .i64 ai C a1 ac sc->aA .i64 av C W Q (1::cs)->(∀r,lw ac r\/lw Q r->¬A r)->
   al v8 AC [Γ ad,Q] C λcJ ay=>
    (Ext aL ay\/b2 v8 (u6 gb (.pointer (σ ⟨ad,0+3,ν⟩))) aJ ay/\b2 v8 (u7 cV (Γ ad) 3) (.pointer (σ ⟨ad,0+3,ν⟩)) ay/\b2 v8 (bT (Γ ad)) (Γ ad) ay/\True)/\
    ab v8 (Instr.build gd #[(0,ac),(1,.agg #[Z]),(2,cJ)]) ay λt22=>
    aF v8 (X2 gb 1 #[(0,t22)]) ay λcL an=>
     (Ext aL an\/b2 v8 (u6 gb (.pointer (σ ⟨ad,0+3,ν⟩))) aJ an/\b2 v8 (u7 cV (Γ ad) 3) (.pointer (σ ⟨ad,0+3,ν⟩)) an/\b2 v8 (bT (Γ ad)) (Γ ad) an/\True)/\
    aF v8 (Z9 #[gb,gb] gb #[aJ,cL]) an λcM bh=>
     ab v8 (bT (Γ ad)) bh λt25=>
     ab v8 (u7 cV t25 3) bh λcN=>
     aF v8 (l9 gb cN cM) bh λ(_:Unit)aT=>
      ax aT:=by
  intro C ac Q a1 W B bS S G M bx;have cO:=bR.W B;refine(Eu cO M.ls (λr y=>bx r (.inr y)) (by simp only[Y0];omega) (by simp only[Y0];omega) hm).Y ?_;rintro _ ay _ ⟨rfl,cP,a2,aW,cQ⟩;obtain⟨⟨bU,bV,cR,bW⟩,bc,bw,ge,L,E,bP,w0,am,⟨cS,cT,bX⟩,⟨cU,b0,b3,aE⟩,bz,⟨aZ,be⟩,bB,cW⟩:=id cQ;have aC:=bA G aW.1 λr y=>bx r (.inl y);have bi:=((Classical.choose_spec (show∃gs,aA .i64 ai w gs Z aj from by obtain⟨⟨_,gs,_,q,_⟩,_⟩:=bq;exact⟨gs,q⟩)).W aO).W B;have cX:=bA bi aW.1 bN.2.2;refine⟨.inr (uH am (λK=>by rw[aU cV.p rfl]) Ψ rfl),?_⟩;rw[dm (cs:=#[ac,Z,Δ (t.cells.length:Int)]) (by obtain⟨_,_,_,rfl⟩:=dj G.ls;obtain⟨_,_,_,rfl⟩:=dj bi.ls;kernel_rfl)];let a:qA:=⟨ac,Z,t.cells.length⟩;have cY:∀u∈qB a,u.oneCell'=v2:=by
   intro u hu;simp[qB]at hu;rcases hu with rfl|rfl|rfl
   .exact G.ls.cells.2
   .exact bi.ls.cells.2
   .rfl
  refine jc (f:=qB) (a:=a) gb.u gd.i Ω rfl rfl λdu dv an dw H cZ=>?_;refine⟨.inr (uH (am.W H) (λK=>by rw[aU cV.p rfl]) Ψ rfl),?_⟩;have a6:=aZ.W H;have bf:=be.1;refine jC gb.u gd.i rfl a6 (by simpa using cZ.sl) cY Ω Ω λc0 c1 bh a7 c2 b4=>?_;have a8:=am.W H;have b5:=a8.V b4 λhe=>cK a6 a8 Φ he;rw[bY,aU cV.p rfl];refine bt gb.i (ez a7.sl).1 (ez a7.sl).2 b5 Ξ λaT bC dy bD=>?_;have bD:=bD;have ao:af (λr=>lm aJ r\/r=ad) an aT:=(b4.Y λr _ h=>.inl h).F (bC.Y λr _ h=>.inr h);have z9:=B.size;have dz:=aW.1.size;have dA:=H.size;have dC:=ao.size;have bE:∀r,(lm aJ r\/r=ad)->a2 r:=λr y=>y.elim (λy=>(aE r (.inr (.inl y))).1) λy=>y▸bU;have bF:∀r,(lm aJ r\/r=ad)->¬R r:=λr y=>bV r (bE r y);have c3:af (eG w) w aT:=uI (jf (aO.F B) cP) (jf H (ao.Y λr _ y=>by
   rcases y with y|rfl
   .obtain⟨_,c,aS⟩:=dY a6 y;exact .inl ⟨_,c,‹r=_› ▸aS,Φ⟩
   .exact .inl ⟨_,_,a8,Φ⟩))
  let c4:ah:=λr=>a2 r\/(an.heap.size<=r/\r<aT.heap.size);let bG:ah:=λr=>R r\/(lw Z r/\r<ay.heap.size)\/(lw ac r/\r<ay.heap.size);have dD:∀r,r<w.heap.size->a2 r->A r:=λr y h=>(aW.2.1 r h).elim id λh=>Ω
  have bH:∀r,lw ac r->w.heap.size<=r/\r<C.heap.size:=λr y=>by obtain⟨h1,aX⟩:=bZ G y;omega
  have b6:∀r,lw Z r->r<C.heap.size:=λr y=>by obtain⟨h1,aX⟩:=bZ bi y;omega
  have bj:∀r,lw ac r\/lw Z r->¬a2 r:=λr y c5=>by
   rcases aW.2.1 r c5 with h|h
   .rcases y with y|y
    .exact bx r (.inl y) h
    .exact bN.2.2 r y h
   .rcases y with y|y
    .have:=bH r y;omega
    .have:=b6 r y;omega
  refine cI _ ⟨c3,c4,bG,c0,(Grow.W (aO.F B)).F (aW.F ((Grow.W H).F ⟨ao.Y λr _ y=>bE r y,λr y=>y.imp id And.left,λr y=>.inl y⟩)),?_,λr y=>.inl y,λr y=>?_⟩
  rotate_left
  .rcases y with y|y|y
   .exact .inl y
   .exact .inr (.inl y.1)
   .exact .inr (.inr (bH r y.1).1)
  have b7:∀{v:x4}{ba:Nat}{l:Λ},aA .i64 ai an ba v l->(∀r,lw v r->¬a2 r)->aA .i64 ai aT ba v l:=λhm c6=>bA hm ao λr y J=>c6 r y (bE r J);have b8:∀r,bG r->r<an.heap.size:=λr y=>by
   rcases y with y|y|y
   .have:=cR r y;omega
   .omega
   .omega
  refine⟨⟨.inl bU,λr y aG=>?_,λr y=>by have:=b8 r y;omega,λr y=>y.elim (λy=>by have:=bW r y;omega) And.right⟩,bc,c1,ge,L++[a],E,bP,w0,bD,⟨cS,uF (cT.F H) ao λr o y bd J=>bF r J (bX r o y bd),λr o y bd=>.inl (bX r o y bd)⟩,⟨(cU.W H).V ao λr y J=>?_,λr y=>.inl (b0 r y),b3,λr y=>?_⟩,?_,⟨a7.V bC λr y he=>?_,?_⟩,(bB.W H).V ao λr y J=>?_,?_⟩
  .have:=b8 r aG;rcases y with y|y
   .rcases aG with aG|aG|aG
    .exact bV r y aG
    .exact bj r (.inr aG.1) y
    .exact bj r (.inl aG.1) y
   .omega
  .rcases J with J|rfl
   .exact (aE r (.inr (.inl J))).2 y
   .exact b3 y
  .rcases y with y|y|y
   .exact⟨.inl (aE r (.inl y)).1,(aE r (.inl y)).2⟩
   .obtain⟨h1,aX⟩:=a7.lw y;rcases c2 r y with h|h
    .exact⟨.inl (aE r (.inr (.inl h))).1,(aE r (.inr (.inl h))).2⟩
    .refine⟨.inr ⟨h,by have:=bC.size;omega⟩,λc8=>?_⟩;have:=bW r (b0 r c8);omega
   .exact⟨.inl (aE r (.inr (.inr y))).1,(aE r (.inr (.inr y))).2⟩
  .rw[ch];exact bA (bz.W H) ao λr y J=>by
    rcases J with J|rfl
    .obtain⟨rfl,c,aS⟩:=dY a6 J;exact ce (bz.W H) aS Φ y rfl
    .exact ce (bz.W H) a8 Φ y rfl
  .have he:r=ad:=he;subst he;exact cK a7 b5 Φ y
  .refine⟨by rw[o9,bf];simp[kc],λj x f bk aP=>?_⟩;have aP:(s.d9++[⟨sc,aj,1,cs⟩])[j]?=σ f:=aP;by_cases bs:j<s.d9.length
   .rw[Y4 Ω]at bk;rw[Y4 bs]at aP;obtain⟨c9,da,db⟩:=((((my.V be (H.V λ_=>False) λ_ _ _ h=>h).V ao λr _ y J=>bF r J y).Y (R':=bG) λr y=>.inl y)).2 j x f bk aP;exact⟨c9,da,by rw[cg j bs];exact db⟩
   .have bI:j=s.d9.length:=by have:=(x6.1 aP).1;simp at this;omega
    rw[Z7 Ω,bf,bI,V2]at bk;rw[Z7 Ω,bI,V2]at aP;cases bk;cases aP;refine⟨⟨⟨_,b7 (aC.W H) λr y=>bj r (.inl y)⟩,λr y=>.inr (.inr ⟨y,?_⟩)⟩,⟨⟨_,b7 (cX.W H) λr y=>bj r (.inr y)⟩,λr y=>.inr (.inl ⟨y,?_⟩)⟩,?_⟩
    .have:=bH r y;omega
    .have:=b6 r y;omega
    .rw[bI,cf]
  .rcases J with J|rfl
   .obtain⟨rfl,c,aS⟩:=dY a6 J;exact cK (bB.W H) aS Φ y
   .exact cK (bB.W H) a8 Φ y
  .exact ((nu.V cW (H.V λ_=>False) λ_ _ _ h=>h).V ao λr _ y J=>bF r J y).Y λr y=>.inl y
 have aY:=bq.W aO;have b9:=cd.W aO;have dc:∀r,A r->r<w.heap.size:=h.1.2.2.2;obtain⟨_,⟨_,_,dE⟩,dF,dG⟩:=id bq;have dH:cs.length<=4096:=Ω
 have bl:∀{ap:x5}{aQ aR:x4}{X:Nat}{K:x4->x5->Prop},Ext aL ap->aL.heap.size<=X->aA .i64 av ap X aQ [1]->aN .i64 ap aR cs->
   (∀Q W C,Ext aL C->af (λr=>r=X) ap C->w.heap.size<=W->aA .i64 av C W Q (1::cs)->(Ext aL C->K Q C))->aF v8 (Z9 #[aw,aw] aw #[aQ,aR]) ap K:=by
  intro ap aQ aR X K z bm aq aD dd;refine kp aw.u av.i rfl aq aD Θ Θ λQ W C S M au=>?_;have B:=z.put au Ω;have de:=z.size;exact dd Q W C B au Ω M B
 have aI:∀{v:x4}{ba:Nat}{df:j0}{e:o5}{dg:x5}{l:Λ},aA df e dg ba v l->w.heap.size<=ba->∀r,lw v r->¬A r:=λhm dI r y di=>by
  obtain⟨h1,_⟩:=bZ hm y;have:=dc r di;omega
 refine⟨?_,?_⟩
 .refine (mh b9 Ω).Y ?_;rintro ac dk _ ⟨N,a1,bS,G⟩;have z5:=N.size;refine⟨.inl N,?_,?_⟩
  .refine (qn (aY.W N)).Y ?_;rintro _ ca _ ⟨rfl,O⟩;have Y:=N.F O;have dJ:=Y.size;have dK:=O.size;have cb:=(aY.W N).W O;refine⟨.inl Y,?_,?_⟩
   .refine eT aw.u av.i rfl λaQ X ap bm z aq=>?_;refine⟨.inl (Y.F z),?_⟩;refine(n1 (cb.W z)).Y ?_;rintro aR bJ _ ⟨P,bK,bL,aD⟩;have ag:=(Y.F z).F P;refine⟨.inl ag,?_⟩;refine bl ag Ω (aq.W P) aD.ls λQ W C B au S M _=>⟨.inl B,?_⟩;have aC:=bA (((G.W O).W z).W P) au λr y he=>by have he:r=X:=he;obtain⟨h1,aX⟩:=bZ G y;omega
    exact bg B Ω S aC M λr y=>y.elim (aI G Ω r) (aI M S r)
   .refine (n1 cb).Y ?_;rintro aR ap _ ⟨z,bK,bL,aD⟩;refine⟨.inl (Y.F z),?_⟩;have de:=z.size;refine eT aw.u av.i rfl λaQ X bJ bm P aq=>?_;have ag:=(Y.F z).F P;refine⟨.inl ag,?_⟩;refine bl ag Ω aq (aD.ls.W P) λQ W C B au S M _=>⟨.inl B,?_⟩;have aC:=bA (((G.W O).W z).W P) au λr y he=>by have he:r=X:=he;obtain⟨h1,aX⟩:=bZ G y;omega
    exact bg B Ω S aC M λr y=>y.elim (aI G Ω r) (aI M S r)
  .refine eT aw.u av.i rfl λaQ X ca bm O aq=>?_;have Y:=N.F O;refine⟨.inl Y,?_⟩;refine(qn ((aY.W N).W O)).Y ?_;rintro _ ap _ ⟨rfl,z⟩;have bb:=Y.F z;refine⟨.inl bb,?_⟩;refine(n1 (((aY.W N).W O).W z)).Y ?_;rintro aR bJ _ ⟨P,bK,bL,aD⟩;have ag:=bb.F P;refine⟨.inl ag,?_⟩;refine bl ag Ω ((aq.W z).W P) aD.ls λQ W C B au S M _=>⟨.inl B,?_⟩;have aC:=bA (((G.W O).W z).W P) au λr y he=>by have he:r=X:=he;obtain⟨h1,aX⟩:=bZ G y;omega
   exact bg B Ω S aC M λr y=>y.elim (aI G Ω r) (aI M S r)
 .refine eT aw.u av.i rfl λaQ X dk bm N aq=>?_;refine⟨.inl N,?_⟩;have z5:=N.size;have dL:=uk aq Ξ;refine(mh (b9.W N) Ω).Y ?_;rintro ac ca _ ⟨O,a1,bS,G⟩;have Y:=N.F O;refine⟨.inl Y,?_⟩;refine(qn ((aY.W N).W O)).Y ?_;rintro _ ap _ ⟨rfl,z⟩;have bb:=Y.F z;refine⟨.inl bb,?_⟩;refine(n1 (((aY.W N).W O).W z)).Y ?_;rintro aR bJ _ ⟨P,bK,bL,aD⟩;have ag:=bb.F P;refine⟨.inl ag,?_⟩;refine bl ag Ω (((aq.W O).W z).W P) aD.ls λQ W C B au S M _=>⟨.inl B,?_⟩;have aC:=bA ((G.W z).W P) au λr y he=>by have he:r=X:=he;obtain⟨h1,aX⟩:=bZ G y;omega
  exact bg B Ω S aC M λr y=>y.elim (aI G Ω r) (aI M S r)
theorem jg{P:V3}{t G:o5}{k:j0}{b g:Nat}{x:x4}{m:Λ}{K:x4->x5->Prop}(y:P.underlying t=σ (.slice e))(hi:aR P e 1 b z)(A:z.cells.size=1)(h:aA k e w g v l)(B:aN k w x m)(C:(l.length+m.length)*b<=140737488355328)(E:l.length+m.length<=9223372036854775807)(F:∀a f I,aA k e I f a (l++m)->(∀r,lw a r->lw v r\/w.heap.size<=r)->af (λr=>lw v r) w I->K a I):aF P (Z9 #[t,t] G #[v,x]) w K:=by
 rcases h.2 with⟨p,H⟩|⟨cap,cs,p,M,N⟩
 .have J:=Z5 H;subst J;have aW:aA k e w w.heap.size v []:=by rw[p];exact aA.nil _ _ _ _
  refine kp y hi A aW B C E λa f I q hm s=>F a f I hm (λr j=>.inr ?_) (s.Y λr j he=>by have he:r=w.heap.size:=he;omega);obtain⟨L,_⟩:=bZ hm j;omega
 .refine kp y hi A h B C E λa f I q hm s=>F a f I hm (λr j=>?_) (s.Y λr j he=>⟨_,_,_,p,he.symm⟩);obtain⟨L,_⟩:=bZ hm j;rcases q with q|q
  .exact .inl ⟨_,_,_,p,by show g=r;omega⟩
  .exact .inr Ω
def addVar(s:ak)(u:Λ):ak:={s with d6:=s.d6++[newVar u]}
theorem Pz(s:ak)(u:Λ):jG (addVar s u)=jG s++[((3+(s.d6.flatMap iK).length:Nat):Int)]:=by
 unfold jG addVar;rw[o9,T5,List.range_succ,Z3];congr 1
 .apply List.map_congr_left;intro i hi;have:=S2.1 hi;unfold gX;simp only[List.take_append_of_le_length (show i<=s.d6.length by omega)]
 .simp[gX]
theorem PA{s:ak}{u:Λ}(a:s.d9=[]):(addVar s u).cells=s.cells++(0::0::u):=by
 unfold ak.cells addVar j8;simp only[a,List.flatMap_nil,U2,List.flatMap_append,List.flatMap_singleton,T6];rfl
def e5(n:aH)(i j:Nat):ak:=⟨n.zero,(n.unary.take i).map newVar,(n.d9.take j).map (lN n.co),[]⟩
theorem Ev{n:aH}{i:Nat}{u:Λ}(h:n.unary[i]?=σ u):e5 n (i+1) 0=addVar (e5 n i 0) u:=by
 unfold e5 addVar;simp only[r9,h,j6,Z3,List.map_singleton]
theorem PB{n:aH}{i:Nat}{g:cQ}(h:n.d9[j]?=σ g):e5 n i (j+1)=kc (e5 n i j) g.1 (bN n.co g.1) g.2:=by
 unfold e5 kc;simp only[r9,h,j6,Z3,List.map_singleton];rfl
theorem xT(n:aH):e5 n n.unary.length n.d9.length=cR n:=by
 unfold e5 cR;rw[j4,j4]
theorem xU{α β:Type}{f:α->List β}{b:Nat}:∀{L:List α},(∀x∈L,(f x).length<=b)->(L.flatMap f).length<=L.length*b
 |[],_=>Ξ
 |x::L,h=>by
  rw[V6,o9,Y0,U6];have:=xU λy a=>h y (.tail _ a);have:=h x (.head _);omega
theorem uJ{n:aH}(a:k4 n)(A:n.d9.length<=256)(i j:Nat):(e5 n i j).cells.length<=2000000:=by
 rw[xM];have h1:=xU (f:=iK) (b:=34) (L:=(e5 n i j).d6) λx h=>by
  obtain⟨u,hu,rfl⟩:=j5.1 (show x∈(n.unary.take i).map newVar from h);obtain⟨p,ac⟩:=X8.1 (T1 hu);have B:=a.lL;have C:=(x6.1 ac).1;obtain⟨z,q⟩:=aD (l:=n.co) (i:=p) Ω;have s:=(a.unary p z u q ac).1;have e:=a.co.2.2 z (x7 q);show u.length+2<=34;omega
 have s:=xU (f:=je) (b:=4097) (L:=(e5 n i j).d9) λx h=>by
  obtain⟨g,w,rfl⟩:=j5.1 (show x∈(n.d9.take j).map (lN n.co)from h);have e:=(a.d9 g (T1 w)).1;have r:=e.len;have y:=e.small;show g.2.length+1<=4097;omega
 have e:(e5 n i j).d6.length<=64:=by
  show((n.unary.take i).map newVar).length<=64;rw[r8,o8];have:=a.lL;have:=a.co.2.1;omega
 have r:(e5 n i j).d9.length<=256:=by
  show((n.d9.take j).map (lN n.co)).length<=256;rw[r8,o8];omega
 have y:=X4 34 e;have E:=X4 4097 r;omega
def Plain(t:az):Prop:=t.marks=[]/\t.olds=[]/\iA t []/\t.ku=0
theorem Plain.set{t:az}(h:Plain t)(i:Nat)(x:Int):Plain (t.set i x):=⟨(az.xO _ _ _).F h.1,(az.xP h.1 _ _).F h.2.1,h.2.2.1.set,(az.El _ _ _).F h.2.2.2⟩
theorem Plain.lay{t:az}(h:Plain t)(l:Λ):Plain (n7 t l):=⟨(r5 _ _ _).F h.1,(Ep h.1 _ _).F h.2.1,h.2.2.1.fU l _,(Eo _ _ _).F h.2.2.2⟩
theorem Plain.put{s:ak}{t:az}(h:Plain t)(cs:Λ):Plain (ps s t cs):=(h.lay _).set _ _
def PC(w:x5)(R0:ah)(n:aH)(v:x4)(I:x5):Prop:=Ext w I/\∃ad ae A R t,v=Γ ad/\StateM I ad ae A R n (cR n) t/\t.b1=(cR n).cells/\Plain t/\(∀r,A r->w.heap.size<=r)/\∀r,R r->R0 r\/w.heap.size<=r
theorem PD{w0:x5}{R0:ah}{C:Nat}{n:aH}(aJ:gq w0 C n)(an:Ext w0 w)(ba:∀r o,w0.heap[r]?=σ o->fH o=v2->R0 r)(aL:∀r,R0 r->r<w.heap.size)(y:k4 n)(bb:n.d9.length<=256):al v8 As [Γ C] w (PC w R0 n):=by
 have h:=aJ.W an;have bO:=y.lL;have cU:=y.co.2.1;refine aB func62 ?_;rw[dg nL.u];simp only[Y2,a6];refine(Pk (n:=3) Ω).Y ?_;rintro _ U _ ⟨ao,ae,rfl,bP⟩;rw[dm (cs:=#[Γ C,Γ ae,.slice ν 0 0,.slice ν 0 0,.slice ν 0 0]) Ψ];refine bp λad aa cW O P=>?_;have P:=P;have cX:=ao.size;have cY:=O.size;have cZ:=P.lt;have bQ:eY aa ad ae C (.slice ν 0 0) (.slice ν 0 0) (.slice ν 0 0) (λr=>r=ad\/(w.heap.size<=r/\r<U.heap.size)) R0 n ⟨0,[],[],[]⟩ ⟨o6 3 ⟨0,0⟩,[],[],0⟩:=by
  refine⟨⟨.inl rfl,λr q I=>?_,λr q=>?_,λr q=>?_⟩,0,0,0,[],[],λr=>w.heap.size<=r/\r<U.heap.size,w0,P,⟨aJ,an.F (ao.F O),ba⟩,⟨(bP.cut).W O,λr q=>.inr q,λq=>?_,λr q=>?_⟩,aA.nil _ _ _ _,⟨bj.nil _ _ _ _ _,rfl,λj x f Q=>by simp at Q⟩,bj.nil _ _ _ _ _,rfl,λj x f Q=>by simp at Q⟩
  .have I:=aL r I;rcases q with q|q<;>omega
  .have q:=aL r q;omega
  .rcases q with q|q<;>omega
  .omega
  .rcases q with q|q|q
   .obtain⟨a,c0,c,aN,c1⟩:=q;cases aN
   .exact (fm q).elim
   .exact (fm q).elim
 intro c2 S _ _;have bR:=bQ.W S;rw[aK cV.p 1 (P.W S) rfl];refine(Pr (h.W ((ao.F O).F S))).Y ?_;rintro _ c3 _ ⟨rfl,ap⟩;refine⟨.inl ap,?_⟩;have bS:=bR.W ap;obtain⟨aO,bT,bU⟩:=bS.r4;refine(uE bT rfl Φ ⟨Ξ,Ξ,Ξ⟩).Y ?_;rintro _ bV _ ⟨_,bX,b0,b2⟩;obtain⟨b3,bd,aQ⟩:=bU bX bV _ b0 b2;have aQ:=aQ.same (Ej ⟨0,[],[],[]⟩ n.zero);have z3:=S.size;have z4:=ap.size;have b4:=((ao.F O).F S).F ap;have be:=b4.then bd.1 λr q he=>by rcases he with he|he<;>omega
 refine(xN (h.W be)).Y ?_;rintro _ c4 _ ⟨rfl,bf⟩;refine bW.range n.co.length (λi au=>∃A G t,Ext w au/\eY au ad ae C G (.slice ν 0 0) (.slice ν 0 0) A R0 n (e5 n i 0) t/\t.b1=(e5 n i 0).cells/\Plain t/\∀r,A r->w.heap.size<=r) Ω
  ⟨b3,_,_,be.F bf,aQ.W bf,?_,?_,λr q=>?_⟩ ?_ ?_
 .rw[az.ri];rfl
 .exact Plain.set ⟨rfl,rfl,⟨rfl,rfl,λc z=>by rw[(List.mem_replicate.1 z).2];exact o4 _,W0 _⟩,rfl⟩ _ _
 .rcases bd.2.1 r q with he|he
  .rcases he with he|he<;>omega
  .omega
 .rintro i au b5 hi ⟨A,G,t,M,aR,W,X,ax⟩ b6;obtain⟨u,hu⟩:=aD (l:=n.unary) (i:=i) Ω;obtain⟨bg,bh⟩:=aD (l:=n.co) (i:=i) Ω;have c5:u.length<=32:=by
   have c6:=(y.unary i bg u bh hu).1;have c7:=y.co.2.2 bg (x7 bh);omega
  refine bG Ω ?_;refine(Eg (h.W M) y).Y ?_;rintro c8 c9 _ ⟨b7,_,b8⟩;obtain⟨da,db,b9⟩:=b8 u Ω (by rw[u9];exact hu);intro bi bk _ _;have aS:=b7.F bk;have bl:=aR.W aS;obtain⟨⟨_,_,_,Y⟩,bc,bm,ge,L,E,aO,w0,ay,_⟩:=id bl;have dc:=aS.size;have dd:=M.size;rw[aK cV.p 2 ay rfl];refine Bv (l:=[0,0]) aw.u av.i Ω rfl Ψ λca de df dh aC bn=>?_;refine⟨.inl aC,?_⟩;refine jg aw.u av.i rfl bn ((b9.W bk).ls.W aC) Θ Θ λcb di dj cc cf cg=>?_;have bo:∀r,lw ca r->bi.heap.size<=r:=λr q=>by obtain⟨aN,_⟩:=bZ bn q;omega
  have aE:=aC.then cg λr q he=>by have:=bo r he;omega
  refine⟨.inl aE,?_⟩;have ch:=bl.W aE;have ci:∀r,lw cb r->bi.heap.size<=r:=λr q=>by
   rcases cf r q with h|h
   .exact bo r h
   .have:=aC.size;omega
  have cj:t.cells.length<=2000000:=by
   have h1:=uJ y bb i 0;rw[<-W]at h1;unfold az.b1 at h1;rwa [r8]at h1
  have ck:t.olds.length=0:=by rw[X.2.1];rfl
  have cl:t.marks.length=0:=by rw[X.1];rfl
  refine(Eu ch cc.ls (λr q s=>by have:=Y r s;have:=ci r q;omega) Θ Θ Ω).Y ?_;rintro _ dk _ ⟨rfl,_,aT,aW,cm⟩;obtain⟨⟨bq,br,cn,bs⟩,bc,bm,ge,L,E,aO,w0,ay,⟨cp,cq,bu⟩,⟨cr,bw,bx,aF⟩,ct,⟨cu,cw⟩,cz,cA⟩:=id cm;refine⟨.inr (uH ay (λK=>by rw[aU cV.p rfl]) Ψ rfl),?_⟩;refine eT aq.u ai.i rfl λdl dn bz dp B cB=>?_;have aX:=ay.W B;refine⟨.inr (uH aX (λK=>by rw[aU cV.p rfl]) Ψ rfl),?_⟩;have bB:(jG (e5 n i 0)).length=i:=by
   unfold jG e5;simp only[r8,List.length_range,o8];omega
  have bC:=ct.W B;refine jg aq.u ai.i rfl bC cB.ls (by rw[bB];simp;omega) (by rw[bB];simp;omega) λcC cD dq Z cE bD=>?_;have bE:=aX.V bD λhe=>ce bC aX Φ he rfl;rw[bY,aU cV.p rfl];refine bt aq.i Z.ls.cells.1 Z.ls.cells.2 bE Ξ λbF aY dr aZ=>?_;have aZ:=aZ;rw[aP];have z:af (λr=>lw G r\/r=ad) bz bF:=(bD.Y λr _ h=>.inl h).F (aY.Y λr _ h=>.inr h);have ds:=aE.size;have z12:=aW.1.size;have dt:=B.size;have du:=z.size;have bH:∀r,aT r->w.heap.size<=r:=λr q=>(aW.2.1 r q).elim (ax r) λh=>Ω
  have bI:∀r,(lw G r\/r=ad)->aT r:=λr q=>q.elim (λq=>(aF r (.inl q)).1) λq=>q▸bq;have cF:(e5 n (i+1) 0).cells=(e5 n i 0).cells++(0::0::u):=by rw[Ev hu];exact PA rfl
  have cG:t.cells.length=3+((e5 n i 0).d6.flatMap iK).length:=by
   have h1:=congrArg Q2 W;rw[xM]at h1;unfold az.b1 at h1;rw[r8]at h1;have:((e5 n i 0).d9.flatMap je).length=0:=by simp[e5]
   omega
  refine b6 _ ⟨λr=>aT r\/(bz.heap.size<=r/\r<bF.heap.size),cC,n7 t ([0,0]++u),?_,⟨⟨.inl bq,λr q I=>?_,λr q=>by have:=cn r q;omega,λr q=>?_⟩,cD,bm,ge,L,E,aO,w0,aZ,⟨cp,uF (cq.F B) z λr o q cH J=>br r (bI r J) (bu r o q cH),bu⟩,⟨(cr.W B).V z λr q J=>?_,λr q=>.inl (bw r q),bx,λr q=>?_⟩,?_,⟨(cu.W B).V z λr q J=>?_,?_⟩,(cz.W B).V z λr q J=>?_,?_⟩,?_,X.lay _,λr q=>?_⟩
  .exact ((M.F (aS.F aE)).then aW.1 λr q he=>by have:=ax r he;omega).F B |>.then z λr q J=>by have:=bH r (bI r J);omega
  .rcases q with q|q
   .exact br r q I
   .have I:=aL r I;omega
  .rcases q with q|q
   .have:=bs r q;omega
   .exact q.2
  .rcases J with J|rfl
   .exact (aF r (.inl J)).2 q
   .exact bx q
  .rcases q with q|q|q
   .have dv:=(bZ Z q);rcases cE r q with h|h
    .exact⟨.inl (aF r (.inl h)).1,(aF r (.inl h)).2⟩
    .refine⟨.inr ⟨h,by have:=aY.size;omega⟩,λcI=>by have:=bs r (bw r cI);omega⟩
   .exact (fm q).elim
   .exact (fm q).elim
  .rw[Ev hu,Pz,<-cG];exact bA Z aY λr q he=>by
    have he:r=ad:=he;subst he;exact ce Z bE Φ q rfl
  .exact (fm q).elim
  .refine⟨cw.1,λj x f Q a1=>?_⟩;have a1:((n.d9.take 0).map (lN n.co))[j]?=σ f:=a1;simp at a1
  .exact (fm q).elim
  .refine⟨cA.1,λj x e Q he=>?_⟩;have he:([]:List xK)[j]?=σ e:=he;simp at he
  .rw[Es,cF,W];rfl
  .rcases q with q|q
   .exact bH r q
   .omega
 .rintro au b5 ⟨A,G,t,M,aR,W,X,ax⟩;refine cd Ω ?_;refine(Ef (h.W M)).Y ?_;rintro _ dw _ ⟨rfl,bJ⟩;refine bW.range n.d9.length (λj ab=>∃A R aG t,Ext w ab/\eY ab ad ae C G aG (.slice ν 0 0) A R n (e5 n n.co.length j) t/\t.b1=(e5 n n.co.length j).cells/\Plain t/\(∀r,A r->w.heap.size<=r)/\∀r,R r->R0 r\/w.heap.size<=r) Ω
   ⟨A,_,_,t,M.F bJ,aR.W bJ,W,X,ax,λ_ h=>.inl h⟩ ?_ ?_
  .rintro j ab cJ cK ⟨A,R,aG,t,H,ac,N,ag,aj,a2⟩ cL;obtain⟨g,aI⟩:=aD (l:=n.d9) cK;have a7:=(y.d9 g (x7 aI)).1;refine bG Ω ?_;refine(Ps (h.W H) y aI).Y ?_;rintro aV dx _ ⟨ak,gs,dy,bK⟩;refine(Pu aJ (an.F (H.F ak)) aI).Y ?_;rintro _ dz _ ⟨am,gt,dA,cM,rfl,dC,dD,cN,bL⟩;have z0:=an.size;have cO:∀r,lw cM r->r<w.heap.size:=λr q=>by obtain⟨c,a8⟩:=bL r q;have:=a8.lt;omega
   have cP:=(ac.W ak).W am;have Y:∀r,A r->r<ab.heap.size:=ac.1.2.2.2;have dE:=ak.size;have cj:t.cells.length<=2000000:=by
    have h1:=uJ y bb n.co.length j;rw[<-N]at h1;unfold az.b1 at h1;rwa [r8]at h1
   have ck:t.olds.length=0:=by rw[ag.2.1];rfl
   have cl:t.marks.length=0:=by rw[ag.1];rfl
   have dF:g.2.length<=4096:=by have:=a7.len;have:=a7.small;omega
   have dG:=a7.scope.2;refine(Py (sc:=g.1) cP N (bK.ls.W am) (λr q s=>by have:=Y r s;obtain⟨aN,_⟩:=bZ bK q;omega) cN ⟨λs=>by have:=Y _ s;omega,λs=>by have:=Y _ s;omega,λr q s=>by have:=aj r s;have:=cO r q;omega⟩ Ω Ω Ω Ω ?_).Y ?_
   .show ((n.d9.take j).map (lN n.co)).length<=_;rw[r8,o8];omega
   rintro _ dH _ ⟨rfl,_,aM,R',cQ,bM,cS,dI,cT⟩;rw[aP];have bN:=PB (i:=n.co.length) aI;refine cL _ ⟨aM,R',cQ,ps (e5 n n.co.length j) t g.2,((H.F ak).F am).then bM.1 (λr q s=>by have:=aj r s;omega),?_,?_,ag.put _,λr q=>?_,λr q=>?_⟩
   .rw[bN];exact cS
   .rw[bN];exact Px N
   .rcases bM.2.1 r q with h|h
    .exact aj r h
    .have:=H.size;have:=am.size;omega
   .rcases cT r q with h|h|h
    .exact a2 r h
    .exact .inl (by obtain⟨c,a8⟩:=bL r h;exact ba r _ a8 rfl)
    .exact .inr (by have:=H.size;have:=ak.size;have:=am.size;omega)
  .rintro ab cJ ⟨A,R,aG,t,H,ac,N,ag,aj,a2⟩;refine cd Ω ?_;have e:e5 n n.co.length n.d9.length=cR n:=by rw[<-bO];exact xT n
   rw[e]at ac N;exact⟨H,ad,ae,A,R,t,rfl,⟨C,G,aG,_,ac⟩,N,ag,aj,a2⟩
theorem PE(L:Bytes l)(V:l.length<=100000):al v8 Jr [ca l] w λv I=>v=lF l/\Ext w I:=by
 refine aB func180 ?_;refine jo (λad ae U=>Ext w U/\∃(m:Λ)(s:Int),ad=ca m/\ae=Δ s/\Bytes m/\m.length<=100000/\qi l m s) ?_ ?_
 .rintro _ _ U ⟨M,m,s,rfl,rfl,H,ay,J⟩;rw[o3 da.u,bm,am];refine⟨λN=>?_,λN=>?_⟩
  .have O:m=[]:=Z5 Ω;exact⟨by rw[tJ J (by rw[O];rfl)],M⟩
  have O:m≠[]:=λh=>N (by rw[h];rfl);refine qU.range m.length (λi _ _ P Q f=>Ext U f/\∃(n:Int)(a:Bool),P= .int .u64 n/\Q= .bool a/\nR n a ((m.take i).foldl fb 0)/\(m.take i).all gE=v2) Ω ⟨Ext.refl _,0,v6,rfl,rfl,K7,rfl⟩ ?_ ?_
  .rintro i af t3 _ _ f ag hi ⟨B,n,a,rfl,rfl,p,C⟩ ah;obtain⟨b,q⟩:=aD (l:=m) hi;have az:=H b (x7 q);rw[o3 da.u];refine bG Ω ?_;refine BA (λ_ _ P Q j=>Ext U j/\∃(n:Int)(a:Bool),P= .int .u64 n/\Q= .bool a/\nR n a ((m.take (i+1)).foldl fb 0)/\(m.take (i+1)).all gE=v2) ?_ ?_
   .rintro aA aC a3 a4 j ai;rw[aP];exact ah _ _ _ _ _ ai
   intro ax z;refine aZ (λv j=>f=j/\v= .bool (!gE b)) ?_ ?_
   rotate_left
   .intro R e;rw[rk rfl da.u H q,aS,am];refine⟨λh=>e _ _ ⟨rfl,by unfold gE;rw[s2 Ω];rfl⟩,λh=>?_⟩;rw[rk rfl da.u H q,bU];refine e _ _ ⟨rfl,?_⟩;unfold gE;congr 1;by_cases W:57<b
    .rw[rs W,s2 Ω];rfl
    .rw[s2 W,rs Ω];rfl
   rintro _ _ ⟨rfl,rfl⟩;cases S:gE b with
   |false=>
    rw[W6,bQ];exact⟨by rw[tJ J (Cn q S)],M.F B⟩
   |true=>
    rw[X3,a6];have aj:=ty S;have K:=K6 p aj;rw[Cl q,Ck q,C,S]at z;have ak:=p.1;have an:=p.2.1;refine aZ (λv j=>f=j/\v= .bool (a||decide (461168601842738790<n))) ?_ ?_
    rotate_left
    .intro R e;rw[bU,am];refine⟨λh=>e _ _ ⟨rfl,by rw[rs h,Bool.or_true]⟩,λh=>e _ _ ⟨rfl,by rw[s2 h,Bool.or_false]⟩⟩
    rintro _ _ ⟨rfl,rfl⟩;by_cases E:a=v2\/461168601842738790<n
    .have r:(a||decide (461168601842738790<n))=v2:=by rcases E with h|h<;>simp[h]
     rw[ms E,r]at K;rw[r,bM,X3,a6];exact z _ _ _ _ _ ⟨B,n,v2,rfl,rfl,K,rfl⟩
    .have r:(a||decide (461168601842738790<n))=v6:=by
      cases a with
      |true=>exact ro (.inl rfl) E
      |false=>simp;omega
     rw[rc E,r]at K;have aE:¬461168601842738790<n:=λh=>E (.inr h);rw[r,bM,W6,bQ,fz,rk rfl da.u H q,dx,wrap_u8 Ω Ω,fA cN.u fK.u,m2 Ω Ω,m2 Ω Ω,aP,m2 Ω Ω];exact z _ _ _ _ _ ⟨B,_,v6,rfl,rfl,K,rfl⟩
  .rintro af t3 _ _ f ag ⟨B,n,a,rfl,rfl,p,C⟩;rw[j4]at C p;rw[o3 da.u];refine cd Ω ?_;have X:=K8 p;have ak:=p.1;have an:=p.2.1;have ao:∀{x:Int},x=m.foldl fb 0->0<=x->x<=4611686018427387904->(ab v8 (convert fK av (.int .u64 x)) f λap=>
     ab v8 (aO .mul av v6 v6 (Δ s) ap) f λaq=>(λv I=>v=lF l/\Ext w I) (.tuple #[aq,(Δ 0)]) f):=by
    intro x au N h1;rw[fA fK.u av.u,m1 Ω Ω,fz];have hw:W5.wrap (s*x)=s*x:=by
     rcases J.1 with rfl|rfl<;>exact m1 Ω Ω
    rw[hw];refine⟨?_,M.F B⟩;rw[Cq J (Cm O C),au]
   refine aZ (λv j=>f=j/\v= .int .u64 (m.foldl fb 0)) ?_ ?_
   .rintro _ _ ⟨rfl,rfl⟩;have Y:=tw C ⟨S0 _,Φ⟩;exact ao rfl Y.1 Y.2
   intro R e;refine aZ (λv j=>f=j/\v= .bool (a||decide (4611686018427387904<n))) ?_ ?_
   .rintro _ _ ⟨rfl,rfl⟩;rw[b4];refine⟨λh=>e _ _ ⟨rfl,?_⟩,λh=>e _ _ ⟨rfl,?_⟩⟩
    .have aW:a=v2\/4611686018427387904<n:=by simpa using h
     rw[X,ms aW]
    .have aW:¬(a=v2\/4611686018427387904<n):=by
      intro G;rcases G with G|G
      .simp[G]at h
      .simp[G]at h
     rw[X,rc aW]
   .intro aF Z;cases a with
    |true=>rw[bQ];exact Z _ _ ⟨rfl,rfl⟩
    |false=>rw[a6,bU];exact Z _ _ ⟨rfl,by rw[Bool.false_or]⟩
 .intro ax z;refine aZ (λv aa=>w=aa/\∃c:Bool,v= .bool c/\(c=v2↔l[0]?=σ 45)) ?_ ?_
  .rintro _ _ ⟨rfl,c,rfl,ac⟩;rw[b4];refine⟨λaw=>?_,λr=>?_⟩
   .obtain⟨m,rfl⟩:∃m,l=45::m:=by
     have:=ac.1 aw;cases l with
     |nil=>simp at this
     |cons x m=>exact⟨m,by simp at this;rw[this]⟩
    rw[BE (y:=1) (i:=1) rfl da.u Ξ];exact z _ _ _ ⟨Ext.refl _,m,-1,rfl,rfl,λb A=>L b (.tail _ A),by simp at V;omega,Co⟩
   .refine z _ _ _ ⟨Ext.refl _,l,1,rfl,rfl,L,V,Cp λb A he=>?_⟩;subst he;have:=ac.2 A;rw[r]at this;cases this
  .intro R e;rw[o3 da.u,bU,am];refine⟨λh=>?_,λh=>e _ _ ⟨rfl,v6,rfl,?_⟩⟩
   .obtain⟨b,A⟩:=aD (l:=l) (i:=0) Ω;rw[rk (y:=0) rfl da.u L A,bm];refine e _ _ ⟨rfl,_,rfl,?_⟩;rw[sp,A];exact⟨λh=>by rw[h],λh=>Z4 h⟩
   .have:l=[]:=Z5 Ω;subst this;simp
theorem PF{s:Go.Sem x4}(h:ab v8 s w λu=>u=v)(hk:K v):ab v8 s w K:=by
 obtain⟨u,h1,rfl⟩:=h;exact⟨u,h1,hk⟩
abbrev iM:Type:=Λ×Int
def gY(x:iM):List x4:=[ca x.1,Δ x.2]
theorem xV(x:iM):∀u∈gY x,u.oneCell'=v2:=by
 intro u hu;simp[gY]at hu;rcases hu with rfl|rfl<;>rfl
def kd(w:x5)(v:x4)(L:List iM):Prop:=cc w 2 v L.length (L.flatMap gY)
theorem xW{g:Nat}{L:List iM}(h:bj gY 2 cD w g v L):kd w v L:=h.sl
theorem Ew{L:List iM}(h:kd w v L):ab v8 (V0 #[fy] a #[v]) w K=K (Δ (L.length:Int)):=by
 obtain⟨_,_,_,_,_,rfl,_⟩:=h;exact iV fy.u
theorem PG{k n:Nat}{cs:List x4}(h:cc w k v n cs)(f:af S w I)(p:∀r,lm v r->¬S r):cc I k v n cs:=by
 obtain⟨h1,b,o,base,cap,rfl,q,s,e,x⟩:=h;refine⟨h1,b,o,base,cap,rfl,q,s,e,?_⟩;rcases Q8 n with a|a
 .have:cs=[]:=Z5 (by rw[h1,a,Nat.zero_mul]);subst this;intro j v y;simp at y
 .have z:=e a;exact iz f (p b ⟨⟨b,o,ν⟩,n,cap,by rw[z],rfl⟩) x
theorem kd.V{L:List iM}(h:kd w v L)(a:af S w I)(e:∀r,lm v r->¬S r):kd I v L:=PG h a e
theorem Ex{x:iM}{L:List iM}(h:kd w v (x::L))(a:∀b o,w.rangeAt b o (gY x)->K (.pointer (σ ⟨b,o,ν⟩))):ab v8 (c9 fy v (Δ 0)) w K:=by
 obtain⟨_,b,o,base,cap,rfl,_,_,e,f⟩:=h;have:=eS (P:=v8) (w:=w) (K:=K) (k:=.i64) (c:=cap) fy.u cD.i (show 0<(x::L).length by simp) e;rw[show((0:Nat):Int)=0 from rfl]at this;rw[this];refine a _ _ λj u hu=>?_;have p:=(x6.1 hu).1;rw[Nat.zero_mul,Nat.add_zero];exact f j u (by rw[V6,Y4 p];exact hu)
theorem PH{x:iM}{L:List iM}(h:kd w v (x::L))(s:∀j,(∀I,kd I v (x::L)->kd I j L)->(∀r,lm j r->lm v r)->K j):ab v8 (U4 fy v (σ (Δ 1)) ν ν) w K:=by
 have B:=h;obtain⟨_,b,o,base,cap,rfl,C,_⟩:=h;rw[ig fy.u cD.i (oS 1 1 rfl) kR fh Ξ Ω (o4 _)];refine s _ (λI y=>?_) λr z=>?_
 .have:=cc.part (l:=1) (h:=(x::L).length) (m:=cap) y Ξ (o4 _) Ω (o4 _);have e:(((x::L).flatMap gY).drop (1*2)).take (((x::L).length-1)*2)=L.flatMap gY:=by
   rw[V6];have A:(L.flatMap gY).length=L.length*2:=iF λ_ _=>rfl;show(L.flatMap gY).take _=_;rw[Z0 (by rw[A,Y0,Nat.add_sub_cancel];exact o4 _)]
  rw[e]at this;exact this
 .obtain⟨a,n,c,f,p⟩:=z;split at f
  .cases f;exact⟨_,_,_,rfl,p⟩
  .cases base with
   |none=>cases f
   |some q=>cases f;exact⟨_,_,_,rfl,p⟩
theorem PI{g n:Nat}{L:List iM}(x:y=(n:Int))(h:bj gY 2 cD w g v L)(z:n<=L.length)(A:∀p,kd w p (L.take n)->(∀r,lm p r->lm v r)->K p):ab v8 (U4 fy v ν (σ (Δ y)) ν) w K:=by
 have B:=xW h;obtain⟨_,b,o,base,cap,rfl,F,_⟩:=h.sl;rw[ig fy.u cD.i jW (oT n y x) fh (W0 _) Ω (o4 _)];refine A _ ?_ λr C=>?_
 .have:=cc.part (l:=0) (h:=n) (m:=cap) B (W0 _) z Ω (o4 _);have e:((L.flatMap gY).drop (0*2)).take ((n-0)*2)=(L.take n).flatMap gY:=by
   rw[Nat.zero_mul,List.drop_zero,Nat.sub_zero,rG (f:=gY) n λ_ _=>rfl]
  rw[e]at this;have E:(L.take n).length=n-0:=by rw[o8];omega
  unfold kd;rw[E];exact this
 .obtain⟨a,n,c,j,s⟩:=C;split at j
  .cases j;exact⟨_,_,_,rfl,s⟩
  .cases base with
   |none=>cases j
   |some q=>cases j;exact⟨_,_,_,rfl,s⟩
def PJ(w:x5)(pl:Λ)(v:x4)(I:x5):Prop:=Ext w I/\∃a L,∃bad:Int,v= .tuple #[a,Δ bad]/\kd I a L/\L.map (·.1)=(lex pl).1/\(0<=bad↔(lex pl).2=v6)/\(∀r,lm a r->w.heap.size<=r)/\∀r,lm a r->∃c,ag I r cD c
theorem PK{p:x4}(ac:aN .u8 w p pl)(ay:Bytes pl)(ba:pl.length<=65536):al v8 IH [p] w (PJ w pl):=by
 refine aB func119 ?_;rw[a1 cT.u ac];refine qU.range pl.length (λi _ _ z H U=>Ext w U/\∃g L,∃(j:List (Λ))(A:Λ)(op:Bool),H= .bool op/\bj gY 2 cD U g z L/\L.map (·.1)=(if op then j++[A]else j)/\(op=v2->A.length<=i)/\L.length<=i/\jx (pl.drop i) j A op=lex pl/\∀r,lm z r->w.heap.size<=r) ac.le
  ⟨Ext.refl _,0,[],[],[],v6,rfl,bj.nil _ _ _ _ _,rfl,(λh=>by cases h),o4 _,Lr pl,λr B=>(fm B).elim⟩ ?_ ?_
 rotate_left
 .rintro az t3 z H U aA ⟨E,g,L,j,A,op,rfl,C,y,_,_,q,G⟩;refine cd Ω ?_;rw[List.drop_length]at q;have q:(if op then j++[A]else j,v2)=lex pl:=q;exact⟨E,z,L,-1,rfl,xW C,by rw[y,<-q],by rw[<-q];simp,G,λr B=>by obtain⟨rfl,c,V⟩:=dY C B;exact⟨c,V⟩⟩
 rintro i az t3 z H U aA hi ⟨E,g,L,j,A,op,rfl,C,y,aj,bb,q,G⟩ aC;obtain⟨b,W⟩:=aD (l:=pl) hi;have bc:=ay b (x7 W);have ak:pl.drop i=b::pl.drop (i+1):=by rw[W3 hi,(x6.1 W).2]
 rw[ak]at q;unfold jx at q;refine bG Ω ?_;refine BA (λ_ _ z H X=>Ext w X/\∃g L,∃(j:List (Λ))(A:Λ)(op:Bool),H= .bool op/\bj gY 2 cD X g z L/\L.map (·.1)=(if op then j++[A]else j)/\(op=v2->A.length<=i+1)/\L.length<=i+1/\jx (pl.drop (i+1)) j A op=lex pl/\∀r,lm z r->w.heap.size<=r) ?_ ?_
 .rintro bd be a3 a4 X aF;rw[aP];exact aC _ _ _ _ _ aF
 intro ax an;rw[bk cT.u cN.i Ψ (ac.W E) W];refine aZ (λv I=>U=I/\v= .bool (cH b)) ?_ ?_
 rotate_left
 .intro Y s;unfold cH at s;rw[bm,am];refine⟨λh=>s _ _ ⟨rfl,by rw[rs (.inl h)]⟩,λh1=>?_⟩;rw[bm,am];refine⟨λh=>s _ _ ⟨rfl,by rw[rs (.inr (.inl h))]⟩,λQ=>?_⟩;rw[bm,am];refine⟨λh=>s _ _ ⟨rfl,by rw[rs (.inr (.inr (.inl h)))]⟩,λaG=>?_⟩;rw[bm];refine s _ _ ⟨rfl,?_⟩;congr 1;rw[U8,sp,sp];exact⟨λh=>.inr (.inr (.inr h)),λh=>by rcases h with h|h|h|h;exact ro h h1;exact ro h Q;exact ro h aG;exact h⟩
 rintro _ _ ⟨rfl,rfl⟩;cases J:cH b with
 |true=>
  rw[bQ];rw[ms J]at q;exact an _ _ _ _ _ ⟨E,g,L,_,[],v6,rfl,C,y,(λh=>by cases h),Ω,q,G⟩
 |false=>
  rw[a6];rw[rc (by rw[J];simp)]at q;refine aZ (λv I=>U=I/\v= .bool (!bV b)) ?_ ?_
  rotate_left
  .intro Y s;unfold bV at s;rw[aS,am];refine⟨λh=>s _ _ ⟨rfl,by rw[s2 Ω];rfl⟩,λh=>?_⟩;rw[bU];refine s _ _ ⟨rfl,?_⟩;by_cases Q:126<b
   .rw[rs Q,s2 Ω];rfl
   .rw[s2 Q,rs Ω];rfl
  rintro _ _ ⟨rfl,rfl⟩;cases hw:bV b with
  |false=>
   rw[W6,bQ];rw[rc (by rw[hw];simp)]at q;refine aZ (λv I=>U=I/\∃R,kd U v R/\R.map (·.1)=j/\(∀r,lm v r->w.heap.size<=r)/\∀r,lm v r->lm z r) ?_ ?_
   .rintro v _ ⟨rfl,R,Z,aH,S,aI⟩;exact⟨E,v,R,(i:Int),rfl,Z,by rw[aH,<-q],by rw[<-q];simp,S,λr B=>by obtain⟨rfl,c,V⟩:=dY C (aI r B);exact⟨c,V⟩⟩
   .intro Y s;cases op with
    |false=>
     rw[a6];rw[rc Ξ]at y;exact s _ _ ⟨rfl,L,xW C,y,G,λ_ h=>h⟩
    |true=>
     rw[bQ];rw[ms rfl]at y;have aa:L.length=j.length+1:=by have:=congrArg Q2 y;simpa using this
     rw[ew fy.u C,dx,m1 Ω Ω];refine PI (n:=j.length) Ω C Ω λN Z S=>s _ _ ⟨rfl,_,Z,?_,λr B=>G r (S r B),S⟩;rw[List.map_take,y,List.take_left]
  |true=>
   rw[X3,a6];rw[ms hw]at q;refine aZ (λz ad=>Ext w ad/\∃g M,∃x:iM,bj gY 2 cD ad g z (M++[x])/\M.map (·.1)=j/\x.1=(if op then A else[])/\(M++[x]).length<=i+1/\∀r,lm z r->w.heap.size<=r) ?_ ?_
   .rintro bf ad ⟨ao,aJ,M,x,aK,aL,ae,aM,ap⟩;intro af ag _ _;have O:=aK.W ag;have aq:(M++[x])[M.length]?=σ x:=Ξ
    have bg:(M++[x]).length=M.length+1:=Ξ
    rw[ew fy.u O,dx,m1 Ω Ω,cj (i:=M.length) Ω fy.u cD.i O Ω,aU cD.p rfl,aE (o:=M.length*2+0) Ψ (O.range aq 0 _ rfl),aP,m1 Ω Ω];obtain⟨bh,au⟩:∃N,aN .u8 af N [b]/\ab v8 (U4 cT p (σ (Δ (i:Int))) (σ (Δ ((i:Int)+1))) ν) af (λv=>v=N):=by
     have aO:=ac.W (ao.F ag);have:=tz (P:=v8) (low:=σ (Δ (i:Int))) (high:=σ (Δ ((i:Int)+1))) (K:=λv=>aN .u8 af v [b]) cT.u cN.i aO (oS i _ rfl) (oT (i+1) ((i:Int)+1) Ω) Ω Ω λN av=>by
      have e:((ints .u8 pl).drop (i*1)).take ((i+1-i)*1)=ints .u8 [b]:=by
       simp only[T0,show i+1-i=1 by omega];rw[ints,<-List.map_drop,<-List.map_take,ak];rfl
      rw[e]at av;exact aN.of av
     obtain⟨v,aQ,aR⟩:=this;exact⟨v,aR,v,aQ,rfl⟩
    refine PF au.2 ?_;have bi:x.1.length<=65536:=by
     rw[ae];cases op with
     |true=>rw[ms rfl];have:=aj rfl;omega
     |false=>simp
    rw[wM cT.u cN.u da.u au.1,wL Θ,cj (i:=M.length) Ω fy.u cD.i O Ω,aU cD.p rfl];refine kZ (a':=(x.1++[b],x.2)) da.i rfl rfl O aq rfl Ω λbl aT bn aw=>?_;have e:(M++[x]).set M.length (x.1++[b],x.2)=M++[(x.1++[b],x.2)]:=by
     rw[T4 _ _ (o4 _),V2];rfl
    rw[e]at aw;refine an _ _ _ _ _ ⟨(ao.F ag).then aT (λr B he=>by have:=ap r he;omega),aJ,_,j,x.1++[b],v2,rfl,aw,by rw[Z3,aL];rfl,λ_=>?_,by simp at aM ⊢;omega,?_,ap⟩
    .rw[o9,ae];cases op with
     |true=>rw[ms rfl];have:=aj rfl;simp;omega
     |false=>simp
    .rw[<-q,ae];cases op with
     |true=>rfl
     |false=>rfl
   .intro Y s;cases op with
    |true=>
     rw[bM,X3,a6];rw[ms rfl]at y;have aa:L.length=j.length+1:=by have:=congrArg Q2 y;simpa using this
     obtain⟨M,x,rfl⟩:∃M x,L=M++[x]:=by
      have:L≠[]:=λh=>by rw[h]at aa;simp at aa
      exact⟨L.dropLast,L.getLast this,(List.dropLast_concat_getLast this).symm⟩
     rw[Z3]at y;obtain⟨aV,ah⟩:=List.append_inj' y Ξ;refine s _ _ ⟨E,g,M,x,C,aV,?_,Ω,G⟩;rw[ms rfl];have ah:[x.1]=[A]:=ah;exact(List.cons.inj ah).1
    |false=>
     rw[bM,W6,bQ];rw[rc Ξ]at y;rw[dm (cs:=#[ca [],Δ (i:Int)]) Ψ];refine jc (f:=gY) (a:=(([],(i:Int)):iM)) fy.u cD.i Ω rfl rfl λv9 bo bp bq ai aW=>?_;have aX:=C.W ai;refine jC fy.u cD.i rfl aX (by simpa using aW.sl) (xV _) Ω Ω λN aY br a2 a7 a8=>?_;have bs:=E.size;have z9:=ai.size;refine s _ _ ⟨(E.F ai).then a8 (λr B he=>by have:=G r he;omega),aY,L,_,a2,y,rfl,Θ,λr B=>?_⟩;rcases a7 r B with h|h
     .exact G r h
     .omega
structure xX where
 v:x4
 t:Λ
 c:Int
def pt(y:xX):List x4:=[y.v,Δ y.c]
def lO(w:x5)(g:Nat)(v:x4)(l:List (Λ×Int)):Prop:=∃L:List xX,bj pt 2 cn w g v L/\(∀y∈L,∃gy,aA .i64 av w gy y.v y.t)/\L.map (λy=>(y.t,y.c))=l
structure ke where
 aV:x4
 lc:x4
 o:Int
 cq:x4
def fC(h:ke):List x4:=[h.aV,h.lc,Δ h.o,h.cq]
def gZ(w:x5)(h:ke)(x:cE):Prop:=(∃g,aA .i64 av w g h.aV x.scope)/\(∃g,aA .i64 av w g h.lc x.co)/\h.o=x.other/\∃g,lO w g h.cq x.lines
def ij(w:x5)(r:Nat):Prop:=∃e c,ag w r e c/\e≠av/\e≠cn
theorem eP{g:Nat}(h:aA .i64 av w g v l)(f:af S w I)(j:∀r,S r->ij w r\/w.heap.size<=r):aA .i64 av I g v l:=bA h f λr a J=>by
 rcases j r J with⟨e,c,p,q,_⟩|s
 .exact ce h p (λhe=>q he.symm) a rfl
 .obtain⟨x,y⟩:=bZ h a;omega
theorem xY{α:Type}{f:α->List x4}{k:Nat}{g:Nat}{L:List α}(h:bj f k e w g v L)(p:af S w I)(q:∀r,S r->(∃a c,ag w r a c/\a≠e)\/w.heap.size<=r):bj f k e I g v L:=h.V p λr j J=>by
 rcases q r J with⟨a,c,s,x⟩|y
 .exact cK h s (λhe=>x he.symm) j
 .obtain⟨z,A⟩:=h.lw j;omega
theorem lO.dQ{g:Nat}{l:List (Λ×Int)}(h:lO w g v l)(a:af S w I)(f:∀r,S r->ij w r\/w.heap.size<=r):lO I g v l:=by
 obtain⟨L,h1,j,p⟩:=h;refine⟨L,xY h1 a λr q=>(f r q).imp (λ⟨e,c,s,_,x⟩=>⟨e,c,s,x⟩) id,λy z=>?_,p⟩;obtain⟨gy,hm⟩:=j y z;exact⟨gy,eP hm a f⟩
theorem gZ.dQ{h:ke}{x:cE}(au:gZ w h x)(a:af S w I)(e:∀r,S r->ij w r\/w.heap.size<=r):gZ I h x:=by
 obtain⟨⟨g1,h1⟩,⟨f,j⟩,p,q,s⟩:=au;exact⟨⟨g1,eP h1 a e⟩,⟨f,eP j a e⟩,p,q,s.dQ a e⟩
theorem gZ.W{h:ke}{x:cE}(au:gZ w h x)(a:Ext w I):gZ I h x:=au.dQ (a.V λ_=>False) λ_ h=>h.elim
theorem gZ.one{h:ke}{x:cE}(au:gZ w h x):∀u∈fC h,u.oneCell'=v2:=by
 obtain⟨⟨g1,h1⟩,⟨f,a⟩,j,p,L,e,_⟩:=au;intro u hu;simp[fC]at hu;rcases hu with rfl|rfl|rfl|rfl
 .exact h1.ls.cells.2
 .exact a.ls.cells.2
 .rfl
 .exact (ez e.sl).2
def oa(w:x5)(a:x4)(e:List iM)(gs:Nat)(sv:x4)(L:List ke)(X:List cE):Prop:=(kd w a e/\∀r,lm a r->∃c,ag w r cD c)/\bj fC 4 be w gs sv L/\X.length=L.length/\∀(i:Nat)h x,L[i]?=σ h->X[i]?=σ x->gZ w h x
theorem oa.dQ{p:x4}{y:List iM}{L:List ke}{X:List cE}(h:oa w p y gs sv L X)(j:af S w I)(q:∀r,S r->(∃e c,ag w r e c/\e≠av/\e≠cn/\e≠cD/\¬lm sv r)\/w.heap.size<=r):oa I p y gs sv L X:=by
 obtain⟨⟨h1,z⟩,A,C,E⟩:=h;have hw:∀r,lm p r->¬S r:=λr a J=>by
  obtain⟨c,f⟩:=z r a;rcases q r J with⟨e,F,B,_,_,s,_⟩|G
  .exact s (fp B f)
  .have:=f.lt;omega
 refine⟨⟨h1.V j hw,λr a=>?_⟩,A.V j λr a J=>?_,C,λi au x hi H=>(E i au x hi H).dQ j λr a=>(q r a).imp (λ⟨e,c,f,K,M,_⟩=>⟨e,c,f,K,M⟩) id⟩
 .obtain⟨c,f⟩:=z r a;exact⟨c,f.V j (hw r a)⟩
 .rcases q r J with⟨e,F,B,_,_,_,s⟩|G
  .exact s a
  .obtain⟨N,O⟩:=A.lw a;omega
def iN(a:x4)(e f bad h big j m5:Int)(sv:x4):List x4:=[a,Δ e,Δ f,Δ bad,Δ h,Δ big,Δ j,Δ m5,sv]
def PL(N:Nat)(so:Option aJ)(a:List iM)(e bad big m5:Int)(L:List ke)(X:List cE):Prop:=match so with
 |some s=>bad=0/\e≠0/\(big≠0↔s.big=v2)/\(s.big=v6->m5=s.m5)/\True/\a.map (·.1)=s.hp/\(∀t∈s.hp,Bytes t/\t.length<=65536)/\X.map (λx=>(x.co,x.lines))=s.m6/\L.length+a.length<=100000
 |none=>bad≠0/\L.length<=N
def bR(w:x5)(g B:Nat)(H:ah)(N:Nat)(so:Option aJ):Prop:=100000<=N/\∃w0 a e gs sv L X,∃(h f bad j big p m5:Int),w0.heap.size=B/\af (λr=>r=g) w0 w/\(∃c,ag w0 g bI c)/\ag w g bI (iN a h f bad j big p m5 sv)/\oa w0 a e gs sv L X/\(∀r,lm sv r->H r)/\PL N so e f bad big m5 L X
theorem oa.g{g:Nat}{e:x4}{f:List iM}{L:List ke}{X:List cE}(h:oa w e f gs sv L X)(p:af (λr=>r=g) w I)(q:∃c,ag w g bI c):oa I e f gs sv L X:=
 h.dQ p λr a=>.inl (by
  have a:r=g:=a;subst a;obtain⟨c,j⟩:=q;exact⟨_,c,j,Φ,Φ,Φ,λs=>cK h.2.1 j Φ s⟩)
theorem bR.new{g:Nat}{H:ah}{so:Option aJ}(h:bR w g B H N so)(a:af S w I)(e:∀r,S r->B<=r):bR I g B H N so:=by
 obtain⟨s,w0,x,y,gs,sv,L,X,z,A,bad,C,big,E,m5,h1,f,j,F,G,K,M⟩:=h;have p:g<w0.heap.size:=by obtain⟨c,O⟩:=j;exact O.lt
 exact⟨s,w0,x,y,gs,sv,L,X,z,A,bad,C,big,E,m5,h1,⟨X1 f.size a.size,λr o q J p=>a.aY r o (f.aY r o q J p) J λP=>by
  have:=e r P;have:=(b8.1 q).1;omega⟩,j,F.V a λJ=>by have:=e g J;omega,G,K,M⟩
theorem bR.W{g:Nat}{H:ah}{so:Option aJ}(h:bR w g B H N so)(a:Ext w I):bR I g B H N so:=h.new (a.V λ_=>False) λ_ h=>h.elim
theorem bR.base{g:Nat}{H:ah}{so:Option aJ}(h:bR w g B H N so):bR w g w.heap.size H N so:=by
 obtain⟨e,w0,f,j,gs,sv,L,X,p,q,bad,r,big,s,m5,h1,x,y,a,z,A,C⟩:=h;exact⟨e,w,f,j,gs,sv,L,X,p,q,bad,r,big,s,m5,rfl,af.refl _ _,⟨_,a⟩,a,z.g x y,A,C⟩
theorem bR.dQ{g:Nat}{H:ah}{so:Option aJ}(h:bR w g B H N so)(j:af S w I)(p:∀r,S r->(∃e c,ag w r e c/\e≠av/\e≠cn/\e≠cD/\e≠bI/\¬H r)\/w.heap.size<=r):bR I g I.heap.size H N so:=by
 obtain⟨s,w0,x,y,gs,sv,L,X,z,A,bad,C,big,E,m5,h1,F,G,f,K,q,M⟩:=h.base;have O:=K.g F G;have a:=f.V j λJ=>by
  rcases p g J with⟨e,c,a,_,_,_,P,_⟩|aa
  .exact P (fp a f)
  .have:=f.lt;omega
 refine⟨s,I,x,y,gs,sv,L,X,z,A,bad,C,big,E,m5,rfl,af.refl _ _,⟨_,a⟩,a,O.dQ j λr Q=>(p r Q).imp (λ⟨e,c,a,R,U,W,_,Y⟩=>⟨e,c,a,R,U,W,λZ=>Y (q r Z)⟩) id,q,M⟩
theorem bR.lt{g:Nat}{H:ah}{so:Option aJ}(h:bR w g B H N so):g<B/\B<=w.heap.size:=by
 obtain⟨f,w0,j,p,gs,sv,L,X,q,r,bad,s,big,x,m5,h1,a,⟨c,e⟩,_⟩:=h;have:=e.lt;have:=a.size;omega
theorem jh{g:Nat}{H:ah}{so:Option aJ}(h:bR w g B H N so):∃a,∃(e f bad j big p m5:Int),∃sv,ag w g bI (iN a e f bad j big p m5 sv)/\(so.isSome=v2↔bad=0):=by
 obtain⟨x,w0,a,y,gs,sv,L,X,e,f,bad,j,big,p,m5,h1,z,A,r,C,E,q⟩:=h;refine⟨a,e,f,bad,j,big,p,m5,sv,r,?_⟩;cases so with
 |none=>exact⟨(λh=>by cases h),λh=>ro h q.1⟩
 |some s=>exact⟨λ_=>q.1,λ_=>rfl⟩
theorem mz{g:Nat}{H:ah}{so:Option aJ}(h:bR w g B H N so):ab v8 (bT (Γ g)) w (λa=>ab v8 (u7 bI a 3) w λt45=>ab v8 (u6 ai t45) w λt46=>ab v8 (aO .eql ai v6 v2 t46 (Δ 0)) w K)=K (.bool so.isSome):=by
 obtain⟨f,j,q,bad,r,big,s,m5,sv,e,hi⟩:=jh h;rw[aK bI.p 3 e rfl,bm];congr 2;rw[U8,sp];exact hi.symm
theorem r6{g:Nat}{H:ah}{so:Option aJ}(h:bR w g B H N so):ab v8 (bT (Γ g)) w (λf=>ab v8 (u7 bI f 3) w λt45=>ab v8 (u6 ai t45) w λt46=>ab v8 (aO .neq ai v6 v2 t46 (Δ 0)) w K)=K (.bool (!so.isSome)):=by
 obtain⟨q,r,s,bad,x,big,y,m5,sv,j,hi⟩:=jh h;rw[aK bI.p 3 j rfl,bL];congr 2;cases e:so.isSome with
 |true=>have a:=hi.1 e;simp[a]
 |false=>
  have a:bad≠0:=λa=>by rw[hi.2 a]at e;cases e
  simp[a]
def qC(w:x5)(g B:Nat)(H:ah)(N:Nat)(so:Option aJ)(I:x5):Prop:=af (λr=>r=g) w I/\bR I g B H N so
theorem pu{g:Nat}{H:ah}{so:Option aJ}{e at_:Int}(h:bR w g B H N so)(he:e≠0):al v8 oK [Γ g,Δ e,Δ at_] w λ_ I=>qC w g B H N ν I:=by
 refine aB func124 ?_;rw[mz h];cases so with
 |none=>rw[Q1,a6];exact⟨af.refl _ _,h⟩
 |some s=>
  rw[R2,bQ];obtain⟨j,w0,q,r,gs,sv,L,X,x,y,bad,Q,big,z,m5,h1,A,C,E,G,J,K⟩:=h;rw[bY,aU bI.p rfl];refine bt (g:=g) (o:=3) ai.i rfl rfl E (by simp[iN]) λU M R O=>?_;rw[bY,aU bI.p rfl];refine bt (g:=g) (o:=4) ai.i rfl rfl O (by simp[iN]) λaa P S a=>?_;have a:=a;have f:=M.F P;obtain⟨_,_,_,_,_,_,_,_,V⟩:=K;exact⟨f,j,w0,q,r,gs,sv,L,X,x,y,e,at_,big,z,m5,h1,A.F f,C,a,G,J,he,Ω⟩
theorem ob{g:Nat}{H:ah}{so:Option aJ}{b:Bool}{at_:Int}(h:bR w g B H N so):al v8 td [Γ g,.bool b,Δ at_] w λ_ I=>qC w g B H N (so.map (bi b)) I:=by
 refine aB func121 ?_;obtain⟨A,w0,C,E,gs,sv,L,X,G,J,bad,K,big,W,m5,h1,M,O,e,P,Q,f⟩:=id h;refine aZ (λv U=>w=U/\v= .bool (b&&decide (big=0)&&so.isSome)) ?_ ?_
 .rintro _ _ ⟨rfl,rfl⟩;rw[b4];refine⟨λR=>?_,λY=>⟨af.refl _ _,A,w0,C,E,gs,sv,L,X,G,J,bad,K,big,W,m5,h1,M,O,e,P,Q,?_⟩⟩
  .rw[U9,U9]at R;obtain⟨⟨Z,ag⟩,ab⟩:=R;rw[bY,aU bI.p rfl];refine bt (g:=g) (o:=5) ai.i rfl rfl e (by simp[iN]) λU ac aj ad=>?_;rw[bY,aU bI.p rfl];refine bt (g:=g) (o:=6) ai.i rfl rfl ad (by simp[iN]) λaa ae ak j=>?_;have j:=j;have S:=ac.F ae;refine⟨S,A,w0,C,E,gs,sv,L,X,G,J,bad,K,5,at_,m5,h1,M.F S,O,j,P,Q,?_⟩;cases so with
   |none=>cases ab
   |some s=>
    obtain⟨q,r,V,x,y⟩:=f;exact⟨q,r,⟨λ_=>by show(s.big||b)=v2;rw[Z,Bool.or_true],λ_=>Ω⟩,λau=>x (U1.1 au).1,y⟩
  .cases so with
   |none=>exact f
   |some s=>
    obtain⟨q,r,V,x,y⟩:=f;refine⟨q,r,?_,λau=>x (U1.1 au).1,y⟩;show big≠0↔(s.big||b)=v2;cases b with
    |false=>rw[Bool.or_false];exact V
    |true=>
     have a:big≠0:=by simpa using Y
     simp[a]
 .intro ax z;cases b with
  |false=>rw[a6];exact z _ _ ⟨rfl,Ξ⟩
  |true=>
   rw[bQ,aK bI.p 5 e rfl,bm,am];refine⟨λa=>?_,λa=>z _ _ ⟨rfl,by rw[s2 a];simp⟩⟩;rw[mz h];exact z _ _ ⟨rfl,by rw[rs a];simp⟩
def kB(so:Option aJ):Option (Λ×aJ):=so.bind dV
theorem Ey{g:Nat}{H:ah}{so:Option aJ}(h:bR w g B H N so):al v8 II [Γ g] w λv I=>qC w g B H N ((kB so).map (·.2)) I/\∃(t:Λ)(n:Int),v= .agg #[ca t,Δ n]/\Bytes t/\t.length<=65536/\∀q,kB so=σ q->t=q.1:=by
 have az:=h.lt;refine aB func120 ?_;refine bF cD.i λe U bj y z=>?_;have h1:=h.W y;have zero:∀{f:x5},qC U g B H N ν f->ag f e cD [.string ⟨#[]⟩,Δ 0]->kB so=ν->(ab v8 (Instr.build cD #[]) f λt9=>
   aF v8 (l9 cD (Γ e) t9) f λ(_:Unit)aa=>
   ab v8 (do loadVar cD (<-asAddr (Γ e))) aa λaA=>(λv I=>qC w g B H N ((kB so).map (·.2)) I/\∃(t:Λ)(n:Int),v= .agg #[ca t,Δ n]/\Bytes t/\t.length<=65536/\∀q,kB so=σ q->t=q.1) aA aa):=by
  intro f j G P;rw[dm (cs:=#[.string ⟨#[]⟩,Δ 0]) Ψ];refine b6 (vs:=[.string ⟨#[]⟩,Δ 0]) cD.i rfl rfl (by intro v Y;simp at Y;rcases Y with rfl|rfl<;>rfl) G λaC Z bk aD=>?_;rw[fi cD.p cD.i rfl aD.range,P];have aE:=y.size;have bl:=az;refine⟨⟨iB ((y.V _).F j.1) Z λr a he=>?_,j.2.new Z λr a=>?_⟩,[],0,rfl,(λb aG=>by cases aG),Ξ,λq Q=>by cases Q⟩
  .have he:r=e:=he;omega
  .have a:r=e:=a;omega
 rw[r6 h1];cases so with
 |none=>
  rw[Q1,W6,bQ];exact zero ⟨af.refl _ _,h1⟩ z rfl
 |some s=>
 rw[R2,X3,a6];obtain⟨aH,w0,bn,R,gs,sv,L,X,aI,aL,bad,aM,big,aN,m5,aO,ac,ad,A,J,aP,aQ⟩:=id h1;have aR:=J.g ac ad;obtain⟨⟨K,bo⟩,_⟩:=id aR;obtain⟨aS,ae,aT,aV,aW,ai,aj,aX,aY⟩:=id aQ;rw[aK bI.p 0 A rfl,Ew K,bm,am];refine⟨λak=>?_,λak=>?_⟩
 .have aZ:R=[]:=Z5 Ω;have C:s.hp=[]:=by rw[<-ai,aZ];rfl
  have P:kB (σ s)=ν:=by show dV s=ν;unfold dV;rw[C]
  intro f M _ _;have G:=A.W M;rw[aK bI.p 2 G rfl,aK bI.p 1 G rfl];refine(pu (h1.W M) ae).Y ?_;rintro _ aC _ j;have a1:=z.lt;exact zero ⟨(M.V _).F j.1,j.2⟩ ((z.W M).V j.1 λhe=>by have he:=he;omega) P
 .obtain⟨x,E,rfl⟩:∃x l,R=x::l:=by
   cases R with
   |nil=>exact ro rfl ak
   |cons x l=>exact⟨x,l,rfl⟩
  have C:s.hp=x.1::E.map (·.1):=by rw[<-ai];rfl
  have a2:kB (σ s)=σ (x.1,{s with hp:=E.map (·.1)}):=by show dV s=_;unfold dV;rw[C]
  have an:=aj x.1 (by rw[C];exact .head _);rw[aK bI.p 0 A rfl];refine Ex K λb o a7=>?_;rw[bC cD.p cD.i rfl a7];refine bF cD.i λbp bq br a8 ba=>?_;refine b6 (vs:=gY x) cD.i rfl rfl (xV x) ba λbs bb bu ao=>?_;have O:=a8.put bb Ω;have ap:=A.W O;rw[aK bI.p 0 ap rfl];refine PH (K.V (O.V λ_=>False) λ_ _ h=>h) λaq au bc=>?_;have av:=au U K;rw[bY,aU bI.p rfl];refine bt (g:=g) (o:=0) fy.i (ez av).1 (ez av).2 ap (by simp[iN]) λaw S bw W=>?_;have W:=W;have a1:=A.lt;have bx:=ao.lt;have bz:=z.lt;have aE:=y.size;have bd:=ao.V S λhe=>by have he:=he;omega
  rw[bC cD.p cD.i rfl bd.range];have be:ag aw e cD [.string ⟨#[]⟩,Δ 0]:=(ag.W z O).V S λhe=>by have he:=he;omega
  refine b6 (vs:=gY x) cD.i rfl rfl (xV x) be λbA ax bB bf=>?_;rw[fi cD.p cD.i rfl bf.range];have ay:=(O.V _).F S;rw[a2];refine⟨⟨iB ((y.V _).F ay) ax λr a he=>?_,?_⟩,x.1,x.2,rfl,an.1,an.2,λq Q=>by cases Q;rfl⟩
  .have he:r=e:=he;omega
  .have bg:oa w0 aq E gs sv L X:=⟨⟨au w0 J.1.1,λr a=>J.1.2 r (bc r a)⟩,J.2⟩;have bh:bR aw g B H N (σ {s with hp:=E.map (·.1)}):=⟨aH,w0,aq,E,gs,sv,L,X,aI,aL,bad,aM,big,aN,m5,aO,ac.F ay,ad,W,bg,aP,aS,ae,aT,aV,aW,rfl,λt bi=>aj t (by rw[C];exact .tail _ bi),aX,by simp at aY;omega⟩;refine bh.new ax λr a=>?_;have a:r=e:=a;omega
theorem PM{lo hi:Int}{so:Option aJ}:bf lo hi so=match kB so with
  |none=>ν
  |some (w,s)=>match gF w with
   |none=>ν
   |some n=>if lo<=n/\n<=hi then σ (n,s)else ν:=by
 cases so with
 |none=>rfl
 |some s=>rfl
theorem lP{g:Nat}{H:ah}{so:Option aJ}{lo hi:Int}(h:bR w g B H N so):al v8 m7 [Γ g,Δ lo,Δ hi] w λv I=>qC w g B H N ((bf lo hi so).map (·.2)) I/\∃n at_:Int,v= .tuple #[Δ n,Δ at_]/\(∀q,bf lo hi so=σ q->n=q.1)/\(bf lo hi so=ν->n=0):=by
 have ay:=h.lt;refine aB func122 ?_;refine(Ey h).Y ?_;rintro _ U _ ⟨⟨M,h1⟩,t,at_,rfl,Y,az,O⟩;have aA:=h1.lt;refine bF cD.i λaC aa aD Z ab=>?_;refine b6 (vs:=[ca t,Δ at_]) cD.i rfl rfl (by intro v P;simp at P;rcases P with rfl|rfl<;>rfl) ab λac ad aE Q=>?_;have R:Ext U ac:=Z.put ad Ω;have ae:=h1.W R;rw[aL cD.p 0 Q rfl];refine(PE Y Ω).Y ?_;rintro _ C _ ⟨rfl,E⟩;have G:=ae.W E;have S:=Q.W E;have ag:=R.F E;have aF:=M.size;obtain⟨n,e,ai,J,aj⟩:∃n e:Int,lF t= .tuple #[Δ n,Δ e]/\(∀m,gF t=σ m->n=m/\e=0)/\(gF t=ν->e≠0):=by
  unfold lF;cases gF t with
  |none=>exact⟨0,4,rfl,(λm hm=>by cases hm),λ_=>Ω⟩
  |some m=>exact⟨m,0,rfl,(λm hm=>by cases hm;exact⟨rfl,rfl⟩),λh=>by cases h⟩
 rw[ai,bx,bz];have a:=PM (lo:=lo) (hi:=hi) (so:=so);have W:af (λr=>r=g) w C:=M.F (ag.V _);refine c7 (λx=>af (λr=>r=g) C x/\bR x g B H N ((bf lo hi so).map (·.2))) ?_ ?_
 .rintro x ⟨y,s⟩;rw[r6 s];cases z:bf lo hi so with
  |none=>
   rw[z]at s;rw[Option.map_none,Q1,W6,bQ];exact⟨⟨W.F y,s⟩,0,0,rfl,(λq z=>by cases z),λ_=>rfl⟩
  |some q=>
   rw[z]at s a;rw[Y3,R2,X3,a6];intro aG K _ _;have ak:=(S.V y λhe=>by have he:=he;omega).W K;rw[aL cD.p 1 ak rfl];refine⟨⟨(W.F y).F (K.V _),s.W K⟩,n,at_,rfl,λaH an=>?_,λh=>by cases h⟩;cases an;cases j:kB so with
   |none=>rw[j]at a;cases a
   |some p=>
    obtain⟨bs,s1⟩:=p;have L:=O (bs,s1) j;subst L;rw[j]at a;simp only at a;cases f:gF t with
    |none=>rw[f]at a;cases a
    |some m=>
     rw[f]at a;simp only at a;split at a
     .cases a;exact(J m f).1
     .cases a
 .intro ax X;refine aZ (λv x=>C=x/\∃c:Bool,v= .bool c/\(c=v2->bf lo hi so=ν)/\(c=v6->(bf lo hi so).map (·.2)=(kB so).map (·.2))) ?_ ?_
  .rintro _ _ ⟨rfl,c,rfl,ao,ap⟩;rw[b4];refine⟨λh=>?_,λh=>X _ ⟨af.refl _ _,by rw[ap h];exact G⟩⟩;rw[aL cD.p 1 S rfl];refine(pu G Ω).Y ?_;rintro _ x _ ⟨y,s⟩;exact X _ ⟨y,by rw[ao h];exact s⟩
  .intro aI A;rw[mz G];cases j:kB so with
   |none=>
    rw[j]at a;simp only at a;rw[Option.map_none,Q1,a6];exact A _ _ ⟨rfl,v6,rfl,(λh=>by cases h),λ_=>by rw[a,j];rfl⟩
   |some p=>
    obtain⟨bs,s1⟩:=p;have L:=O (bs,s1) j;subst L;rw[j]at a;simp only at a;rw[Y3,R2,bQ,bL,am];refine⟨λhe=>?_,λhe=>?_⟩
    .refine A _ _ ⟨rfl,v2,rfl,λ_=>?_,λh=>by cases h⟩;cases f:gF t with
     |none=>rw[a,f]
     |some m=>exact ro (J m f).2 he
    .have aq:=X5.1 he;cases f:gF t with
     |none=>exact ro aq (aj f)
     |some m=>
      rw[f]at a;simp only at a;have av:=(J m f).1;subst av;rw[aS,am];refine⟨λaw=>A _ _ ⟨rfl,v2,rfl,λ_=>by rw[a,rc Ω],λh=>by cases h⟩,λaw=>?_⟩;rw[bU];refine A _ _ ⟨rfl,_,rfl,λau=>?_,λau=>?_⟩
      .rw[a,rc (by have:=ty au;omega)]
      .rw[a,ms (by have:=of_decide_eq_false au;omega),j];rfl
theorem xZ{bh bv:x4}{a b:Λ}(e:aN .i64 w bh a)(s:aN .i64 w bv b):al v8 te [bh,bv] w λv I=>v= .bool (decide (a=b))/\Ext w I:=by
 refine aB func181 ?_;rw[a1 aw.u e,a1 aw.u s,bL,am];refine⟨λh=>⟨by rw[s2];intro he;rw[he]at h;exact h rfl,Ext.refl _⟩,λh=>?_⟩;have z:a.length=b.length:=by have:=X5.1 h;omega
 rw[a1 aw.u e];refine ch.range a.length (λi _ U=>Ext w U/\a.take i=b.take i) e.le ⟨Ext.refl _,rfl⟩ ?_ ?_
 .rintro i _ U k hi ⟨q,f⟩ hk;obtain⟨x,j⟩:=aD (l:=a) hi;obtain⟨y,r⟩:=aD (l:=b) (i:=i) Ω;refine bG Ω ?_;intro aa A _ _;have p:=q.F A;rw[bk aw.u av.i Ψ (e.W p) j,bk aw.u av.i Ψ (s.W p) r,bL,am];refine⟨λB=>⟨by rw[s2];intro he;rw[he,r]at j;exact B (Z4 j).symm,p⟩,λhe=>?_⟩;rw[aP];refine hk _ _ ⟨p,?_⟩;rw[r9,r9,f,j,r,X5.1 he]
 .rintro _ U k ⟨q,f⟩;rw[aS,am];refine⟨λh=>Ω,λ_=>⟨?_,q⟩⟩;rw[j4,z,j4]at f;rw[rs f]
def ik(w:x5)(B a:Nat)(x:cE):Prop:=∃aV lc cq g1 e f,ag w a be [aV,lc,Δ x.other,cq]/\aA .i64 av w g1 aV x.scope/\aA .i64 av w e lc x.co/\lO w f cq x.lines/\(∀r,lw aV r\/lw lc r->B<=r)/\(∀r,lw aV r->¬lw lc r)/\B<=a
def Ez(w:x5)(r:Nat):Prop:=(∃e c,ag w r e c/\e≠av/\e≠cn/\e≠be)\/w.heap.size<=r
theorem ik.dQ{f:Nat}{x:cE}(h:ik w B f x)(a:af S w I)(q:∀r,S r->Ez w r):ik I B f x:=by
 obtain⟨aV,lc,cq,g1,s,y,h1,z,A,C,E,F,G⟩:=h;have j:∀r,S r->ij w r\/w.heap.size<=r:=λr H=>(q r H).imp (λ⟨e,c,p,K,L,_⟩=>⟨e,c,p,K,L⟩) id;refine⟨aV,lc,cq,g1,s,y,h1.V a λJ=>?_,eP z a j,eP A a j,C.dQ a j,E,F,G⟩;rcases q f J with⟨e,c,p,_,_,M⟩|N
 .exact M (fp p h1)
 .have:=h1.lt;omega
theorem ik.W{a:Nat}{x:cE}(h:ik w B a x)(e:Ext w I):ik I B a x:=h.dQ (e.V λ_=>False) λ_ h=>h.elim
theorem lQ{g:Nat}{H:ah}{so:Option aJ}(h:bR w g B H N so):∀r,r=g->Ez w r:=λr a=>by
 subst a;obtain⟨f,j,p,bad,q,big,s,m5,sv,e,_⟩:=jh h;exact .inl ⟨_,_,e,Φ,Φ,Φ⟩
def il(g B:Nat):ah:=λr=>r=g\/B<=r
theorem PN{k:Nat}{acc:Λ}{s:aJ}:cW (λacc s=>match bl 0 (n-1) s with
 |none=>ν
 |some (v,s)=>if v∈acc then ν else σ (v,s)) (k+1) acc s=match bl 0 (n-1) s with
  |none=>ν
  |some (v,s')=>if v∈acc then ν else cW (λacc s=>match bl 0 (n-1) s with
 |none=>ν
 |some (v,s)=>if v∈acc then ν else σ (v,s)) k (acc++[v]) s':=by
 rw[cW];cases bl 0 (n-1) s with
 |none=>rfl
 |some q=>
  obtain⟨v,s'⟩:=q;simp only;by_cases a:v∈acc
  .rw[ms a,ms a]
  .rw[rc a,rc a]
def EA(n:Int)(k:Nat)(acc:Λ)(s:aJ):Option (Λ×aJ):=cW (λacc s=>match bl 0 (n-1) s with
 |none=>ν
 |some (v,s)=>if v∈acc then ν else σ (v,s)) k acc s
theorem EB{g f ar:Nat}{H:ah}{s:aJ}{so:Option aJ}{Z:x4}{aM aN:x5->Prop}(au:bR w g B H N so)(b4:so=σ s\/(so=ν/\ar=0))(b5:ik w B f ⟨[],[],0,[]⟩)(b6:∀c,ag w f be c->c[3]?=σ (.slice ν 0 0))(bB:aA .i64 av w gz Z all)(b7:∀r,lw Z r->r<B)(dj:all.length<=100001)(dk:ar<=4611686018427387904)(aQ:so=σ s->s.hp.length<=100000)(ao:so=σ s->∀I x,af (il g B) w I->fc all.length ar s=ν->bR I g B H N ν->ik I B f x->aM I)(b8:so=ν->aN w)(aR:so=σ s->∀I scope s',af (il g B) w I->fc all.length ar s=σ (scope,s')->bR I g B H N (σ s')->ik I B f ⟨scope,scope.map λv=>all.getD v.toNat 0,0,[]⟩->(∀c,ag I f be c->c[3]?=σ (.slice ν 0 0))->aN I):
  bW (Δ 0) w λi z k=>
   cC (α:=x4->x5->Prop) (λ(b9:x4)(O:x5)=>
    Split b9 (ab v8 (V0 #[aw] ai #[Z]) O λt53=>
   ab v8 (aO .sub av v6 v2 t53 (Δ 1)) O λca=>
   al v8 m7 [Γ g,(Δ 0),ca] O λt55 A=>
   ab v8 (Y8 t55 0) A λaT=>
   ab v8 (Y8 t55 1) A λcb=>
   ab v8 (bT (Γ g)) A λcc=>
   ab v8 (u7 bI cc 3) A λcd=>
   ab v8 (u6 ai cd) A λcf=>
   ab v8 (aO .neq ai v6 v2 cf (Δ 0)) A λcg=>
   Split cg (aM A)
    (ab v8 (u7 be (Γ f) 0) A λch=>
   ab v8 (u6 aw ch) A λbC=>
   ab v8 (V0 #[aw] ai #[bC]) A λt66=>
   bW (Δ 0) A λaW E ci=>
    ab v8 (aO .lss ai v6 v6 aW t66) E λcj=>
    Split cj (ab v8 (c9 aw bC aW) E λck=>
    ab v8 (u6 av ck) E λt70=>
    ab v8 (aO .eql av v6 v6 t70 aT) E λcl=>
    Split cl (al v8 oK [Γ g,(Δ 4),cb] E λt76 aX=>aM aX)
     (ab v8 (aO .add ai v6 v2 aW (Δ 1)) E λcm=>
    ci cm E))
     (ab v8 (u7 be (Γ f) 0) E λcn=>
   ab v8 (u6 aw cn) E λcp=>
   aF v8 (X2 aw 1 #[(0,aT)]) E λcr aa=>
   aF v8 (Z9 #[aw,aw] aw #[cp,cr]) aa λct aY=>
   ab v8 (u7 be (Γ f) 0) aY λcu=>
   aF v8 (l9 aw cu ct) aY λ(_:Unit)ap=>
   ei ap λS=>
   ab v8 (u7 be (Γ f) 1) S λa2=>
   ab v8 (u6 aw a2) S λbD=>
   ab v8 (c9 aw Z aT) S λcw=>
   ab v8 (u6 av cw) S λcz=>
   aF v8 (X2 aw 1 #[(0,cz)]) S λcA Y=>
    (Ext S Y\/b2 v8 (u6 aw a2) bD Y/\b2 v8 (u7 be (Γ f) 1) a2 Y/\True)/\
   aF v8 (Z9 #[aw,aw] aw #[bD,cA]) Y λcB a7=>
    ab v8 (u7 be (Γ f) 1) a7 λcD=>
    aF v8 (l9 aw cD cB) a7 λ(_:Unit)ac=>
     ab v8 (aO .add av v6 v2 i (Δ 1)) ac λcE=>
   k cE ac)))
     (aN O)) λbE=>
   ab v8 (aO .lss av v6 v6 i (Δ (ar:Int))) z λcF=>
   Split cF (ab v8 (bT (Γ g)) z λcG=>
   ab v8 (u7 bI cG 3) z λcH=>
   ab v8 (u6 ai cH) z λt45=>
   ab v8 (aO .eql ai v6 v2 t45 (Δ 0)) z λt46=>
   bE t46 z)
    (bE (.bool v6) z):=by
 have dl:=au.lt;rcases b4 with rfl|⟨rfl,rfl⟩
 rotate_left
 .refine bW.range 0 (λ_ U=>w=U) Ω rfl (λi U k hi=>Ω) ?_;rintro _ k rfl;refine aZ (λv O=>w=O/\v= .bool v6) ?_ ?_
  .rintro _ _ ⟨rfl,rfl⟩;rw[a6];exact b8 rfl
  .intro ax ad;rw[aS,am];exact⟨λh=>Ω,λ_=>ad _ _ ⟨rfl,rfl⟩⟩
 have h:=au;have aQ:=aQ rfl;have ao:=ao rfl;have aR:=aR rfl;refine bW.range ar (λi z=>∃scope P,af (il g B) w z/\bR z g B H N (σ P)/\ik z B f ⟨scope,scope.map λv=>all.getD v.toNat 0,0,[]⟩/\scope.length=i/\scope.length+P.hp.length<=100000/\fc all.length ar s=EA all.length (ar-i) scope P/\∀c,ag z f be c->c[3]?=σ (.slice ν 0 0)) Ω ⟨[],s,af.refl _ _,h,b5,rfl,by simpa using aQ,rfl,b6⟩ ?_ ?_
 rotate_left
 .rintro z k ⟨scope,P,aq,R,ay,bF,cI,C,a8⟩;refine aZ (λv O=>z=O/\v= .bool v6) ?_ ?_
  .rintro _ _ ⟨rfl,rfl⟩;rw[a6];rw[V2]at C;exact aR z scope P aq C R ay a8
  .intro ax ad;rw[aS,am];exact⟨λh=>Ω,λ_=>ad _ _ ⟨rfl,rfl⟩⟩
 rintro i z k hi ⟨scope,P,aq,R,ay,bF,cI,C,a8⟩ hk;refine aZ (λv O=>z=O/\v= .bool v2) ?_ ?_
 rotate_left
 .intro ax ad;refine bG Ω ?_;rw[mz R];exact ad _ _ ⟨rfl,rfl⟩
 rintro _ _ ⟨rfl,rfl⟩;rw[bQ];have bH:∀{I:x5},af (il g B) w I->aA .i64 av I gz Z all:=λcJ=>bA bB cJ λr e J=>by
  rcases J with rfl|J
  .obtain⟨cL,G,ae,bad,cM,big,cN,m5,sv,K,_⟩:=jh h;exact ce bB K Φ e rfl
  .have:=b7 r e;omega
 rw[a1 aw.u (bH aq).ls,dx,m1 Ω Ω];refine(lP R).Y ?_;rintro _ A _ ⟨⟨ba,M⟩,n,at_,rfl,bb,cO⟩;rw[bx,bz,r6 M];have bc:=ay.dQ ba (lQ R);have bd:af (il g B) w A:=aq.F (ba.Y λr _ h=>.inl h);have cP:=PN (n:=(all.length:Int)) (k:=ar-(i+1)) (acc:=scope) (s:=P);have cQ:ar-i=(ar-(i+1))+1:=Ω
 rw[cQ]at C;unfold EA at C;rw[cP]at C;have cR:bf 0 ((all.length:Int)-1) (σ P)=bl 0 ((all.length:Int)-1) P:=rfl;rw[cR]at M bb cO ⊢;cases az:bl 0 ((all.length:Int)-1) P with
 |none=>
  rw[az]at M C;rw[Option.map_none,Q1,W6,bQ];exact ao A _ bd C M bc
 |some q=>
  obtain⟨v,bJ⟩:=q;rw[az]at M C bb;have cS:=bb _ rfl;subst cS;have dm:=(i9 az).1;have dn:=(dG az).1;simp only at C;rw[Y3,R2,X3,a6];have M:bR A g B H N (σ bJ):=M;obtain⟨aV,lc,cq,g1,dp,bg,f1,f2,f3,f4,f5,f6,f7⟩:=id bc;rw[aL be.p 0 f1 rfl,a1 aw.u f2.ls];have dq:scope.length<=100000:=Ω
  refine bW.range scope.length (λj E=>A=E/\n∉scope.take j) Ω ⟨rfl,Ξ⟩ ?_ ?_
  .rintro j _ cT cU ⟨rfl,aB⟩ cV;obtain⟨u,hu⟩:=aD (l:=scope) cU;rw[aS,am];refine⟨λ_=>?_,λh=>by simp only at h;omega⟩;rw[bk aw.u av.i Ψ f2.ls hu,bm,am];refine⟨λhe=>?_,λcW=>?_⟩
   .refine (pu M Ω).Y ?_;rintro _ aX _ ⟨bK,cX⟩;rw[ms (by rw[<-he];exact x7 hu)]at C;exact ao aX _ (bd.F (bK.Y λr _ h=>.inl h)) C cX (bc.dQ bK (lQ M))
   .rw[aP];refine cV _ ⟨rfl,?_⟩;rw[r9,hu];intro hm;rcases j9.1 hm with hm|hm
    .exact aB hm
    .simp at hm;exact cW hm.symm
  .rintro _ cT ⟨rfl,aB⟩;rw[j4]at aB;rw[aS,am];refine⟨λh=>by simp only at h;omega,λ_=>?_⟩;rw[rc aB]at C;rw[aL be.p 0 f1 rfl];refine eT aw.u av.i rfl λdr ds aa dt Q cY=>?_;have du:=M.lt;refine jg aw.u av.i rfl (f2.W Q) cY.ls Θ Θ λbh cZ aY aC c0 bL=>?_;have aE:=f1.W Q;have f113:=aE.V bL λhe=>ce (f2.W Q) aE Φ he rfl;rw[aU be.p rfl];refine bt (g:=f) (o:=0) aw.i aC.ls.cells.1 aC.ls.cells.2 f113 Ξ λap bM dv aG=>?_;have aG:=aG;intro S bi _ _;have aj:af (λr=>lw aV r\/r=f) aa ap:=(bL.Y λr _ h=>.inl h).F (bM.Y λr _ h=>.inr h);have bN:∀r,(lw aV r\/r=f)->il g B r:=λr e=>.inr (e.elim (λe=>f5 r (.inl e)) λe=>e▸f7);have bO:=(bd.F (Q.V _)).F (aj.Y λr _ e=>bN r e);have c1:af (il g B) w S:=bO.F (bi.V _);have c2:=bA (f3.W Q) aj λr e J=>by
    rcases J with J|rfl
    .exact f6 r J e
    .exact ce (f3.W Q) aE Φ e rfl
   have c3:=bA aC bM λr e he=>by
    have he:r=f:=he;subst he;exact ce aC f113 Φ e rfl
   have c4:∀r,(lw aV r\/r=f)->(∃c,ag aa r av c)\/∃c,ag aa r be c:=λr e=>by
    rcases e with e|rfl
    .obtain⟨G,_⟩:=bZ f2 e;obtain⟨_,⟨ak,_⟩|⟨_,cs,ak,K,_⟩⟩:=f2.W Q
     .rw[ak]at e;obtain⟨a,c5,c,G,ae⟩:=e;cases G
     .exact .inl ⟨cs,G▸K⟩
    .exact .inr ⟨_,aE⟩
   have c6:lO ap bg cq []:=by
    obtain⟨L,W,c7,bj⟩:=f4.dQ (Q.V λ_=>False) λ_ h=>h.elim;have bn:=List.map_eq_nil_iff.1 bj;subst bn;refine⟨[],W.V aj λr e J=>?_,λy bo=>(by cases bo),rfl⟩;rcases c4 r J with⟨c,K⟩|⟨c,K⟩
    .exact cK W K Φ e
    .exact cK W K Φ e
   have c8:=(M.W Q).new aj λr e=>by
    rcases bN r e with rfl|h
    .rcases e with e|e
     .exact f5 _ (.inl e)
     .exact e▸f7
    .exact h
   rw[aL be.p 1 (aG.W bi) rfl];have da:all[n.toNat]?=σ (all.getD n.toNat 0):=by rw[u5,x8 Ω];rfl
   rw[fM (y:=n) (i:=n.toNat) Ω aw.u av.i Ψ (bH c1).ls da];refine eT aw.u av.i rfl λdw dy Y dz bP db=>?_;refine⟨.inl bP,?_⟩;have X:=bi.F bP;have f316:=c2.W X;have bS:(scope.map λv=>all.getD v.toNat 0).length=scope.length:=r8 _;refine jg aw.u av.i rfl f316 db.ls (by simp at bS ⊢;omega) (by simp at bS ⊢;omega) λbU dc a7 aH bV bX=>?_;have aI:=aG.W X;have bY:=aI.V bX λhe=>ce f316 aI Φ he rfl;rw[aU be.p rfl];refine bt (g:=f) (o:=1) aw.i aH.ls.cells.1 aH.ls.cells.2 bY Ξ λac b0 dA an=>?_;have an:=an;rw[aP];have aK:af (λr=>lw lc r\/r=f) Y ac:=(bX.Y λr _ h=>.inl h).F (b0.Y λr _ h=>.inr h);have b1:∀r,(lw lc r\/r=f)->B<=r:=λr e=>e.elim (λe=>f5 r (.inr e)) λe=>e▸f7;have bp:=c3.W X;have dC:=Q.size;have dD:=aj.size;have bq:∀r,lw bh r->B<=r/\¬lw lc r:=λr e=>by
    rcases c0 r e with h|h
    .exact⟨f5 r (.inl h),f6 r h⟩
    .exact⟨Ω,λbr=>by obtain⟨G,ae⟩:=bZ f3 br;omega⟩
   have dd:=bA bp aK λr e J=>by
    rcases J with J|rfl
    .exact (bq r e).2 J
    .exact ce bp aI Φ e rfl
   have de:=bA aH b0 λr e he=>by
    have he:r=f:=he;subst he;exact ce aH bY Φ e rfl
   have df:lO ac bg cq []:=by
    obtain⟨L,W,c7,bj⟩:=c6.dQ (X.V λ_=>False) λ_ h=>h.elim;have bn:=List.map_eq_nil_iff.1 bj;subst bn;refine⟨[],W.V aK λr e J=>?_,λy bo=>(by cases bo),rfl⟩;rcases J with J|rfl
    .obtain⟨G,_⟩:=bZ f316 J;obtain⟨_,⟨ak,_⟩|⟨_,cs,ak,K,_⟩⟩:=f316
     .rw[ak]at J;obtain⟨a,c5,c,G,ae⟩:=J;cases G
     .exact cK W (G▸K) Φ e
    .exact cK W aI Φ e
   refine hk _ ⟨scope++[n],bJ,((bO.F (X.V _)).F (aK.Y λr _ e=>.inr (b1 r e))),(c8.W X).new aK b1,⟨bh,bU,cq,cZ,dc,bg,an,dd,by rw[Z3];exact de,df,λr e=>?_,λr e br=>?_,f7⟩,by rw[o9,bF];rfl,by rw[o9];simp;omega,C,λc bs=>?_⟩
   .rcases e with e|e
    .exact (bq r e).1
    .rcases bV r e with h|h
     .exact f5 r (.inr h)
     .have:=X.size;omega
   .rcases bV r br with h|h
    .exact (bq r e).2 h
    .obtain⟨G,ae⟩:=bZ bp e;omega
   .have dg:c=[bh,bU,Δ 0,cq]:=by
     unfold ag at bs an;rw[an]at bs;have:=(Obj.cells.inj (Z4 bs)).1;exact(Array.toList_inj.2 this).symm
    have dh:cq= .slice ν 0 0:=by
     obtain⟨dE,dF,dH,_,_,_,bu,_⟩:=ay;have b3:=a8 _ bu;have bw:=bu.V ba λhe=>by
      have he:=he;obtain⟨cL,G,ae,bad,cM,big,cN,m5,sv,K,_⟩:=jh R;subst he;exact ro (fp K bu) Φ
     unfold ag at bw f1;rw[f1]at bw;have di:=Array.toList_inj.2 (Obj.cells.inj (Z4 bw)).1;have R:=congrArg (λl=>l[3]?) di;simp at R;simp at b3;rw[R,b3]
    rw[dg,dh];rfl
theorem PO{s:x4->x5->Prop}(h:aN .i64 w sv l)(h1:∀z∈l,1<=z)(H:∀c:Int,(4096<c↔dy l=v2)->s (Δ c) w):
  ch (Δ 1) (Δ 0) w λx j a I=>
   ab v8 (aO .lss ai v6 v6 j (Δ (l.length:Int))) a λJ=>
   Split J (cC (α:=x4->x5->Prop) (λ(K:x4)(y:x5)=>
    ab v8 (aO .add ai v6 v2 j (Δ 1)) y λL=>
    I K L y) λA=>
   ab v8 (c9 aw sv j) a λM=>
   ab v8 (u6 av M) a λB=>
   cC (α:=x4->x5->Prop) (λ(N:x4)(f:x5)=>
    ab v8 (aO .mul av v6 v6 x N) f λC=>
    ab v8 (aO .gtr av v6 v2 C (Δ 4096)) f λO=>
    Split O (A (Δ 4097) f)
     (A C f)) λE=>
   ab v8 (aO .gtr av v6 v2 B (Δ 4096)) a λP=>
   Split P (E (Δ 4097) a)
    (E B a))
    (s x a):=by
 refine ch.range l.length (λi c U=>w=U/\∃p:Int,p=aQ ((l.take i).map λk=>min k 4097)/\1<=p/\c=Δ (if 4096<p then 4097 else p)) h.le ⟨rfl,1,by simp[aQ],Ω,by rw[rc Ω]⟩ ?_ ?_
 .rintro i _ _ Q hi ⟨rfl,p,ac,R,rfl⟩ S;obtain⟨z,q⟩:=aD (l:=l) hi;have W:=h1 z (x7 q);have e:aQ ((l.take (i+1)).map λk=>min k 4097)=p*min z 4097:=by
   rw[ac,r9,q,j6,Z3,T3,List.map_nil,Cw]
  have X:p*1<=p*min z 4097:=Int.mul_le_mul_of_nonneg_left Ω Ω;refine bG Ω ?_;refine aZ (λv aa=>w=aa/\v=Δ (if 4096<p*min z 4097 then 4097 else p*min z 4097)) ?_ ?_
  .rintro _ _ ⟨rfl,rfl⟩;rw[aP];exact S _ _ ⟨rfl,_,e.symm,Ω,rfl⟩
  intro ax r;rw[bk aw.u av.i Ψ h q];refine aZ (λv aa=>w=aa/\v=Δ (min z 4097)) ?_ ?_
  .rintro _ _ ⟨rfl,rfl⟩;rw[fz];by_cases F:4096<p
   .rw[ms F];have V:(4097:Int)*1<=4097*min z 4097:=Int.mul_le_mul_of_nonneg_left Ω Ω;rw[m1 Ω Ω,bU,am];refine⟨λ_=>r _ _ ⟨rfl,by rw[ms Ω]⟩,λY=>Ω⟩
   .rw[rc F];have V:p*min z 4097<=4096*4097:=by
     have Z:=Int.mul_le_mul_of_nonneg_right (show p<=4096 by omega) (show 0<=min z 4097 by omega);have ad:=Int.mul_le_mul_of_nonneg_left (show min z 4097<=4097 by omega) (show(0:Int)<=4096 by omega);omega
    rw[m1 Ω Ω,bU,am];exact⟨λau=>r _ _ ⟨rfl,by rw[ms au]⟩,λau=>r _ _ ⟨rfl,by rw[rc au]⟩⟩
  .intro ae G;rw[bU,am];exact⟨λau=>G _ _ ⟨rfl,by congr 1;omega⟩,λau=>G _ _ ⟨rfl,by congr 1;omega⟩⟩
 .rintro _ _ Q ⟨rfl,p,ac,R,rfl⟩;rw[j4]at ac;rw[aS,am];refine⟨λh=>Ω,λ_=>H _ ?_⟩;unfold dy;rw[<-ac,sp];split
  .exact⟨λ_=>Ω,λ_=>Ω⟩
  .exact Iff.rfl
theorem PP{g ao:Nat}{H:ah}{so:Option aJ}{ac:x5->Prop}(h:bR w g B H N so)(C:aA .i64 av w gz lc co)(aC:∀z∈co,1<=z/\z<=ay)(bo:co.length<=100001)(S:ag w ao cn [.slice ν 0 0,Δ 0])(aE:B<=ao)(ad:∀t I aT gt,t.length=co.length->af (λr=>r=g\/r=ao\/w.heap.size<=r) w I->ag I ao cn [aT,Δ 0]->aA .i64 av I gt aT t->(∀r,lw aT r->w.heap.size<=r)->bR I g B H N ((gk co [] so).map (·.2))->(∀q,gk co [] so=σ q->t=q.1)->ac I):
  bW (Δ 0) w λW s aG=>
      ab v8 (aO .lss ai v6 v6 W (Δ (co.length:Int))) s λaH=>
      Split aH (ab v8 (c9 aw lc W) s λaI=>
      ab v8 (u6 av aI) s λaK=>
      ab v8 (aO .sub av v6 v2 aK (Δ 1)) s λaM=>
      al v8 m7 [Γ g,(Δ 0),aM] s λae E=>
      ab v8 (Y8 ae 0) E λaN=>
      ab v8 (Y8 ae 1) E λbp=>
      ab v8 (u7 cn (Γ ao) 0) E λaQ=>
      ab v8 (u6 aw aQ) E λaR=>
      aF v8 (X2 aw 1 #[(0,aN)]) E λaS aV=>
      aF v8 (Z9 #[aw,aw] aw #[aR,aS]) aV λaW aj=>
      ab v8 (u7 cn (Γ ao) 0) aj λaX=>
      aF v8 (l9 aw aX aW) aj λ(_:Unit)ak=>
      ab v8 (aO .add ai v6 v2 W (Δ 1)) ak λaY=>
      aG aY ak)
       (ac s):=by
 have bq:=S.lt;have br:=h.lt;refine bW.range co.length (λj U=>∃t aT gt s1,t.length=j/\af (λr=>r=g\/r=ao\/w.heap.size<=r) w U/\ag U ao cn [aT,Δ 0]/\aA .i64 av U gt aT t/\(∀r,lw aT r->w.heap.size<=r)/\bR U g B H N s1/\gk co [] so=gk (co.drop j) t s1) C.ls.le
  ⟨[],_,0,so,rfl,af.refl _ _,S,aA.nil _ _ _ _,(λr e=>by obtain⟨a,n,c,M,X⟩:=e;cases M),h,rfl⟩ ?_ ?_
 rotate_left
 .rintro U aZ ⟨t,aT,gt,s1,O,x,P,G,y,K,he⟩;refine cd Ω ?_;rw[List.drop_length]at he;cases s1 with
  |none=>
   have he:=he;exact ad t U aT gt O x P G y (by rw[he];exact K) (λq f=>by rw[he]at f;cases f)
  |some s1=>
   have he:=he;exact ad t U aT gt O x P G y (by rw[he];exact K) (λq f=>by rw[he]at f;cases f;rfl)
 rintro j U aZ am ⟨t,aT,gt,s1,O,x,P,G,y,K,he⟩ a1;obtain⟨z,Y⟩:=aD (l:=co) am;have a2:=aC z (x7 Y);have bs:z<=4611686018427387904:=a2.2;have a6:=bA C x λr e J=>by
  rcases J with rfl|rfl|J
  .obtain⟨a7,M,X,bad,a8,big,ba,m5,sv,L,_⟩:=jh h;exact ce C L Φ e rfl
  .exact ce C S Φ e rfl
  .obtain⟨M,X⟩:=bZ C e;omega
 refine bG Ω ?_;rw[bk aw.u av.i Ψ a6.ls Y,dx,m1 Ω Ω];refine(lP K).Y ?_;rintro _ aa _ ⟨⟨Q,bb⟩,n,at_,rfl,bc,bu⟩;rw[bx,bz];have bd:ao≠g:=Ω
 have an:=P.V Q λhe=>bd he;have be:∃c,ag U g bI c:=by obtain⟨a7,M,X,bad,a8,big,ba,m5,sv,L,_⟩:=jh K;exact⟨_,L⟩
 have ap:=bA G Q λr e he=>by
  have he:r=g:=he;obtain⟨c,L⟩:=be;exact ce G L Φ e he
 rw[aL cn.p 0 an rfl];refine eT aw.u av.i rfl λa3 bw bg bB A bh=>?_;refine jg aw.u av.i rfl (ap.W A) bh.ls Θ Θ λbi bj bC R bl aq=>?_;have au:=an.W A;have ax:=au.V aq λhe=>ce (ap.W A) au Φ he rfl;rw[aU cn.p rfl];refine bt (g:=ao) (o:=0) aw.i R.ls.cells.1 R.ls.cells.2 ax Ξ λbm az bD Z=>?_;have Z:=Z;rw[aP];have aB:af (λr=>lw aT r\/r=ao) bg bm:=(aq.Y λr _ h=>.inl h).F (az.Y λr _ h=>.inr h);have bE:=x.size;have bF:=Q.size;have z3:=A.size;refine a1 _ ⟨t++[n],bi,bj,(bf 0 (z-1) s1).map (·.2),by simp[O],?_,Z,bA R az λr e he=>?_,λr e=>?_,?_,?_⟩
 .refine (x.F (Q.Y λr _ h=>.inl h)).F ((A.V _).F (aB.Y λr _ h=>?_));exact h.elim (λh=>.inr (.inr (y r h))) λh=>.inr (.inl h)
 .have he:r=ao:=he;subst he;exact ce R ax Φ e rfl
 .rcases bl r e with h|h
  .exact y r h
  .omega
 .refine (bb.W A).new aB λr e=>?_;rcases e with e|rfl
  .have:=y r e;omega
  .exact aE
 .rw[he];have bn:co.drop j=z::co.drop (j+1):=by rw[W3 am,(x6.1 Y).2]
  rw[bn,C8];cases f:bf 0 (z-1) s1 with
  |none=>rfl
  |some q=>
   obtain⟨v,bH⟩:=q;have:=bc _ f;subst this;rfl
theorem x0{g:Nat}(h:aA .i64 av w g v t):∀u∈pt ⟨v,t,c⟩,u.oneCell'=v2:=by
 intro u hu;simp[pt]at hu;rcases hu with rfl|rfl
 .exact h.ls.cells.2
 .rfl
def PQ(co:Λ)(cnt i:Nat)(s0:aJ)(A:List (Λ×Int))(so:Option aJ):Prop:=(∃s,so=σ s/\cW (eN co) cnt [] s0=cW (eN co) (cnt-i) A s/\A.length+s.hp.length<=100000)\/(so=ν/\cW (eN co) cnt [] s0=ν)
theorem PR{g K g1 a8 X:Nat}{H:ah}{s0:aJ}{aV cq:x4}{scope:Λ}{o:Int}{aC:List (Λ×Int)}{bZ:x5->Prop}(h:bR w g B H N (σ s0))(f1:ag w K be [aV,lc,Δ o,cq])(f2:aA .i64 av w g1 aV scope)(f3:aA .i64 av w a8 lc co)(f4:lO w X cq aC)(f5:∀r,lw aV r\/lw lc r->B<=r)(f6:∀r,lw aV r->¬lw lc r)(f7:B<=K)(cV:∀z∈co,1<=z/\z<=ay)(cX:co.length<=100001)(eW:n<=4611686018427387904)(bp:0<n->aC=[]/\∀r,¬lm cq r)(cY:s0.hp.length<=100000)(b0:∀I A bq,af (il g B) w I->ik I B K ⟨scope,co,o,A⟩->bR I g B H N bq->(n<=0->A=aC/\bq=σ s0)->(0<n->bq=(cW (eN co) n.toNat [] s0).map (·.2)/\∀q,cW (eN co) n.toNat [] s0=σ q->A=q.1)->bZ I):
  bW (Δ 0) w λb1 Z cZ=>
     cC (α:=x4->x5->Prop) (λ(c0:x4)(b2:x5)=>
      Split c0 (aF v8 (Instr.alloc cn v2 (.tuple #[])) b2 λx Y=>
     ab v8 (u7 be (Γ K) 1) Y λc1=>
     ab v8 (u6 aw c1) Y λb3=>
     ab v8 (V0 #[aw] ai #[b3]) Y λc2=>
     bW (Δ 0) Y λbr ad c3=>
      ab v8 (aO .lss ai v6 v6 br c2) ad λc4=>
      Split c4 (ab v8 (c9 aw b3 br) ad λc5=>
      ab v8 (u6 av c5) ad λc6=>
      ab v8 (aO .sub av v6 v2 c6 (Δ 1)) ad λc8=>
      al v8 m7 [Γ g,(Δ 0),c8] ad λb4 aG=>
      ab v8 (Y8 b4 0) aG λda=>
      ab v8 (Y8 b4 1) aG λeX=>
      ab v8 (u7 cn x 0) aG λdb=>
      ab v8 (u6 aw db) aG λdc=>
      aF v8 (X2 aw 1 #[(0,da)]) aG λdd de=>
      aF v8 (Z9 #[aw,aw] aw #[dc,dd]) de λdf b5=>
      ab v8 (u7 cn x 0) b5 λdg=>
      aF v8 (l9 aw dg df) b5 λ(_:Unit)b7=>
      ab v8 (aO .add ai v6 v2 br (Δ 1)) b7 λdh=>
      c3 dh b7)
       (al v8 m7 [Γ g,(Δ 0),(Δ 4611686018427387904)] ad λb8 G=>
     ab v8 (Y8 b8 0) G λdi=>
     ab v8 (Y8 b8 1) G λdj=>
     ab v8 (u7 be (Γ K) 3) G λdk=>
     ab v8 (u6 ek dk) G λca=>
     ab v8 (V0 #[ek] ai #[ca]) G λdl=>
     bW (Δ 0) G λbu M dm=>
      ab v8 (aO .lss ai v6 v6 bu dl) M λdn=>
      Split dn (cC (α:=x5->Prop) (λ(au:x5)=>
       ab v8 (aO .add ai v6 v2 bu (Δ 1)) au λdp=>
       dm dp au) λcb=>
      ab v8 (c9 ek ca bu) M λdq=>
      ab v8 (u6 cn dq) M λdr=>
      aF v8 (Instr.alloc cn v2 (.tuple #[])) M λy cc=>
      aF v8 (l9 cn y dr) cc λ(_:Unit)P=>
      cC (α:=x4->x5->Prop) (λ(ds:x4)(aH:x5)=>
       Split ds (al v8 oK [Γ g,(Δ 4),dj] aH λeY cf=>
        cb cf)
        (cb aH)) λcg=>
      ab v8 (bT (Γ g)) P λdt=>
      ab v8 (u7 bI dt 3) P λdu=>
      ab v8 (u6 ai du) P λdv=>
      ab v8 (aO .eql ai v6 v2 dv (Δ 0)) P λdw=>
      Split dw (ab v8 (u7 cn x 0) P λdx=>
       ab v8 (u6 aw dx) P λdy=>
      ab v8 (u7 cn y 0) P λdz=>
      ab v8 (u6 aw dz) P λdC=>
      al v8 te [dy,dC] P λdD ch=>
      cg dD ch)
       (cg (.bool v6) P))
       (ab v8 (u7 cn x 1) M λdE=>
     aF v8 (l9 av dE di) M λ(_:Unit)ae=>
     ab v8 (u7 be (Γ K) 3) ae λdF=>
     ab v8 (u6 ek dF) ae λdH=>
     ab v8 (u6 cn x) ae λdI=>
     aF v8 (X2 ek 1 #[(0,dI)]) ae λdJ ba=>
     aF v8 (Z9 #[ek,ek] ek #[dH,dJ]) ba λdK bw=>
     ab v8 (u7 be (Γ K) 3) bw λdL=>
     aF v8 (l9 ek dL dK) bw λ(_:Unit)aj=>
     ab v8 (aO .add av v6 v2 b1 (Δ 1)) aj λdM=>
     cZ dM aj)))
       (bZ b2)) λci=>
     ab v8 (aO .lss av v6 v6 b1 (Δ n)) Z λdN=>
     Split dN (ab v8 (bT (Γ g)) Z λdO=>
     ab v8 (u7 bI dO 3) Z λdP=>
     ab v8 (u6 ai dP) Z λdR=>
     ab v8 (aO .eql ai v6 v2 dR (Δ 0)) Z λdS=>
     ci dS Z)
      (ci (.bool v6) Z):=by
 have dT:=h.lt;refine bW.range n.toNat (λi U=>∃A so cq X,af (il g B) w U/\ag U K be [aV,lc,Δ o,cq]/\aA .i64 av U g1 aV scope/\aA .i64 av U a8 lc co/\lO U X cq A/\(0<n->∀r,lm cq r->B<=r)/\bR U g B H N so/\(n<=0->A=aC/\so=σ s0)/\(0<n->PQ co n.toNat i s0 A so)) Ω
  ⟨aC,σ s0,cq,X,af.refl _ _,f1,f2,f3,f4,λac r C=>ro C ((bp ac).2 r),h,λ_=>⟨rfl,rfl⟩,λac=>.inl ⟨s0,rfl,by rw[(bp ac).1];rfl,by rw[(bp ac).1];simpa using cY⟩⟩ ?_ ?_
 rotate_left
 .rintro U k ⟨A,so,cq,X,aI,az,bb,aK,aM,bB,ak,ck,E⟩;refine aZ (λv aa=>U=aa/\v= .bool v6) ?_ ?_
  .rintro _ _ ⟨rfl,rfl⟩;rw[a6];refine b0 U A so aI ⟨aV,lc,cq,g1,a8,X,az,bb,aK,aM,f5,f6,f7⟩ ak ck λac=>?_;rcases E ac with⟨s,rfl,he,_⟩|⟨rfl,he⟩
   .rw[V2]at he;rw[he];exact⟨rfl,λq O=>by cases O;rfl⟩
   .rw[he];exact⟨rfl,λq O=>by cases O⟩
  .intro ax bD;rw[aS,am];exact⟨λh=>Ω,λ_=>bD _ _ ⟨rfl,rfl⟩⟩
 rintro i U k hi ⟨A,so,cq,X,aI,az,bb,aK,aM,bB,ak,ck,E⟩ hk;have ac:0<n:=Ω
 refine aZ (λv aa=>U=aa/\v= .bool so.isSome) ?_ ?_
 rotate_left
 .intro ax bD;refine bG Ω ?_;rw[mz ak];exact bD _ _ ⟨rfl,rfl⟩
 rintro _ _ ⟨rfl,rfl⟩;rcases E ac with⟨dA,rfl,he,eZ⟩|⟨rfl,he⟩
 rotate_left
 .rw[Q1,a6];refine b0 U A ν aI ⟨aV,lc,cq,g1,a8,X,az,bb,aK,aM,f5,f6,f7⟩ ak (λh=>Ω) λ_=>?_;rw[he];exact⟨rfl,λq O=>by cases O⟩
 rw[R2,bQ];have e0:=ak.lt;refine bF cn.i λao Y e1 aN bE=>?_;have bE:ag Y ao cn [.slice ν 0 0,Δ 0]:=bE;have dU:=az.W aN;have cl:=aK.W aN;have e2:=aN.size;have e3:=az.lt;rw[aU be.p rfl,aE Ψ (dU.cell rfl),a1 aw.u cl.ls];refine PP (ak.W aN) cl cV cX bE Ω λt ad aT gt e4 dV dW dX dZ ea eb=>?_;refine(lP ea).Y ?_;rintro _ G _ ⟨⟨bH,bc⟩,c,at_,rfl,ec,e5⟩;rw[bx,bz];have bJ:ao≠g:=Ω
 have cm:K≠g:=by have:=h.lt;omega
 have ed:af (λr=>r=g\/r=ao\/Y.heap.size<=r) Y G:=dV.F (bH.Y λr _ h=>.inl h);have cp:∀{S:Nat->Prop},(∀r,S r->r=g\/U.heap.size<=r)->∀r,S r->ij U r\/U.heap.size<=r:=λee r C=>(ee r C).imp (λhe=>by
  subst he;obtain⟨cr,aQ,aR,bad,ct,big,cu,m5,sv,E,_⟩:=jh ak;exact⟨_,_,E,Φ,Φ⟩) id
 have bd:af (λr=>r=g\/U.heap.size<=r) U G:=(aN.V _).F (ed.Y λr _ h=>h.elim .inl λh=>h.elim (λh=>.inr Ω) λh=>.inr Ω);have cw:=az.V bd λh=>h.elim cm λh=>Ω
 obtain⟨L,bg,cz,bK⟩:=aM.dQ bd (cp λr C=>C);have cA:=dW.V bH λhe=>bJ he;have cB:=bA dX bH λr C he=>by
  have he:r=g:=he;have:=dZ r C;omega
 have e6:L.length=A.length:=by rw[<-bK,r8]
 rw[aL be.p 3 cw rfl,ew ek.u bg];generalize cD:(bf 0 4611686018427387904 (U7 (λx=>x.snd) (gk co [] (σ dA)))).map (·.2)=an at bc;have e7:=bd.size;refine bW.range L.length (λj M=>af (λr=>r=g) G M/\bR M g B H N (if t∈(L.take j).map (·.t)then ν else an)) bg.le ⟨af.refl _ _,by simpa using bc⟩ ?_ ?_
 .rintro j M ef cE ⟨Q,aW⟩ eg;obtain⟨y,R⟩:=aD (l:=L) cE;have bL:∃c,ag G g bI c:=by obtain⟨cr,aQ,aR,bad,ct,big,cu,m5,sv,E,_⟩:=jh bc;exact⟨_,E⟩
  have ap:∀r,r=g->ij G r\/G.heap.size<=r:=λr C=>by
   subst C;obtain⟨c,E⟩:=bL;exact .inl ⟨_,c,E,Φ,Φ⟩
  have bh:=xY bg Q λr C=>(ap r C).imp (λ⟨e,c,E,_,aX⟩=>⟨e,c,E,aX⟩) id;obtain⟨e8,eh⟩:=cz y (x7 R);have cF:=eP eh Q ap;have bM:=eP cB Q ap;have bi:=cA.V Q λhe=>bJ he;refine bG Ω ?_;have bN:t∈(L.take (j+1)).map (·.t)↔t∈(L.take j).map (·.t)\/t=y.t:=by
   rw[r9,R,j6,Z3,j9];simp
  refine c7 (λau=>af (λr=>r=g) G au/\bR au g B H N (if t∈(L.take (j+1)).map (·.t)then ν else an)) ?_ ?_
  .rintro au ei;rw[aP];exact eg _ ei
  intro e9 cG;rw[cj rfl ek.u cn.i bh cE,bC cn.p cn.i rfl (bh.range R)];refine bF cn.i λgy cc fa ej em=>?_;refine b6 (vs:=pt y) cn.i rfl rfl (x0 cF) em λP en fb eo=>?_;have aY:=ej.put en Ω;have cH:=aW.W aY;have cI:af (λr=>r=g) G P:=Q.F (aY.V _);refine aZ (λv aH=>∃b:Bool,v= .bool b/\Ext P aH/\(b=v2->t=y.t)/\(b=v6->t≠y.t\/(if t∈(L.take j).map (·.t)then ν else an)=ν)) ?_ ?_
  .rintro _ aH ⟨b,rfl,bO,ep,er⟩;have aq:=cH.W bO;cases b with
   |true=>
    rw[bQ];refine(pu aq Ω).Y ?_;rintro _ cf _ ⟨es,et⟩;refine cG _ ⟨(cI.F (bO.V _)).F es,?_⟩;rw[ms (bN.2 (.inr (ep rfl)))];exact et
   |false=>
    rw[a6];refine cG _ ⟨cI.F (bO.V _),?_⟩;by_cases hm:t∈(L.take j).map (·.t)
    .rw[ms (bN.2 (.inl hm))];rw[ms hm]at aq;exact aq
    .rw[rc hm]at aq;rcases er rfl with aX|cJ
     .rw[rc (λh=>(bN.1 h).elim hm aX)];exact aq
     .rw[rc hm]at cJ;rw[cJ]at aq ⊢;split<;>exact aq
  .intro fc cL;rw[mz cH];cases a2:(if t∈(L.take j).map (·.t)then ν else an)with
   |none=>
    rw[Q1,a6];exact cL _ _ ⟨v6,rfl,Ext.refl _,(λh=>by cases h),λ_=>.inr a2⟩
   |some fd=>
    rw[R2,bQ];have eu:=bi.W aY;rw[aL cn.p 0 eu rfl,aL cn.p 0 eo rfl];refine(xZ (bM.ls.W aY) (cF.ls.W aY)).Y ?_;rintro _ ch _ ⟨rfl,ev⟩;exact cL _ _ ⟨_,rfl,ev,λh=>ty h,λh=>.inl (of_decide_eq_false h)⟩
 .rintro M ef ⟨Q,aW⟩;rw[j4]at aW;have ey:L.map (·.t)=A.map (·.1):=by rw[<-bK,S6];rfl
  rw[ey]at aW;have bL:∃c,ag G g bI c:=by obtain⟨cr,aQ,aR,bad,ct,big,cu,m5,sv,E,_⟩:=jh bc;exact⟨_,E⟩
  have ap:∀r,r=g->ij G r\/G.heap.size<=r:=λr C=>by
   subst C;obtain⟨c,E⟩:=bL;exact .inl ⟨_,c,E,Φ,Φ⟩
  have cM:∀r,(r=g\/U.heap.size<=r)->ij U r\/U.heap.size<=r:=cp λr C=>C;have bj:af (λr=>r=g\/U.heap.size<=r) U M:=bd.F (Q.Y λr _ h=>.inl h);have eA:=cw.V Q λhe=>cm he;have eB:=eP bb bj cM;have eC:=eP aK bj cM;have bh:=xY bg Q λr C=>(ap r C).imp (λ⟨e,c,E,_,aX⟩=>⟨e,c,E,aX⟩) id;have eD:∀y∈L,∃gy,aA .i64 av M gy y.v y.t:=λy R=>by
   obtain⟨gy,hm⟩:=cz y R;exact⟨gy,eP hm Q ap⟩
  have bM:=eP cB Q ap;have bi:=cA.V Q λhe=>bJ he;refine cd Ω ?_;rw[aU cn.p rfl];refine bt (g:=ao) (o:=1) av.i rfl rfl bi Ξ λae aB fe bP=>?_;have bP:=bP;have eE:K≠ao:=Ω
  have cN:=eA.V aB λhe=>eE he;have ff:U.heap.size<=ao:=Ω
  have eF:∀r,lm cq r->r≠ao:=λr C=>by obtain⟨aQ,aR⟩:=aM.choose_spec.1.lw C;omega
  have eH:=bh.V aB λr C he=>eF r C he;rw[aL be.p 3 cN rfl,bC cn.p cn.i rfl bP.range];let a:xX:=⟨aT,t,c⟩;have bk:∀{v:x4}{a7:Nat}{l:Λ},aA .i64 av M a7 v l->aA .i64 av ae a7 v l:=λhm=>bA hm aB λr C he=>by
   have he:r=ao:=he;exact ce hm bi Φ C he
  have cO:=bk bM;refine jc (f:=pt) (a:=a) ek.u cn.i Ω rfl rfl λv45 fg ba fh W eI=>?_;have bS:=eH.W W;refine jC (f:=pt) (a:=a) ek.u cn.i rfl bS (by simpa using eI.sl) (x0 (cO.W W)) Ω Ω λcP cQ bw bm eJ cR=>?_;have bU:=cN.W W;have cS:=bU.V cR λhe=>cK bS bU Φ he;rw[aU be.p rfl];refine bt (g:=K) (o:=3) ek.i (ez bm.sl).1 (ez bm.sl).2 cS Ξ λaj cT fi bV=>?_;have bV:=bV;rw[aP];have bX:af (λr=>lm cq r\/r=K) ba aj:=(cR.Y λr _ h=>.inl h).F (cT.Y λr _ h=>.inr h);have bn:∀{v:x4}{a7:Nat}{l:Λ},aA .i64 av ba a7 v l->aA .i64 av aj a7 v l:=λhm=>bA hm bX λr C J=>by
   rcases J with J|rfl
   .obtain⟨rfl,fj,E⟩:=dY bS J;exact ce hm E Φ C rfl
   .exact ce hm bU Φ C rfl
  have cU:∀r,(lm cq r\/r=K)->B<=r:=λr C=>C.elim (λC=>bB ac r C) λC=>C▸f7;have eK:bR ae g B H N (if t∈A.map (·.1)then ν else an):=aW.new aB λr C=>by
   have C:r=ao:=C;omega
  have eL:=(eK.W W).new bX cU;have eM:af (il g B) U aj:=((bj.Y λr _ h=>h.elim .inl λh=>.inr Ω).F (aB.Y λr _ h=>.inr (by have h:r=ao:=h;omega))).F ((W.V _).F (bX.Y λr _ h=>.inr (cU r h)));have eO:lO aj cQ cP (A++[(t,c)]):=⟨L++[a],bm.V cT λr C he=>by
   have he:r=K:=he;subst he;exact cK bm cS Φ C,λy R=>by
   rcases j9.1 R with R|R
   .obtain⟨gy,hm⟩:=eD y R;exact⟨gy,bn ((bk hm).W W)⟩
   .rw[b9.1 R];exact⟨gt,bn (cO.W W)⟩,by rw[Z3,bK];rfl⟩
  refine hk _ ⟨A++[(t,c)],_,cP,cQ,aI.F eM,bV,bn ((bk eB).W W),bn ((bk eC).W W),eO,λ_ r C=>?_,eL,λh=>Ω,λ_=>?_⟩
  .rcases eJ r C with h|h
   .exact bB ac r h
   .have:=aI.size;have:=bj.size;have:=aB.size;have:=W.size;have:=dT.2;omega
  .have eQ:n.toNat-i=(n.toNat-(i+1))+1:=Ω
   rw[eQ]at he;obtain⟨eR,eS⟩:=Dc eb ec;cases O:bf 0 ay ((gk co [] (σ dA)).map (·.2))with
   |none=>
    have a2:an=ν:=by rw[<-cD];show(bf 0 ay _).map _=ν;rw[O];rfl
    rw[qm (eR O)]at he;refine .inr ⟨?_,he⟩;rw[a2];split<;>rfl
   |some q=>
    have a2:an=σ q.2:=by rw[<-cD];show(bf 0 ay _).map _=_;rw[O];rfl
    have bo:=eS q O;by_cases hm:t∈A.map (·.1)
    .rw[ms hm]at bo;rw[qm bo]at he;exact .inr ⟨by rw[ms hm],he⟩
    .rw[rc hm]at bo;rw[tR bo]at he;refine .inl ⟨q.2,by rw[rc hm,a2],he,?_⟩;cases bY:gk co [] (σ dA)with
     |none=>rw[bY]at O;cases O
     |some p=>
      rw[bY]at O;obtain⟨bs,s1⟩:=p;have aQ:=bY;obtain⟨u,_,_,eU⟩:=w5 aQ;have aR:bl 0 ay s1=σ q:=O;obtain⟨fk,fm⟩:=q;have eV:=dG aR;have:=eU.1;have:=eV.1;rw[o9];simp only[T5];omega
def k7(s:aJ):Prop:=s.big=v6->0<=s.m5/\s.m5<=16384
def k8(e:Bool)(ar:Nat)(scope co:Λ)(f:Option aJ):Option (cE×aJ):=match bf 0 ay (f.map (bi (decide (6<ar)||dy co)))with
 |none=>ν
 |some (other,h)=>match dW co h with
  |none=>ν
  |some (lines,a)=>σ (⟨scope,co,other,lines⟩,if e=v2 then{a with m6:=a.m6++[(co,lines)]}else a)
theorem EC{s s':aJ}{l:List (Λ×Int)}(h:dW co s=σ (l,s')):s'.hp.length+1<=s.hp.length/\s'.m6=s.m6:=by
 unfold dW at h;cases e:bl (-ay) ay s with
 |none=>rw[e]at h;cases h
 |some q=>
  obtain⟨n,s1⟩:=q;have j:=dG e;have y:=j.1;have p:=j.eqs.2.2;rw[e]at h;simp only at h;split at h
  .split at h
   .cases h
   .split at h
    .cases h;exact⟨Ω,p⟩
    .cases h
  .have aW:=h;have:=lG (λ_ t=>t.hp.length<=s1.hp.length/\t.m6=s1.m6) (λacc t a bs r x=>by
    obtain⟨_,_,_,w⟩:=qj x;have h1:=w.1;have f:=w.eqs.2.2;exact⟨by have:=r.1;omega,f.F r.2⟩) n.toNat [] (bi (decide (16384<min (s1.m5+n) ay)) {s1 with m5:=min (s1.m5+n) ay}) l s' ⟨o4 _,rfl⟩ aW
   obtain⟨⟨h1,f⟩,_⟩:=this;exact⟨Ω,f.F p⟩
theorem uK{g:Nat}{H:ah}{s:aJ}(h:bR w g B H N (σ s)):s.hp.length<=100000/\s.m6.length+s.hp.length<=100000:=by
 obtain⟨j,w0,p,q,gs,sv,L,X,r,x,bad,y,big,z,m5,h1,A,C,E,e,F,G,I,J,K,M,a,O,f,P⟩:=h;have Q:=e.2.2.1;refine⟨by rw[<-a,r8];omega,by rw[<-a,<-f,r8,r8];omega⟩
def ED(w:x5)(g h B:Nat)(H:ah)(e:Option (cE×aJ))(v:x4)(I:x5):Prop:=∃f x a,af (λr=>r=g\/H r\/r=h\/B<=r) w I/\v= .agg (fC f).toArray/\gZ I f x/\bR I g I.heap.size a 100001 (e.map (·.2))/\(∀q,e=σ q->x=q.1)/\(∀r,H r->a r)/\(∀r,a r->H r\/B<=r)/\∀r,a r->r<I.heap.size
theorem EE{g E ar:Nat}{H:ah}{R:Option aJ}{bc:Bool}{dw:Int}{scope:Λ}{Q:x4->x5->Prop}(h:bR w g B H 100000 R)(dz:ik w B E ⟨scope,co,0,[]⟩)(fj:∀c,ag w E be c->c[3]?=σ (.slice ν 0 0))(dA:∀z∈co,1<=z/\z<=ay)(fk:co.length<=100001)(dC:ag w N be [.slice ν 0 0,.slice ν 0 0,Δ 0,.slice ν 0 0])(ju:N<B)(cG:¬H N)(cH:∀r,H r->r<B)(fo:∀ap,R=σ ap->k7 ap)(fq:∀v I,ED w g N B H (k8 bc ar scope co R) v I->Q v I):
  ab v8 (u7 be (Γ E) 1) w λfs=>
  ab v8 (u6 aw fs) w λdE=>
  ab v8 (V0 #[aw] ai #[dE]) w λft=>
  ch (Δ 1) (Δ 0) w λdF cY aC fu=>
   ab v8 (aO .lss ai v6 v6 cY ft) aC λfv=>
   Split fv (cC (α:=x4->x5->Prop) (λ(fw:x4)(dH:x5)=>
    ab v8 (aO .add ai v6 v2 cY (Δ 1)) dH λfx=>
    fu fw fx dH) λdI=>
   ab v8 (c9 aw dE cY) aC λfy=>
   ab v8 (u6 av fy) aC λdJ=>
   cC (α:=x4->x5->Prop) (λ(fz:x4)(cI:x5)=>
    ab v8 (aO .mul av v6 v6 dF fz) cI λdK=>
    ab v8 (aO .gtr av v6 v2 dK (Δ 4096)) cI λfA=>
    Split fA (dI (Δ 4097) cI)
     (dI dK cI)) λdL=>
   ab v8 (aO .gtr av v6 v2 dJ (Δ 4096)) aC λfB=>
   Split fB (dL (Δ 4097) aC)
    (dL dJ aC))
    (cC (α:=x5->Prop) (λ(bX:x5)=>
   al v8 m7 [(Γ g),(Δ 0),(Δ 4611686018427387904)] bX λdM bB=>
   ab v8 (Y8 dM 0) bB λfD=>
   ab v8 (Y8 dM 1) bB λjv=>
   ab v8 (u7 be (Γ E) 2) bB λfE=>
   aF v8 (l9 av fE fD) bB λ(_:Unit)bd=>
   al v8 m7 [(Γ g),(Δ (-4611686018427387904)),(Δ 4611686018427387904)] bd λdN O=>
   ab v8 (Y8 dN 0) O λbD=>
   ab v8 (Y8 dN 1) O λdO=>
   ab v8 (bT (Γ g)) O λfF=>
   ab v8 (u7 bI fF 3) O λfG=>
   ab v8 (u6 ai fG) O λfH=>
   ab v8 (aO .neq ai v6 v2 fH (Δ 0)) O λfI=>
   Split fI (ab v8 (u6 be (Γ E)) O λbZ=>
    aF v8 (l9 be (Γ N) bZ) O λ(_:Unit)bg=>
    ab v8 (do loadVar be (<-asAddr (Γ N))) bg λb0=>
 Q b0 bg)
    (cC (α:=x5->Prop) (λ(aR:x5)=>
    bW (Δ 0) aR λdP bo fJ=>
     cC (α:=x4->x5->Prop) (λ(fK:x4)(b1:x5)=>
      Split fK (aF v8 (Instr.alloc cn v2 (.tuple #[])) b1 λx cJ=>
     ab v8 (u7 be (Γ E) 1) cJ λfL=>
     ab v8 (u6 aw fL) cJ λdR=>
     ab v8 (V0 #[aw] ai #[dR]) cJ λfM=>
     bW (Δ 0) cJ λcZ bE fN=>
      ab v8 (aO .lss ai v6 v6 cZ fM) bE λfO=>
      Split fO (ab v8 (c9 aw dR cZ) bE λfP=>
      ab v8 (u6 av fP) bE λfQ=>
      ab v8 (aO .sub av v6 v2 fQ (Δ 1)) bE λfR=>
      al v8 m7 [(Γ g),(Δ 0),fR] bE λdS b3=>
      ab v8 (Y8 dS 0) b3 λfS=>
      ab v8 (Y8 dS 1) b3 λjw=>
      ab v8 (u7 cn x 0) b3 λfU=>
      ab v8 (u6 aw fU) b3 λfV=>
      aF v8 (X2 aw 1 #[(0,fS)]) b3 λfW fX=>
      aF v8 (Z9 #[aw,aw] aw #[fV,fW]) fX λfY dT=>
      ab v8 (u7 cn x 0) dT λfZ=>
      aF v8 (l9 aw fZ fY) dT λ(_:Unit)dU=>
      ab v8 (aO .add ai v6 v2 cZ (Δ 1)) dU λgb=>
      fN gb dU)
       (al v8 m7 [(Γ g),(Δ 0),(Δ 4611686018427387904)] bE λdV bF=>
     ab v8 (Y8 dV 0) bF λgc=>
     ab v8 (Y8 dV 1) bF λgd=>
     ab v8 (u7 be (Γ E) 3) bF λgf=>
     ab v8 (u6 ek gf) bF λdX=>
     ab v8 (V0 #[ek] ai #[dX]) bF λgg=>
     bW (Δ 0) bF λc0 bG gh=>
      ab v8 (aO .lss ai v6 v6 c0 gg) bG λgi=>
      Split gi (cC (α:=x5->Prop) (λ(dZ:x5)=>
       ab v8 (aO .add ai v6 v2 c0 (Δ 1)) dZ λgj=>
       gh gj dZ) λea=>
      ab v8 (c9 ek dX c0) bG λgk=>
      ab v8 (u6 cn gk) bG λgl=>
      aF v8 (Instr.alloc cn v2 (.tuple #[])) bG λy gm=>
      aF v8 (l9 cn y gl) gm λ(_:Unit)aG=>
      cC (α:=x4->x5->Prop) (λ(gn:x4)(eb:x5)=>
       Split gn (al v8 oK [(Γ g),(Δ 4),gd] eb λjx gp=>
        ea gp)
        (ea eb)) λec=>
      ab v8 (bT (Γ g)) aG λgq=>
      ab v8 (u7 bI gq 3) aG λgu=>
      ab v8 (u6 ai gu) aG λgv=>
      ab v8 (aO .eql ai v6 v2 gv (Δ 0)) aG λgw=>
      Split gw (ab v8 (u7 cn x 0) aG λgx=>
       ab v8 (u6 aw gx) aG λgA=>
      ab v8 (u7 cn y 0) aG λgB=>
      ab v8 (u6 aw gB) aG λgC=>
      al v8 te [gA,gC] aG λgD gE=>
      ec gD gE)
       (ec (.bool v6) aG))
       (ab v8 (u7 cn x 1) bG λgF=>
     aF v8 (l9 av gF gc) bG λ(_:Unit)cL=>
     ab v8 (u7 be (Γ E) 3) cL λgH=>
     ab v8 (u6 ek gH) cL λgI=>
     ab v8 (u6 cn x) cL λgJ=>
     aF v8 (X2 ek 1 #[(0,gJ)]) cL λgK gL=>
     aF v8 (Z9 #[ek,ek] ek #[gI,gK]) gL λgM ed=>
     ab v8 (u7 be (Γ E) 3) ed λgN=>
     aF v8 (l9 ek gN gM) ed λ(_:Unit)ee=>
     ab v8 (aO .add av v6 v2 dP (Δ 1)) ee λgO=>
     fJ gO ee)))
       (cC (α:=x5->Prop) (λ(aj:x5)=>
     ab v8 (u6 be (Γ E)) aj λgP=>
     aF v8 (l9 be (Γ N) gP) aj λ(_:Unit)ef=>
     ab v8 (do loadVar be (<-asAddr (Γ N))) ef λgQ=>
 Q gQ ef) λeg=>
    Split (.bool bc) (ei b1 λaq=>
     ab v8 (bT (Γ g)) aq λc1=>
     ab v8 (u7 bI c1 8) aq λc2=>
     ab v8 (u6 dD c2) aq λeh=>
     ab v8 (u6 be (Γ E)) aq λgR=>
     aF v8 (X2 dD 1 #[(0,gR)]) aq λgS aT=>
     (Ext aq aT\/b2 v8 (u6 dD c2) eh aT/\b2 v8 (u7 bI c1 8) c2 aT/\b2 v8 (bT (Γ g)) c1 aT/\True)/\
     aF v8 (Z9 #[dD,dD] dD #[eh,gS]) aT λgT cM=>
      ab v8 (bT (Γ g)) cM λgU=>
      ab v8 (u7 bI gU 8) cM λgV=>
      aF v8 (l9 dD gV gT) cM λ(_:Unit)bp=>
      eg bp)
     (eg b1))) λej=>
     ab v8 (aO .lss av v6 v6 dP bD) bo λgW=>
     Split gW (ab v8 (bT (Γ g)) bo λgX=>
     ab v8 (u7 bI gX 3) bo λgY=>
     ab v8 (u6 ai gY) bo λg0=>
     ab v8 (aO .eql ai v6 v2 g0 (Δ 0)) bo λg2=>
     ej g2 bo)
      (ej (.bool v6) bo)) λem=>
   ab v8 (aO .lss av v6 v2 bD (Δ 0)) O λg3=>
   Split g3 (cC (α:=x4->x5->Prop) (λ(g4:x4)(Z:x5)=>
     Split g4 (al v8 oK [(Γ g),(Δ 4),dO] Z λjy c3=>
     ab v8 (u6 be (Γ E)) c3 λg5=>
     aF v8 (l9 be (Γ N) g5) c3 λ(_:Unit)en=>
     ab v8 (do loadVar be (<-asAddr (Γ N))) en λg6=>
 Q g6 en)
     (ab v8 (bT (Γ g)) Z λg7=>
    ab v8 (u7 bI g7 8) Z λg8=>
    ab v8 (u6 dD g8) Z λg9=>
    ab v8 (Op.unary .neg bD) Z λha=>
    ab v8 (aO .sub av v6 v2 ha (Δ 1)) Z λhb=>
    ab v8 (c9 dD g9 hb) Z λhc=>
    ab v8 (u7 be hc 3) Z λhd=>
    ab v8 (u6 ek hd) Z λhf=>
    ab v8 (u7 be (Γ E) 3) Z λhg=>
    aF v8 (l9 ek hg hf) Z λ(_:Unit)eo=>
    em eo)) λep=>
    ei O λP=>
    ab v8 (Op.unary .neg bD) P λhh=>
    ab v8 (bT (Γ g)) P λhj=>
    ab v8 (u7 bI hj 8) P λhl=>
    ab v8 (u6 dD hl) P λhn=>
    ab v8 (V0 #[dD] ai #[hn]) P λho=>
    ab v8 (aO .gtr av v6 v6 hh ho) P λhq=>
    Split hq (ep (.bool v2) P)
    (ab v8 (bT (Γ g)) P λhr=>
    ab v8 (u7 bI hr 8) P λhs=>
    ab v8 (u6 dD hs) P λht=>
    ab v8 (Op.unary .neg bD) P λhv=>
    ab v8 (aO .sub av v6 v2 hv (Δ 1)) P λhx=>
    ab v8 (c9 dD ht hx) P λhy=>
    ab v8 (u7 be hy 1) P λhz=>
    ab v8 (u6 aw hz) P λhA=>
    ab v8 (u7 be (Γ E) 1) P λhB=>
    ab v8 (u6 aw hB) P λhC=>
    al v8 te [hA,hC] P λhD c4=>
    ab v8 (Op.unary .not hD) c4 λhE=>
    ep hE c4))
    (ab v8 (bT (Γ g)) O λhF=>
    ab v8 (u7 bI hF 7) O λhG=>
    ab v8 (u6 av hG) O λhH=>
    ab v8 (aO .add av v6 v6 hH bD) O λhI=>
    ab v8 (bT (Γ g)) O λhJ=>
    ab v8 (u7 bI hJ 7) O λhK=>
    aF v8 (l9 av hK hI) O λ(_:Unit)aH=>
    cC (α:=x5->Prop) (λ(aI:x5)=>
     ab v8 (bT (Γ g)) aI λhL=>
     ab v8 (u7 bI hL 7) aI λhM=>
     ab v8 (u6 av hM) aI λhN=>
     ab v8 (aO .gtr av v6 v2 hN (Δ 16384)) aI λhO=>
     al v8 td [(Γ g),hO,dO] aI λjz c5=>
     em c5) λer=>
    ab v8 (bT (Γ g)) aH λhP=>
    ab v8 (u7 bI hP 7) aH λhQ=>
    ab v8 (u6 av hQ) aH λhR=>
    ab v8 (aO .gtr av v6 v2 hR (Δ 4611686018427387904)) aH λhS=>
    Split hS (ab v8 (bT (Γ g)) aH λhT=>
    ab v8 (u7 bI hT 7) aH λhU=>
    aF v8 (l9 av hU (Δ 4611686018427387904)) aH λ(_:Unit)es=>
    er es)
    (er aH)))) λet=>
  ab v8 (aO .gtr av v6 v2 (Δ (ar:Int)) (Δ 6)) aC λhV=>
  Split hV (al v8 td [(Γ g),(.bool v2),(Δ dw)] aC λjA hW=>
  et hW)
   (ab v8 (aO .gtr av v6 v2 dF (Δ 4096)) aC λhX=>
  al v8 td [(Γ g),hX,(Δ dw)] aC λjB hY=>
  et hY)):=by
 have hZ:=h.lt;have eu:N≠g:=λhe=>by
  obtain⟨au,ac,ad,bad,az,big,aB,m5,sv,C,_⟩:=jh h;subst he;exact ro (fp C dC) Φ
 obtain⟨aV,lc,cq,g1,cN,cO,f1,f2,f3,f4,f5,f6,f7⟩:=id dz;have b4:E≠g:=Ω
 have ret:∀{G:x5}{x:cE}{S:ah},ik G B E x->ag G N be [.slice ν 0 0,.slice ν 0 0,Δ 0,.slice ν 0 0]->af (λr=>r=g\/H r\/B<=r) w G->bR G g G.heap.size S 100001 ((k8 bc ar scope co R).map (·.2))->(∀q,k8 bc ar scope co R=σ q->x=q.1)->¬S N->(∀r,H r->S r)->(∀r,S r->H r\/B<=r)->(∀r,S r->r<G.heap.size)->
   (ab v8 (u6 be (Γ E)) G λbZ=>
    aF v8 (l9 be (Γ N) bZ) G λ(_:Unit)bg=>
    ab v8 (do loadVar be (<-asAddr (Γ N))) bg λb0=>Q b0 bg):=by
  intro G x S c6 c8 h0 h2 h3 h4 da h5 h6;obtain⟨aV,lc,cq,g1,cN,cO,db,dc,dd,de,df,ev,ey⟩:=c6;let ae:ke:=⟨aV,lc,x.other,cq⟩;have b5:gZ G ae x:=⟨⟨g1,dc⟩,⟨cN,dd⟩,rfl,cO,de⟩;rw[bC be.p be.i rfl (show G.rangeAt E 0 (fC ae)from db.range)];refine b6 (vs:=fC ae) be.i rfl rfl b5.one c8 λjD dg h7 h8=>?_;rw[fi be.p be.i rfl h8.range];have h9:∀r,r=N->ij G r\/G.heap.size<=r:=λr j=>by subst j;exact .inl ⟨_,_,c8,Φ,Φ⟩
  refine fq _ _ ⟨ae,x,S,(h0.Y λr _ h=>?_).F (dg.Y λr _ h=>.inr (.inr (.inl h))),rfl,b5.dQ dg h9,h2.dQ dg λr j=>.inl ?_,h3,da,h5,λr j=>by rw[h7];exact h6 r j⟩
  .exact h.elim .inl λh=>h.elim (λh=>.inr (.inl h)) λh=>.inr (.inr (.inr h))
  .have j:r=N:=j;subst j;exact⟨_,_,c8,Φ,Φ,Φ,Φ,h4⟩
 have dh:∀{G:x5},af (il g B) w G->ag G N be [.slice ν 0 0,.slice ν 0 0,Δ 0,.slice ν 0 0]:=λaW=>dC.V aW λJ=>J.elim eu λh=>Ω
 have di:∀{G:x5},af (il g B) w G->af (λr=>r=g\/H r\/B<=r) w G:=λaW=>aW.Y λr _ h=>h.elim .inl λh=>.inr (.inr h);have eA:∀{G:x5}{eB:Nat}{S:ah}{so:Option aJ},bR G g eB S 100000 so->bR G g eB S 100001 so:=λj=>by
  obtain⟨b7,w0,au,bh,gs,sv,L,X,ac,ad,bad,az,big,aB,m5,h1,ia,ib,ic,ie,dj,dk⟩:=j;refine⟨Ω,w0,au,bh,gs,sv,L,X,ac,ad,bad,az,big,aB,m5,h1,ia,ib,ic,ie,dj,?_⟩;rename_i so;cases so with
  |none=>exact⟨dk.1,by have:=dk.2;omega⟩
  |some s=>exact dk
 have eC:∀{G:x5}{x:cE},ik G B E x->af (il g B) w G->bR G g B H 100000 ν->k8 bc ar scope co R=ν->(ab v8 (u6 be (Γ E)) G λbZ=>
    aF v8 (l9 be (Γ N) bZ) G λ(_:Unit)bg=>
    ab v8 (do loadVar be (<-asAddr (Γ N))) bg λb0=>Q b0 bg):=λc6 aW j eD=>
  ret c6 (dh aW) (di aW) (by rw[eD];exact eA j.base) (λq W=>by rw[eD]at W;cases W) cG (λ_ h=>h) (λ_ h=>.inl h) λr j=>by have:=cH r j;have:=aW.size;omega
 rw[aL be.p 1 f1 rfl,a1 aw.u f3.ls];refine PO f3.ls (λz ig=>(dA z ig).1) λc aW=>?_;refine c7 (λbX=>af (λr=>r=g) w bX/\bR bX g B H 100000 (R.map (bi (decide (6<ar)||dy co)))) ?_ ?_
 rotate_left
 .intro ax aX;rw[bU,am];refine⟨λdj=>?_,λdj=>?_⟩
  .refine (ob h).Y ?_;rintro _ U _ aY;refine aX _ ⟨aY.1,?_⟩;rw[rs (show 6<ar by omega),Bool.true_or];exact aY.2
  .rw[bU];refine(ob h).Y ?_;rintro _ U _ aY;refine aX _ ⟨aY.1,?_⟩;have e:dy co=decide (4096<c):=by rw[U8,sp];exact aW.symm
   rw[s2 (show¬6<ar by omega),Bool.false_or,e];exact aY.2
 rintro bX ⟨ih,ii⟩;refine(lP ii).Y ?_;rintro _ bB _ ⟨⟨im,io⟩,o,jE,rfl,ip,jF⟩;rw[bx,bz];have bH:af (λr=>r=g) w bB:=ih.F im;have jG:=dz.dQ bH (lQ h);have f123:=f1.V bH λhe=>b4 he;rw[aU be.p rfl];refine bt (g:=E) (o:=2) av.i rfl rfl f123 Ξ λbd b8 jH bJ=>?_;have bJ:ag bd E be [aV,lc,Δ o,cq]:=bJ;have dl:∀r,r=g->ij w r\/w.heap.size<=r:=λr j=>(lQ h r j).imp (λ⟨e,c,C,a2,a7,_⟩=>⟨e,c,C,a2,a7⟩) id;have bK:∀{G:x5}{c:List x4},ag G E be c->∀r,r=E->ij G r\/G.heap.size<=r:=λC r j=>by subst j;exact .inl ⟨_,_,C,Φ,Φ⟩
 have f224:=eP (eP f2 bH dl) b8 (bK f123);have f324:=eP (eP f3 bH dl) b8 (bK f123);have eE:=(f4.dQ bH dl).dQ b8 (bK f123);have bL:=io.new b8 λr j=>by have j:r=E:=j;omega
 have eF:af (il g B) w bd:=(bH.Y λr _ h=>.inl h).F (b8.Y λr _ h=>.inr (by have h:r=E:=h;omega));refine(lP bL).Y ?_;rintro _ O _ ⟨⟨bj,a8⟩,n,jI,rfl,iq,eH⟩;rw[bx,bz,r6 a8];have eI:af (il g B) w O:=eF.F (bj.Y λr _ h=>.inl h);have ir:ik bd B E ⟨scope,co,o,[]⟩:=⟨aV,lc,cq,g1,cN,cO,bJ,f224,f324,eE,f5,f6,f7⟩;have eJ:=ir.dQ bj (lQ bL);cases ba:bf (-4611686018427387904) 4611686018427387904 (U7 (λx=>x.snd) (bf 0 4611686018427387904 (R.map (bi (decide (6<ar)||dy co)))))with
 |none=>
  rw[ba]at a8;rw[Option.map_none,Q1,W6,bQ];refine eC eJ eI a8 ?_;unfold k8;cases Y:bf 0 ay (R.map (bi (decide (6<ar)||dy co)))with
  |none=>rfl
  |some p=>
   obtain⟨o',M⟩:=p;have it:bf 0 4611686018427387904 (R.map (bi (decide (6<ar)||dy co)))=σ (o',M):=Y;rw[it]at ba;have e:bl (-ay) ay M=ν:=ba;simp only;unfold dW;rw[e]
 |some q=>
 obtain⟨jJ,K⟩:=q;have iu:=iq _ ba;subst iu;rw[ba]at a8;have a8:bR O g B H 100000 (σ K):=a8;rw[Y3,R2,X3,a6];obtain⟨M,Y,dm⟩:∃M,bf 0 ay (R.map (bi (decide (6<ar)||dy co)))=σ (o,M)/\bl (-ay) ay M=σ (n,K):=by
  cases Y:bf 0 4611686018427387904 (R.map (bi (decide (6<ar)||dy co)))with
  |none=>rw[Y]at ba;cases ba
  |some p=>
   obtain⟨o',M⟩:=p;have:=ip _ Y;subst this;rw[Y]at ba;exact⟨M,Y,ba⟩
 have b9:k8 bc ar scope co R=match dW co M with
   |none=>ν
   |some (lines,K)=>σ (⟨scope,co,o,lines⟩,if bc=v2 then{K with m6:=K.m6++[(co,lines)]}else K):=by
  unfold k8;rw[Y]
 have iv:=(i9 dm).1;have iw: -4611686018427387904<=n/\n<=4611686018427387904:=iv;have eK:dW co M=(if n<0 then match K.m6[(-n-1).toNat]? with
   |none=>ν
   |some (z,l)=>if z=co then σ (l,K)else ν
  else cW (eN co) n.toNat [] (bi (decide (16384<min (K.m5+n) ay)) {K with m5:=min (K.m5+n) ay})):=by
  unfold dW;rw[dm];rfl
 have ix:k7 K:=by
  cases bN:R with
  |none=>rw[bN]at Y;cases Y
  |some ap=>
   rw[bN]at Y;have dn:bl 0 ay (bi (decide (6<ar)||dy co) ap)=σ (o,M):=Y;have cP:=(dG dn).eqs;have ca:=(dG dm).eqs;intro C;rw[ca.2.1,cP.2.1]at C;rw[ca.1,cP.1];exact fo ap bN (U1.1 C).1
 refine c7 (λaR=>af (il g B) w aR/\∃bq cb cQ bk,ag aR E be [aV,lc,Δ o,bq]/\aA .i64 av aR g1 aV scope/\aA .i64 av aR cN lc co/\lO aR cb bq cQ/\bR aR g B H 100000 (σ bk)/\(0<n->cQ=[]/\∀r,¬lm bq r)/\dW co M=(if n<=0 then σ (cQ,bk)else cW (eN co) n.toNat [] bk)) ?_ ?_
 .rintro aR ⟨iy,bq,cb,cQ,bk,db,dc,dd,de,df,ev,ey⟩;refine PR df db dc dd de f5 f6 f7 dA fk iw.2 ev (uK df).1 λb1 A dp iz eL eM iA cc=>?_;have bO:=iy.F iz;have br:dp=(dW co M).map (·.2)/\∀q,dW co M=σ q->A=q.1:=by
   rw[ey];by_cases dq:n<=0
   .obtain⟨ac,ad⟩:=iA dq;rw[ms dq];exact⟨ad,λq W=>by cases W;exact ac⟩
   .rw[rc dq];exact cc Ω
  obtain⟨br,aY⟩:=br;cases bc with
  |false=>
   refine c7 (λaj=>b1=aj) ?_ ?_
   .rintro _ rfl;refine ret eL (dh bO) (di bO) ?_ ?_ cG (λ_ h=>h) (λ_ h=>.inl h) λr j=>by have:=cH r j;have:=bO.size;omega
    .have:(k8 v6 ar scope co R).map (·.2)=dp:=by
      rw[b9,br];cases dW co M with
      |none=>rfl
      |some p=>rfl
     rw[this];exact eA eM.base
    .intro q W;rw[b9]at W;cases ak:dW co M with
     |none=>rw[ak]at W;cases W
     |some p=>
      rw[ak]at W;have:=aY p ak;cases W;rw[this]
   .intro ax aX;rw[a6];exact aX _ rfl
  |true=>
   refine c7 (λaj=>∃S,af (λr=>r=g\/H r\/B<=r) w aj/\ik aj B E ⟨scope,co,o,A⟩/\ag aj N be [.slice ν 0 0,.slice ν 0 0,Δ 0,.slice ν 0 0]/\bR aj g aj.heap.size S 100001 ((k8 v2 ar scope co R).map (·.2))/\¬S N/\(∀r,H r->S r)/\(∀r,S r->H r\/B<=r)/\∀r,S r->r<aj.heap.size) ?_ ?_
   .rintro aj ⟨S,iB,iC,a3,a4,a5,iD,iE,iF⟩;refine ret iC a3 iB a4 ?_ a5 iD iE iF;intro q W;rw[b9]at W;cases ak:dW co M with
    |none=>rw[ak]at W;cases W
    |some p=>
     rw[ak]at W;have:=aY p ak;cases W;rw[this]
   .intro ax aX;rw[bQ];intro aq cd _ _;have iG:=eM.W cd;have iH:=eL.W cd;have iI:=(dh bO).W cd;obtain⟨b7,w0,au,bh,gs,sv,L,X,ac,ad,bad,az,big,aB,m5,cR,bs,bu,an,bw,bm,bA⟩:=id iG;have iJ:=bw.g bs bu;obtain⟨⟨iK,eO⟩,aM,ce,cf⟩:=id iJ;have iL:∀r,lm sv r->r<B:=λr j=>cH r (bm r j);rw[aK bI.p 8 an rfl];obtain⟨eQ,eR,bq,eS,eU,cb,eV,eW,eX,eY,iM,iO,iP⟩:=id iH;let ae:ke:=⟨eQ,eR,o,bq⟩;let x:cE:=⟨scope,co,o,A⟩;have b5:gZ aq ae x:=⟨⟨eS,eW⟩,⟨eU,eX⟩,rfl,cb,eY⟩;rw[bC be.p be.i rfl (show aq.rangeAt E 0 (fC ae)from eV.range)];refine jc (f:=fC) (a:=ae) dD.u be.i Ω rfl rfl λjK jL aT jM aa iQ=>?_;refine⟨.inl aa,?_⟩;have jN:L.length<=100000:=by
     cases dp with
     |none=>exact bA.2
     |some s=>have:=bA.2.2.2.2.2.2.2.2;omega
    have dr:=aM.W aa;refine jC (f:=fC) (a:=ae) dD.u be.i rfl dr (by simpa using iQ.sl) (b5.W aa).one Ω Ω λeZ iR cM cg iS e0=>?_;have ds:=an.W aa;have e1:=ds.V e0 λhe=>cK dr ds Φ he;rw[bY,aU bI.p rfl];refine bt (g:=g) (o:=8) dD.i (ez cg.sl).1 (ez cg.sl).2 e1 (by simp[iN]) λbp dt jO cS=>?_;have cS:ag bp g bI (iN au ac ad bad az big aB m5 eZ):=cS;have aN:af (λr=>lm sv r\/r=g) aT bp:=(e0.Y λr _ h=>.inl h).F (dt.Y λr _ h=>.inr h);have cT:∀r,(lm sv r\/r=g)->ij aT r\/aT.heap.size<=r:=λr j=>by
     rcases j with j|rfl
     .obtain⟨rfl,c,C⟩:=dY dr j;exact .inl ⟨_,c,C,Φ,Φ⟩
     .exact .inl ⟨_,_,ds,Φ,Φ⟩
    have e2:∀{ae x},gZ aq ae x->gZ bp ae x:=λhe=>(he.W aa).dQ aN cT;have z50:=cd.size;have jP:=aa.size;have z53:=aN.size;have jQ:=bO.size;have jR:=hZ.2;refine aX _ ⟨λr=>H r\/(aq.heap.size<=r/\r<bp.heap.size),?_,?_,?_,?_,?_,λr j=>.inl j,λr j=>j.imp id λj=>Ω,λr j=>?_⟩
    .refine (((di bO).F (cd.V _)).F (aa.V _)).F (aN.Y λr _ j=>?_);exact j.elim (λj=>.inr (.inl (bm r j))) .inl
    .have iT:=eV.W aa;refine⟨eQ,eR,bq,eS,eU,cb,iT.V aN λj=>?_,eP (eW.W aa) aN cT,eP (eX.W aa) aN cT,(eY.dQ (aa.V λ_=>False) λ_ h=>h.elim).dQ aN cT,iM,iO,iP⟩;rcases j with j|j
     .have:=iL _ j;omega
     .exact b4 j
    .exact (iI.W aa).V aN λj=>j.elim (λj=>cG (bm _ j)) eu
    .refine⟨Ω,bp,au,bh,iR,eZ,L++[ae],X++[x],ac,ad,bad,az,big,aB,m5,rfl,af.refl _ _,⟨_,cS⟩,cS,⟨⟨?_,λr j=>?_⟩,cg.V dt λr j he=>?_,by rw[o9,o9,ce];rfl,λi iU iV hi ci=>?_⟩,λr j=>?_,?_⟩
     .refine (iK.V (aa.V λ_=>False) λ_ _ h=>h).V aN λr j J=>?_;obtain⟨c,C⟩:=eO r j;rcases J with J|rfl
      .obtain⟨rfl,iW,du⟩:=dY aM J;exact ro (fp C du) Φ
      .exact ro (fp C an) Φ
     .obtain⟨c,C⟩:=eO r j;refine⟨c,(C.W aa).V aN λJ=>?_⟩;rcases J with J|rfl
      .obtain⟨rfl,iW,du⟩:=dY aM J;exact ro (fp C du) Φ
      .exact ro (fp C an) Φ
     .have he:r=g:=he;subst he;exact cK cg e1 Φ j
     .by_cases iX:i<L.length
      .rw[Y4 iX]at hi;rw[Y4 Ω]at ci;exact e2 (cf i iU iV hi ci)
      .rw[Z7 Ω]at hi;rw[Z7 Ω]at ci;have iY:i-L.length=0:=by have:=(x6.1 hi).1;simp at this;omega
       have da:i-X.length=0:=Ω
       rw[iY]at hi;rw[da]at ci;cases hi;cases ci;exact e2 b5
     .rcases iS r j with h|h
      .exact .inl (bm r h)
      .have:=(cg.lw j);have:=dt.size;exact .inr ⟨Ω,Ω⟩
     .rw[b9];cases ak:dW co M with
      |none=>
       rw[ak]at br;rw[br]at bA;exact⟨bA.1,by rw[o9];simp;have:=bA.2;omega⟩
      |some p=>
       obtain⟨lines,bk⟩:=p;rw[ak]at br;rw[br]at bA;have iZ:=aY _ ak;obtain⟨ck,cl,cm,cp,cr,bP,ct,aQ,cU⟩:=id bA;have e3:=EC ak;refine⟨ck,cl,cm,cp,cr,bP,ct,?_,?_⟩
       .show (X++[x]).map _=bk.m6++[(co,lines)];rw[Z3,aQ];simp only[x,T3,List.map_nil];rw[iZ]
       .have jS:M.m6.length+M.hp.length<=100000:=by
         cases bN:R with
         |none=>rw[bN]at Y;cases Y
         |some ap=>
          rw[bN]at Y h;have dn:bl 0 ay (bi (decide (6<ar)||dy co) ap)=σ (o,M):=Y;have t9:=dG dn;have cP:=t9.1;have ca:=t9.eqs.2.2;have t3:=(uK h).2;have e4:(bi (decide (6<ar)||dy co) ap).hp=ap.hp:=rfl;have e5:(bi (decide (6<ar)||dy co) ap).m6=ap.m6:=rfl;rw[e4]at cP;rw[e5]at ca;rw[ca];omega
        have e6:L.length=bk.m6.length:=by rw[<-aQ,r8,ce]
        have i0:bh.length=bk.hp.length:=by rw[<-bP,r8]
        rw[e3.2]at e6;rw[o9,e6,i0];simp only[T5];have:=e3.1;omega
    .rintro (j|j)
     .exact cG j
     .omega
    .rcases j with j|j
     .have:=cH r j;omega
     .exact j.2
 .intro ax aX;rw[aS,am];refine⟨λi1=>?_,λi2=>?_⟩
  .
   refine aZ (λv Z=>Ext O Z/\∃b:Bool,v= .bool b/\(b=v2->dW co M=ν)/\(b=v6->∃lines,dW co M=σ (lines,K)/\K.m6[(-n-1).toNat]?=σ (co,lines))) ?_ ?_
   .rintro _ Z ⟨bS,b,rfl,i3,i4⟩;have cV:=a8.W bS;have i5:=eJ.W bS;have e7:=eI.F (bS.V _);cases b with
    |true=>
     rw[bQ];refine(pu cV Ω).Y ?_;rintro _ c3 _ ⟨e8,i6⟩;exact eC (i5.dQ e8 (lQ cV)) (e7.F (e8.Y λr _ h=>.inl h)) i6 (by rw[b9,i3 rfl])
    |false=>
     rw[a6];obtain⟨lines,i7,bV⟩:=i4 rfl;obtain⟨b7,w0,au,bh,gs,sv,L,X,ac,ad,bad,az,big,aB,m5,cR,bs,bu,an,bw,bm,ck,cl,cm,cp,cr,bP,ct,aQ,cU⟩:=id cV;obtain⟨_,aM,ce,cf⟩:=bw.g bs bu;have cu:(-n-1).toNat<L.length:=by
      have h1:=(x6.1 bV).1;rw[<-aQ,r8]at h1;omega
     obtain⟨hk,cw⟩:∃h,L[(-n-1).toNat]?=σ h:=⟨_,x8 cu⟩;obtain⟨bb,cz⟩:=aD (l:=X) (i:=(-n-1).toNat) Ω;obtain⟨_,_,_,i8,ao⟩:=cf _ hk bb cw cz;have ja:bb.lines=lines:=by
      rw[<-aQ,u4,cz]at bV;have:=Z4 bV;exact(Prod.mk.inj this).2
     rw[aK bI.p 8 an rfl,nc,m1 Ω Ω,dx,m1 Ω Ω,cj (i:=(-n-1).toNat) Ω dD.u be.i aM cu,aU be.p rfl,aE Ψ (aM.range cw 3 _ rfl)];obtain⟨jT,e9,jU,jV⟩:=id ao;have cX:ag Z E be [aV,lc,Δ o,cq]:=(bJ.V bj λhe=>b4 he).W bS;have jb:=(eP f224 bj λr j=>(lQ bL r j).imp (λ⟨e,c,C,a2,a7,_⟩=>⟨e,c,C,a2,a7⟩) id).W bS;have jd:=(eP f324 bj λr j=>(lQ bL r j).imp (λ⟨e,c,C,a2,a7,_⟩=>⟨e,c,C,a2,a7⟩) id).W bS;rw[aU be.p rfl];refine bt (g:=E) (o:=3) ek.i (ez e9.sl).1 (ez e9.sl).2 cX Ξ λeo cA jW je=>?_;refine aX _ ⟨e7.F (cA.Y λr _ h=>.inr (by have h:r=E:=h;omega)),hk.cq,i8,lines,K,je,eP jb cA (bK cX),eP jd cA (bK cX),?_,cV.new cA λr j=>by have j:r=E:=j;omega,λh=>Ω,by rw[i7,ms Ω]⟩;rw[<-ja];exact ao.dQ cA (bK cX)
   .intro jX fa;intro P cB _ _;have jf:=a8.W cB;obtain⟨b7,w0,au,bh,gs,sv,L,X,ac,ad,bad,az,big,aB,m5,cR,bs,bu,an,bw,bm,ck,cl,cm,cp,cr,bP,ct,aQ,cU⟩:=id jf;obtain⟨_,aM,ce,cf⟩:=bw.g bs bu;have jY:K.m6.length=L.length:=by rw[<-aQ,r8,ce]
    have ao:=eK;rw[ms i1]at ao;rw[nc,m1 Ω Ω,aK bI.p 8 an rfl,ew dD.u aM,bU,am];refine⟨λcc=>fa _ _ ⟨cB,v2,rfl,λ_=>?_,λh=>by cases h⟩,λcc=>?_⟩
    .rw[ao,Y5 Ω]
    have cu:(-n-1).toNat<L.length:=Ω
    obtain⟨hk,cw⟩:∃h,L[(-n-1).toNat]?=σ h:=⟨_,x8 cu⟩;obtain⟨bb,cz⟩:=aD (l:=X) (i:=(-n-1).toNat) Ω;obtain⟨_,⟨gz,jg⟩,_,_⟩:=cf _ hk bb cw cz;have bV:K.m6[(-n-1).toNat]?=σ (bb.co,bb.lines):=by rw[<-aQ,u4,cz];rfl
    rw[bV]at ao;simp only at ao;rw[aK bI.p 8 an rfl,nc,m1 Ω Ω,dx,m1 Ω Ω,cj (i:=(-n-1).toNat) Ω dD.u be.i aM cu,aU be.p rfl,aE Ψ (aM.range cw 1 _ rfl)];have ji:ag P E be [aV,lc,Δ o,cq]:=(bJ.V bj λhe=>b4 he).W cB;have jj:=(eP f324 bj λr j=>(lQ bL r j).imp (λ⟨e,c,C,a2,a7,_⟩=>⟨e,c,C,a2,a7⟩) id).W cB;rw[aL be.p 1 ji rfl];refine(xZ jg.ls jj.ls).Y ?_;rintro _ c4 _ ⟨rfl,jk⟩;rw[bM];refine fa _ _ ⟨cB.F jk,_,rfl,λC=>?_,λC=>?_⟩
    .have jl:bb.co≠co:=by simpa using C
     rw[ao,rc jl]
    .have fb:bb.co=co:=by simpa using C
     exact⟨bb.lines,by rw[ao,ms fb],by rw[bV,fb]⟩
  .
   have ao:=eK;rw[rc i2]at ao;obtain⟨b7,w0,au,bh,gs,sv,L,X,ac,ad,bad,az,big,aB,m5,cR,bs,bu,an,bw,bm,ck,cl,cm,cp,cr,bP,ct,aQ,cU⟩:=id a8;rw[aK bI.p 7 an rfl,aP];generalize jm:W5.wrap (m5+n)=bn;have fc:K.big=v6->bn=K.m5+n/\0<=bn:=λC=>by
    obtain⟨e4,e5⟩:=ix C;have jn:=cp C;rw[<-jm,jn,m1 Ω Ω];exact⟨rfl,Ω⟩
   rw[bY,aU bI.p rfl];refine bt (g:=g) (o:=7) av.i rfl rfl an (by simp[iN]) λaH fd jZ cD=>?_;have cD:ag aH g bI (iN au ac ad bad az big aB bn sv):=cD;refine c7 (λaI=>af (λr=>r=g) O aI/\ag aI g bI (iN au ac ad bad az big aB (min bn ay) sv)) ?_ ?_
   rotate_left
   .intro j1 fe;rw[aK bI.p 7 cD rfl,bU,am];refine⟨λcc=>?_,λcc=>fe _ ⟨fd,?_⟩⟩
    .rw[bY,aU bI.p rfl];refine bt (g:=g) (o:=7) av.i rfl rfl cD (by simp[iN]) λes jo j2 jp=>?_;refine fe _ ⟨fd.F jo,?_⟩;have e:min bn ay=4611686018427387904:=by unfold ay;omega
     rw[e];exact jp
    .have e:min bn ay=bn:=by unfold ay;omega
     rw[e];exact cD
   rintro aI ⟨ff,fg⟩;have jq:bR aI g B H 100000 (σ {K with m5:=min (K.m5+n) ay}):=⟨b7,w0,au,bh,gs,sv,L,X,ac,ad,bad,az,big,aB,_,cR,bs.F ff,bu,fg,bw,bm,ck,cl,cm,λC=>by
    have C:K.big=v6:=C;rw[(fc C).1],cr,bP,ct,aQ,cU⟩
   rw[aK bI.p 7 fg rfl,bU];refine(ob jq).Y ?_;rintro _ c5 _ ⟨jr,fh⟩;have js:(σ {K with m5:=min (K.m5+n) ay}).map (bi (decide (16384<min bn ay)))=σ (bi (decide (16384<min (K.m5+n) ay)) {K with m5:=min (K.m5+n) ay}):=by
    show σ (bi _ _)=_;congr 1;unfold bi;cases C:K.big with
    |true=>simp
    |false=>rw[(fc C).1]
   rw[js]at fh;have cF:af (λr=>r=g) bd c5:=(bj.F ff).F jr;have dv:∀r,r=g->ij bd r\/bd.heap.size<=r:=λr j=>(lQ bL r j).imp (λ⟨e,c,C,a2,a7,_⟩=>⟨e,c,C,a2,a7⟩) id;have jt:cq= .slice ν 0 0:=by
    have:=fj _ f1;simpa using this
   refine aX _ ⟨eF.F (cF.Y λr _ h=>.inl h),cq,cO,[],_,bJ.V cF λhe=>b4 he,eP f224 cF dv,eP f324 cF dv,eE.dQ cF dv,fh,λ_=>⟨rfl,λr j=>by rw[jt]at j;exact fm j⟩,?_⟩;rw[ao];by_cases eH:n<=0
   .have:n=0:=Ω
    subst this;rw[ms (S0 _)];rfl
   .rw[rc eH]
theorem EF{s:aJ}:dp all s=match bl (-ay) ay s with
  |none=>ν
  |some (a,s1)=>match fc all.length a.natAbs s1 with
   |none=>ν
   |some (scope,e)=>k8 (decide (a<0)) a.natAbs scope (scope.map λv=>all.getD v.toNat 0) (σ e):=by
 unfold dp;cases bl (-ay) ay s with
 |none=>rfl
 |some q=>
  obtain⟨a,s1⟩:=q;simp only;cases fc all.length a.natAbs s1 with
  |none=>rfl
  |some p=>
   obtain⟨scope,e⟩:=p;simp only;unfold k8;show _=match bl 0 ay (bi (decide (6<a.natAbs)||dy (scope.map λv=>all.getD v.toNat 0)) e)with
    |none=>ν
    |some (other,f)=>_
   cases bl 0 ay (bi (decide (6<a.natAbs)||dy (scope.map λv=>all.getD v.toNat 0)) e)with
   |none=>rfl
   |some j=>
    obtain⟨o,f⟩:=j;simp only;cases dW (scope.map λv=>all.getD v.toNat 0) f with
    |none=>rfl
    |some r=>
     obtain⟨ls,w⟩:=r;by_cases h:a<0
     .simp[h]
     .simp[h]
def x1(w:x5)(g:Nat)(H:ah)(e:Option (cE×aJ))(v:x4)(I:x5):Prop:=∃f x a,af (λr=>r=g\/H r) w I/\v= .agg (fC f).toArray/\gZ I f x/\bR I g I.heap.size a 100001 (e.map (·.2))/\(∀q,e=σ q->x=q.1)/\(∀r,H r->a r)/\(∀r,a r->H r\/w.heap.size<=r)/\∀r,a r->r<I.heap.size
theorem EG{k:Nat}{s s':aJ}(h:fc n k s=σ (l,s')):s'.hp.length+l.length<=s.hp.length/\s'.m5=s.m5/\s'.big=s.big/\s'.m6=s.m6/\∀v∈l,0<=v/\v<n:=by
 have:=lG (f:=lI n) (λ(acc:Λ)t=>t.hp.length+acc.length<=s.hp.length/\t.m5=s.m5/\t.big=s.big/\t.m6=s.m6/\∀v∈acc,0<=v/\v<n) (λacc t a bs j e=>by
  unfold lI at e;cases r:bl 0 (n-1) t with
  |none=>rw[r]at e;cases e
  |some q=>
   obtain⟨v,C⟩:=q;rw[r]at e;simp only at e;split at e
   .cases e
   .cases e;have w:=dG r;have E:=(i9 r).1;obtain⟨x,z,A⟩:=w.eqs;have t0:=w.1;refine⟨by have:=j.1;rw[o9];simp only[T5];omega,x.F j.2.1,z.F j.2.2.1,A.F j.2.2.2.1,λy p=>?_⟩;rcases j9.1 p with p|p
    .exact j.2.2.2.2 y p
    .rw[b9.1 p];omega) k [] s l s' ⟨Ξ,rfl,rfl,rfl,λv B=>by cases B⟩ h
 exact this.1
theorem PS{g B0:Nat}{H:ah}{s:aJ}{P:x4}(h:bR w g B0 H 100000 (σ s))(ae:aA .i64 av w gz P all)(ai:∀z∈all,1<=z/\z<=ay)(aR:all.length<=100001)(Q:∀r,H r->r<w.heap.size)(bk:k7 s):
  al v8 AA [Γ g,P] w (x1 w g H (dp all s)):=by
 have bV:=h.lt;refine aB func123 ?_;refine bF be.i λG U bW R S=>?_;have S:ag U G be [.slice ν 0 0,.slice ν 0 0,Δ 0,.slice ν 0 0]:=S;refine bF be.i λM aa bX W Y=>?_;have Y:ag aa M be [.slice ν 0 0,.slice ν 0 0,Δ 0,.slice ν 0 0]:=Y;have h1:=(h.W R).base;have aj:=h1.W W;have bY:=R.size;have aT:=S.lt;have b0:=Y.lt;refine(lP aj).Y ?_;rintro _ E _ ⟨⟨Z,j⟩,a,b1,rfl,ak,an⟩;rw[bx,bz,aS];have bm:M≠g:=Ω
 have ao:G≠g:=Ω
 have ap:=Y.V Z λhe=>bm he;have aq:=(S.W W).V Z λhe=>ao he;have aU:aA .i64 av E gz P all:=bA ((ae.W R).W W) Z λr e he=>by
  have he:r=g:=he;obtain⟨aW,B,K,bad,aX,big,aY,m5,sv,ac,_⟩:=jh h;subst he;exact ce ae ac Φ e rfl
 have a1:∀r,lw P r->r<U.heap.size:=λr e=>by obtain⟨B,K⟩:=bZ ae e;omega
 have aw:ik E U.heap.size M ⟨[],[],0,[]⟩:=⟨_,_,_,0,0,0,ap,aA.nil _ _ _ _,aA.nil _ _ _ _,⟨[],bj.nil _ _ _ _ _,λy bn=>(by cases bn),rfl⟩,(λr e=>by rcases e with⟨a,n,c,B,K⟩|⟨a,n,c,B,K⟩<;>cases B),(λr e=>by obtain⟨a,n,c,B,K⟩:=e;cases B),Ω⟩;have az:∀c,ag E M be c->c[3]?=σ (.slice ν 0 0):=λc aC=>by
  unfold ag at aC ap;rw[ap]at aC;have:=Array.toList_inj.2 (Obj.cells.inj (Z4 aC)).1;simp at this;rw[<-this];rfl
 have a2:af (λr=>r=g) U E:=(W.V _).F Z;have b2:U.heap.size<=E.heap.size:=a2.size;have aD:∀{f:x5}{aE:Option (cE×aJ)}{v:x4}{I:x5},af (il g U.heap.size) E f->aE=dp all s->ED f g G U.heap.size H aE v I->x1 w g H (dp all s) v I:=by
  rintro f aE v I C rfl ⟨O,x,bo,aG,aH,aI,aK,a6,a7,a8,bp⟩;refine⟨O,x,bo,?_,aH,aI,aK,a6,a7,λr e=>(a8 r e).imp id λh=>Ω,bp⟩;refine iB (iB ((R.V _).F (a2.Y λr _ h=>.inl h)) C λr e he=>?_) aG λr e he=>?_
  .exact he.elim .inl λhe=>Ω
  .rcases he with he|he|he|he
   .exact .inl he
   .exact .inr he
   .omega
   .omega
 have bq:∀{f:x5}{x:cE},af (il g U.heap.size) E f->dp all s=ν->bR f g U.heap.size H 100000 ν->ik f U.heap.size M x->
   (ab v8 (u6 be (Γ M)) f λbr=>
    aF v8 (l9 be (Γ G) br) f λ(_:Unit)ba=>
    ab v8 (do loadVar be (<-asAddr (Γ G))) ba λbs=>x1 w g H (dp all s) bs ba):=by
  intro f x C bb aL bt;obtain⟨aV,lc,cq,g1,bu,bw,aG,aH,aI,aK,a6,a7,a8⟩:=bt;let O:ke:=⟨aV,lc,x.other,cq⟩;have bc:gZ f O x:=⟨⟨g1,aH⟩,⟨bu,aI⟩,rfl,bw,aK⟩;have aM:=aq.V C λJ=>J.elim ao λh=>Ω
  rw[bC be.p be.i rfl (show f.rangeAt M 0 (fC O)from aG.range)];refine b6 (vs:=fC O) be.i rfl rfl bc.one aM λb3 aN b4 bB=>?_;rw[fi be.p be.i rfl bB.range];have bD:∀r,r=G->ij f r\/f.heap.size<=r:=λr e=>by subst e;exact .inl ⟨_,_,aM,Φ,Φ⟩
  have b5:=C.size;refine aD C rfl ⟨O,x,H,aN.Y λr _ h=>.inr (.inr (.inl h)),rfl,bc.dQ aN bD,?_,(λq A=>by rw[bb]at A;cases A),λ_ h=>h,λ_ h=>.inl h,λr e=>by have:=Q r e;omega⟩;rw[bb];have bE:bR f g U.heap.size H 100001 ν:=by
   obtain⟨b7,w0,aW,bG,gs,sv,L,X,B,K,bad,aX,big,aY,m5,h1,aj,j,bH,bI,aO,bd⟩:=aL;exact⟨Ω,w0,aW,bG,gs,sv,L,X,B,K,bad,aX,big,aY,m5,h1,aj,j,bH,bI,aO,bd.1,by have:=bd.2;omega⟩
  refine bE.dQ aN λr e=>.inl ?_;have e:r=G:=e;subst e;exact⟨_,_,aM,Φ,Φ,Φ,Φ,λau=>by have:=Q _ au;omega⟩
 have N:=EF (all:=all) (s:=s);have bJ:bf (-4611686018427387904) 4611686018427387904 (σ s)=bl (-ay) ay s:=rfl;rw[bJ]at j ak an;have b8: -4611686018427387904<=a/\a<=4611686018427387904:=by
  cases A:bl (-ay) ay s with
  |none=>have:=an A;omega
  |some q=>have:=ak q A;rw[this];exact(i9 A).1
 refine aZ (λv bK=>E=bK/\v=Δ (a.natAbs:Int)) ?_ ?_
 rotate_left
 .intro ax bg;rw[am];refine⟨λb9=>?_,λca=>bg _ _ ⟨rfl,by congr 1;omega⟩⟩;rw[nc,m1 Ω Ω];exact bg _ _ ⟨rfl,by congr 1;omega⟩
 rintro _ _ ⟨rfl,rfl⟩;have bh:∀r,H r->r<U.heap.size:=λr e=>by have:=Q r e;omega
 have bi:¬H G:=λau=>by have:=Q _ au;omega
 have bL:∀{scope:Λ},(∀v∈scope,0<=v/\v<(all.length:Int))->∀z∈scope.map (λv=>all.getD v.toNat 0),1<=z/\z<=ay:=λbM z bN=>by
  obtain⟨v,bO,rfl⟩:=j5.1 bN;have:=bM v bO;refine ai _ ?_;rw[u5,x8 Ω];exact Q9 _
 cases A:bl (-ay) ay s with
 |none=>
  rw[A]at j N;have bP:=an A;subst bP;refine EB (s:=s) (ar:=(0:Int).natAbs) j (.inr ⟨rfl,rfl⟩) aw az aU a1 aR Φ (λh=>by cases h) ?_ ?_ ?_
  .intro h;cases h
  .intro _;exact EE j aw az (λz ai=>by cases ai) Ξ aq aT bi bh (λbQ J=>by cases J) λv I aP=>aD (af.refl _ _) (by rw[N];rfl) aP
  .intro h;cases h
 |some q=>
  obtain⟨a',s1⟩:=q;rw[A]at j N;have:=ak _ A;subst this;simp only at N;have j:bR E g U.heap.size H 100000 (σ s1):=j;have bS:=dG A;refine EB j (.inl rfl) aw az aU a1 aR Ω (λ_=>(uK j).1) ?_ ?_ ?_
  .intro _ f x C ad aL aQ;exact bq C (by rw[N,ad]) aL aQ
  .intro h;cases h
  .intro _ f scope s' C ad aO aQ bT;obtain⟨cb,bU,t3,t4,t5⟩:=EG ad;rw[ad]at N;obtain⟨B,K,cc⟩:=bS.eqs;refine EE aO aQ bT (bL t5) ?_ (aq.V C λJ=>J.elim ao λh=>Ω) aT bi bh (λbQ J=>?_) λv I aP=>aD C N.symm aP
   .rw[r8];have:=(uK j).1;omega
   .cases J;intro ac;rw[t3,K]at ac;rw[bU,B];exact bk ac
theorem PT{s s':aJ}{l:List (Λ×Int)}(h:dW co s=σ (l,s'))(p:k7 s):k7 s':=by
 unfold dW at h;cases f:bl (-ay) ay s with
 |none=>rw[f]at h;cases h
 |some q=>
  obtain⟨n,s1⟩:=q;obtain⟨r,w,t3⟩:=(dG f).eqs;have j:k7 s1:=λe=>by rw[r];exact p (by rw[<-w];exact e)
  rw[f]at h;simp only at h;split at h
  .split at h
   .cases h
   .split at h
    .cases h;exact j
    .cases h
  .rename_i F;have aW:=h;have:=lG (λ_ t=>k7 t) (λacc t a bs x y=>by
    obtain⟨_,_,_,z⟩:=qj y;obtain⟨A,B,G⟩:=z.eqs;intro e;rw[A];exact x (by rw[<-B];exact e)) n.toNat [] (bi (decide (16384<min (s1.m5+n) ay)) {s1 with m5:=min (s1.m5+n) ay}) l s' (λe=>by
     obtain⟨C,E⟩:=U1.1 e;have H:=j C;have I:=of_decide_eq_false E;show 0<=min (s1.m5+n) ay/\min (s1.m5+n) ay<=16384;unfold ay at*;omega) aW
   exact this.1
theorem PU{s s':aJ}{x:cE}(h:dp all s=σ (x,s')):s'.hp.length+1<=s.hp.length/\(k7 s->k7 s'):=by
 rw[EF]at h;cases r:bl (-ay) ay s with
 |none=>rw[r]at h;cases h
 |some q=>
  obtain⟨a,s1⟩:=q;rw[r]at h;simp only at h;have A:=dG r;cases J:fc all.length a.natAbs s1 with
  |none=>rw[J]at h;cases h
  |some p=>
   obtain⟨scope,f⟩:=p;rw[J]at h;simp only at h;obtain⟨T,F,t3,_⟩:=EG J;unfold k8 at h;have e:bf 0 ay ((σ f).map (bi (decide (6<a.natAbs)||dy (scope.map λv=>all.getD v.toNat 0))))=bl 0 ay (bi (decide (6<a.natAbs)||dy (scope.map λv=>all.getD v.toNat 0)) f):=rfl;rw[e]at h;cases w:bl 0 ay (bi (decide (6<a.natAbs)||dy (scope.map λv=>all.getD v.toNat 0)) f)with
   |none=>rw[w]at h;cases h
   |some G=>
    obtain⟨o,B⟩:=G;rw[w]at h;simp only at h;have C:=dG w;cases j:dW (scope.map λv=>all.getD v.toNat 0) B with
    |none=>rw[j]at h;cases h
    |some H=>
     obtain⟨ls,y⟩:=H;rw[j]at h;simp only[X7,S8]at h;obtain⟨_,I⟩:=h;have U:=EC j;have K:(bi (decide (6<a.natAbs)||dy (scope.map λv=>all.getD v.toNat 0)) f).hp=f.hp:=rfl;have L:=C.1;rw[K]at L;have V:=A.1;obtain⟨M,N,_⟩:=A.eqs;obtain⟨f1,f2,_⟩:=C.eqs;have z:s'.hp=y.hp/\s'.m5=y.m5/\s'.big=y.big:=by
      rw[<-I];split<;>exact⟨rfl,rfl,rfl⟩
     refine⟨by rw[z.1];omega,λO=>?_⟩;have P:k7 B:=λE=>by
      rw[f2]at E;rw[f1];have Q:=(U1.1 E).1;show 0<=f.m5/\f.m5<=16384;rw[F,M];exact O (by rw[<-N,<-t3];exact Q)
     have R:=PT j P;intro S;rw[z.2.1];exact R (by rw[<-z.2.2];exact S)
theorem bR.shrink{g:Nat}{H:ah}{so:Option aJ}(h:bR w g B H N so):∃a,bR w g B a N so/\(∀r,a r->H r)/\∀r,a r->∃c,ag w r be c:=by
 obtain⟨s,w0,x,y,gs,sv,L,X,z,A,bad,C,big,E,m5,h1,f,j,F,p,G,I⟩:=h;refine⟨λr=>lm sv r,⟨s,w0,x,y,gs,sv,L,X,z,A,bad,C,big,E,m5,h1,f,j,F,p,λr e=>e,I⟩,G,λr e=>?_⟩;obtain⟨rfl,c,q⟩:=dY p.2.1 e;refine⟨c,q.V f λhe=>?_⟩;obtain⟨K,J⟩:=j;subst he;exact ro (fp q J) Φ
theorem bR.low{g:Nat}{H:ah}{s:aJ}(h:bR w g B H N (σ s)):bR w g B H 100000 (σ s):=by
 obtain⟨E,w0,a,e,gs,sv,L,X,f,j,bad,p,big,q,m5,h1,r,x,y,z,A,C⟩:=h;exact⟨o4 _,w0,a,e,gs,sv,L,X,f,j,bad,p,big,q,m5,h1,r,x,y,z,A,C⟩
theorem bR.up{g M:Nat}{H:ah}{so:Option aJ}(h:bR w g B H N so)(E:N<=M):bR w g B H M so:=by
 obtain⟨F,w0,e,f,gs,sv,L,X,j,p,bad,q,big,r,m5,h1,x,y,z,A,C,a⟩:=h;refine⟨Ω,w0,e,f,gs,sv,L,X,j,p,bad,q,big,r,m5,h1,x,y,z,A,C,?_⟩;cases so with
 |none=>exact⟨a.1,by have:=a.2;omega⟩
 |some s=>exact a
def mA{α:Type}(f:List α->aJ->Option (α×aJ))(cnt i:Nat)(a:Option aJ)(A:List α)(so:Option aJ):Prop:=a.bind (cW f cnt [])=(match so with
 |none=>ν
 |some s=>cW f (cnt-i) A s)
theorem mA.step{α:Type}{f:List α->aJ->Option (α×aJ)}{cnt i:Nat}{j:Option aJ}{A:List α}{s:aJ}{a:α}{p:Option aJ}(h:mA f cnt i j A (σ s))(hi:i<cnt)(h1:p=(f A s).map (·.2))(r:∀q,f A s=σ q->a=q.1):mA f cnt (i+1) j (A++[a]) p:=by
 unfold mA at*;rw[h,show cnt-i=(cnt-(i+1))+1 by omega];simp only;cases e:f A s with
 |none=>rw[qm e,h1,e];rfl
 |some q=>
  obtain⟨a',s'⟩:=q;have:=r _ e;subst this;rw[tR e,h1,e];rfl
theorem PV{s0:aJ}{acc:Λ}{most p:Int}{X:List cE}{x y z A K so6 e:Option aJ}(h1:x=((dV s0).map (·.2)).map (bi (decide (64<t.length))))(N:∀q,dV s0=σ q->t=q.1)(r:y=((bf 1 ay x).map (·.2)).map (bi (decide (64<n))))(L:∀q,bf 1 ay x=σ q->n=q.1)(h:z=(bf 1 ay y).map (·.2))(hm:∀q,bf 1 ay y=σ q->most=q.1)(f:A=((bf 0 ay z).map (·.2)).map (bi (decide (256<p))))(M:∀q,bf 0 ay z=σ q->p=q.1)(a:K=((bf 1 ay A).map (·.2)).map (bi (decide (2147483648<k))))(hk:∀q,bf 1 ay A=σ q->k=q.1)(w:K.bind (cW (gG most) n.toNat [])=so6.map λs=>(acc,s))(j:so6.bind (cW (λ_ s=>dp acc s) p.toNat [])=e.map λs=>(X,s)):jw s0=e.map λs=>(⟨t,k,acc,X⟩,s):=by
 unfold jw;cases F:dV s0 with
 |none=>
  rw[F]at h1;subst h1;subst r;subst h;subst f;subst a;have:so6=ν:=by cases so6 with|none=>rfl|some s=>cases w
  subst this;cases e with|none=>rfl|some s=>cases j
 |some O=>
 obtain⟨bs,s1⟩:=O;have:=N _ F;subst this;rw[F]at h1;have h1:x=σ (bi (decide (64<t.length)) s1):=h1;subst h1;simp only;have P:bf 1 ay (σ (bi (decide (64<t.length)) s1))=bl 1 ay (bi (decide (64<t.length)) s1):=rfl;rw[P]at r L;cases G:bl 1 ay (bi (decide (64<t.length)) s1)with
 |none=>
  rw[G]at r;subst r;subst h;subst f;subst a;have:so6=ν:=by cases so6 with|none=>rfl|some s=>cases w
  subst this;cases e with|none=>rfl|some s=>cases j
 |some Q=>
 obtain⟨aa,B⟩:=Q;have:=L _ G;subst this;rw[G]at r;have r:y=σ (bi (decide (64<n)) B):=r;subst r;simp only;have R:bf 1 ay (σ (bi (decide (64<n)) B))=bl 1 ay (bi (decide (64<n)) B):=rfl;rw[R]at h hm;cases H:bl 1 ay (bi (decide (64<n)) B)with
 |none=>
  rw[H]at h;subst h;subst f;subst a;have:so6=ν:=by cases so6 with|none=>rfl|some s=>cases w
  subst this;cases e with|none=>rfl|some s=>cases j
 |some S=>
 obtain⟨bP,C⟩:=S;have:=hm _ H;subst this;rw[H]at h;have h:z=σ C:=h;subst h;simp only;have T:bf 0 ay (σ C)=bl 0 ay C:=rfl;rw[T]at f M;cases I:bl 0 ay C with
 |none=>
  rw[I]at f;subst f;subst a;have:so6=ν:=by cases so6 with|none=>rfl|some s=>cases w
  subst this;cases e with|none=>rfl|some s=>cases j
 |some U=>
 obtain⟨ab,E⟩:=U;have:=M _ I;subst this;rw[I]at f;have f:A=σ (bi (decide (256<p)) E):=f;subst f;simp only;have V:bf 1 ay (σ (bi (decide (256<p)) E))=bl 1 ay (bi (decide (256<p)) E):=rfl;rw[V]at a hk;cases J:bl 1 ay (bi (decide (256<p)) E)with
 |none=>
  rw[J]at a;subst a;have:so6=ν:=by cases so6 with|none=>rfl|some s=>cases w
  subst this;cases e with|none=>rfl|some s=>cases j
 |some W=>
 obtain⟨ac,Y⟩:=W;have:=hk _ J;subst this;rw[J]at a;have a:=a;subst a;simp only;have w:cW (gG most) n.toNat [] (bi (decide (2147483648<k)) Y)=so6.map λs=>(acc,s):=w;rw[w];cases so6 with
 |none=>cases e with|none=>rfl|some s=>cases j
 |some Z=>
  simp only[Y3];have j:cW (λ_ s=>dp acc s) p.toNat [] Z=e.map λs=>(X,s):=j;rw[j];cases e<;>rfl
def qD(w:x5)(gr:Nat)(a:x4)(X:List cE):Prop:=∃L,bj fC 4 be w gr a L/\X.length=L.length/\∀(i:Nat)h x,L[i]?=σ h->X[i]?=σ x->gZ w h x
def pv(w:x5)(e:Nat)(f:b7):Prop:=∃lc gz a gr,ag w e ej [ca f.name,Δ f.k,lc,a]/\aA .i64 av w gz lc f.co/\qD w gr a f.d9
theorem qD.W{gr:Nat}{a:x4}{X:List cE}(h:qD w gr a X)(e:Ext w I):qD I gr a X:=by
 obtain⟨L,h1,f,j⟩:=h;exact⟨L,h1.W e,f,λi au x hi p=>(j i au x hi p).W e⟩
theorem pv.W{e:Nat}{f:b7}(h:pv w e f)(a:Ext w I):pv I e f:=by
 obtain⟨lc,gz,j,gr,h1,p,q⟩:=h;exact⟨lc,gz,j,gr,h1.W a,p.W a,q.W a⟩
def PW(w:x5)(pl:Λ)(v:x4)(I:x5):Prop:=Ext w I/\∃n e:Int,(gS pl=ν->v= .tuple #[.pointer ν,Δ n,Δ e])/\∀f,gS pl=σ f->∃a,v= .tuple #[Γ a,Δ n,Δ e]/\pv I a f
theorem PX{w0:x5}{g y:Nat}{so6:Option aJ}{acc:Λ}{O bad:Int}{p:x4}{Q:x4->x5->Prop}(c5:af (λr=>w0.heap.size<=r) w0 w)(bS:ag w y ej [ca t,Δ k,lc,.slice ν 0 0])(c6:aA .i64 av w gz lc acc)(h:bR w g B bO 100000 so6)(c8:∀s,so6=σ s->k7 s/\s.hp.length<=100000/\(∀z∈acc,1<=z/\z<=ay)/\acc.length<=100001)(e7:w0.heap.size<=g)(e8:w0.heap.size<=y)(ac:aN .u8 w0 p pl)(e9:0<=O/\O<=4611686018427387904)(bi:∀v I X bk,Ext w0 I->so6.bind (cW (λ_ s=>dp acc s) O.toNat [])=bk.map (λs=>(X,s))->
   (∀s,bk=σ s->s.hp=[]/\¬0<=bad/\s.big=v6->v= .tuple #[Γ y,Δ (pl.length:Int),Δ 0]/\pv I y ⟨t,k,acc,X⟩)->
   ((∀s,bk=σ s->¬(s.hp=[]/\¬0<=bad/\s.big=v6))->∃n e:Int,v= .tuple #[.pointer ν,Δ n,Δ e])->Q v I):
  bW (Δ 0) w λbV A da=>
   cC (α:=x4->x5->Prop) (λ(db:x4)(K:x5)=>
    Split db (ei K λE=>
   ab v8 (bT (Γ y)) E λaD=>
   ab v8 (u7 ej aD 3) E λaG=>
   ab v8 (u6 dD aG) E λbl=>
   ab v8 (bT (Γ y)) E λdc=>
   ab v8 (u7 ej dc 2) E λdd=>
   ab v8 (u6 aw dd) E λde=>
   al v8 AA [(Γ g),de] E λdf ae=>
    (Ext E ae\/b2 v8 (u6 dD aG) bl ae/\b2 v8 (u7 ej aD 3) aG ae/\b2 v8 (bT (Γ y)) aD ae/\True)/\
   aF v8 (X2 dD 1 #[(0,df)]) ae λdg P=>
    (Ext E P\/b2 v8 (u6 dD aG) bl P/\b2 v8 (u7 ej aD 3) aG P/\b2 v8 (bT (Γ y)) aD P/\True)/\
    aF v8 (Z9 #[dD,dD] dD #[bl,dg]) P λdh aV=>
     ab v8 (bT (Γ y)) aV λdi=>
     ab v8 (u7 ej di 3) aV λdj=>
     aF v8 (l9 dD dj dh) aV λ(_:Unit)aW=>
     ab v8 (aO .add av v6 v2 bV (Δ 1)) aW λdk=>
   da dk aW)
     (cC (α:=x5->Prop) (λ(N:x5)=>
   cC (α:=x5->Prop) (λ(C:x5)=>
    ab v8 (bT (Γ g)) C λdl=>
    ab v8 (u7 bI dl 3) C λdm=>
    ab v8 (u6 ai dm) C λdn=>
    ab v8 (aO .neq ai v6 v2 dn (Δ 0)) C λdq=>
    Split dq (ei C λY=>
     ab v8 (bT (Γ g)) Y λdr=>
     ab v8 (u7 bI dr 4) Y λds=>
     ab v8 (u6 ai ds) Y λdt=>
     ab v8 (bT (Γ g)) Y λdu=>
     ab v8 (u7 bI du 3) Y λdv=>
     ab v8 (u6 ai dv) Y λdw=>
     Q (.tuple #[(.pointer ν),dt,dw]) Y)
     (ab v8 (bT (Γ g)) C λdx=>
    ab v8 (u7 bI dx 5) C λdy=>
    ab v8 (u6 ai dy) C λdz=>
    ab v8 (aO .neq ai v6 v2 dz (Δ 0)) C λdA=>
    Split dA (ei C λZ=>
     ab v8 (bT (Γ g)) Z λdC=>
     ab v8 (u7 bI dC 6) Z λdE=>
     ab v8 (u6 ai dE) Z λdF=>
     ab v8 (bT (Γ g)) Z λdG=>
     ab v8 (u7 bI dG 5) Z λdH=>
     ab v8 (u6 ai dH) Z λdI=>
     Q (.tuple #[(.pointer ν),dF,dI]) Z)
     (ab v8 (V0 #[cT] ai #[p]) C λdJ=>
    Q (.tuple #[(Γ y),dJ,(Δ 0)]) C))) λb0=>
   cC (α:=x4->x5->Prop) (λ(dK:x4)(aX:x5)=>
    Split dK (al v8 oK [(Γ g),(Δ 11),(Δ bad)] aX λfa b1=>
     b0 b1)
     (b0 aX)) λb3=>
   ab v8 (bT (Γ g)) N λdL=>
   ab v8 (u7 bI dL 3) N λdM=>
   ab v8 (u6 ai dM) N λdN=>
   ab v8 (aO .eql ai v6 v2 dN (Δ 0)) N λdO=>
   Split dO (ab v8 (aO .geq ai v6 v2 (Δ bad) (Δ 0)) N λdP=>
   b3 dP N)
    (b3 (.bool v6) N)) λb4=>
  cC (α:=x4->x5->Prop) (λ(dR:x4)(R:x5)=>
   Split dR (ab v8 (bT (Γ g)) R λdS=>
    ab v8 (u7 bI dS 0) R λdT=>
    ab v8 (u6 fy dT) R λdU=>
    ab v8 (c9 fy dU (Δ 0)) R λdV=>
    ab v8 (u7 cD dV 1) R λdW=>
    ab v8 (u6 ai dW) R λdX=>
    al v8 oK [(Γ g),(Δ 4),dX] R λfb bm=>
    b4 bm)
    (b4 R)) λb5=>
  ab v8 (bT (Γ g)) K λdZ=>
  ab v8 (u7 bI dZ 3) K λea=>
  ab v8 (u6 ai ea) K λeb=>
  ab v8 (aO .eql ai v6 v2 eb (Δ 0)) K λec=>
  Split ec (ab v8 (bT (Γ g)) K λed=>
  ab v8 (u7 bI ed 0) K λee=>
  ab v8 (u6 fy ee) K λef=>
  ab v8 (V0 #[fy] ai #[ef]) K λeg=>
  ab v8 (aO .gtr ai v6 v2 eg (Δ 0)) K λeh=>
  b5 eh K)
   (b5 (.bool v6) K))) λb6=>
   ab v8 (aO .lss av v6 v6 bV (Δ O)) A λek=>
   Split ek (ab v8 (bT (Γ g)) A λem=>
   ab v8 (u7 bI em 3) A λen=>
   ab v8 (u6 ai en) A λeo=>
   ab v8 (aO .eql ai v6 v2 eo (Δ 0)) A λep=>
   b6 ep A)
    (b6 (.bool v6) A):=by
 have b7:y≠g:=λhe=>by
  obtain⟨aj,aa,ad,bad,ak,big,an,m5,sv,f,_⟩:=jh h;subst he;exact ro (fp f bS) Φ
 refine⟨λbn A=>∃i:Nat,bn=Δ (i:Int)/\i<=O.toNat/\af (λr=>w0.heap.size<=r) w0 A/\∃M gr X so,∃H:ah,ag A y ej [ca t,Δ k,lc,M]/\aA .i64 av A gz lc acc/\qD A gr M X/\(∀r,lm M r->w0.heap.size<=r/\¬H r)/\¬H y/\(∀r,lw lc r->¬H r)/\(∀r,H r->w0.heap.size<=r)/\bR A g A.heap.size H 100001 so/\mA (λ_ s=>dp acc s) O.toNat i so6 X so/\
   ∀s,so=σ s->k7 s/\X.length+s.hp.length<=100000/\(∀z∈acc,1<=z/\z<=ay)/\acc.length<=100001,λbn _=>O.toNat-(bX bn).toNat,
  ⟨0,rfl,W0 _,c5,_,0,[],so6,bO,bS,c6,⟨[],bj.nil _ _ _ _ _,rfl,λi h x hi=>by simp at hi⟩,λr a=>(fm a).elim,id,λr _ h=>h,λr h=>h.elim,h.base.up Ω,?_,λs J=>?_⟩,?_⟩
 .unfold mA;cases so6<;>rfl
 .obtain⟨er,es,a3,a4⟩:=c8 s J;exact⟨er,by simpa using es,a3,a4⟩
 rintro _ A ⟨i,rfl,hi,aY,M,gr,X,so,H,b8,b9,cb,aH,bo,et,cc,W,bp,eu⟩;refine aZ (λv K=>A=K/\((v= .bool v2/\i<O.toNat/\∃s,so=σ s)\/(v= .bool v6/\(so=ν\/i=O.toNat)))) ?_ ?_
 rotate_left
 .intro ax bq;rw[aS,am];refine⟨λcd=>?_,λfc=>bq _ _ ⟨rfl,.inr ⟨rfl,.inr Ω⟩⟩⟩;rw[mz W];cases so with
  |none=>exact bq _ _ ⟨rfl,.inr ⟨rfl,.inl rfl⟩⟩
  |some s=>exact bq _ _ ⟨rfl,.inl ⟨rfl,Ω,s,rfl⟩⟩
 rintro _ _ ⟨rfl,⟨rfl,cd,s,rfl⟩|⟨rfl,ev⟩⟩
 .
  rw[bQ];intro E ao _ _;obtain⟨ce,fd,cf,cg⟩:=eu s rfl;have aI:=b8.W ao;obtain⟨ew,ch,aL,ci⟩:=(W.W ao).low.shrink;have br:=b9.W ao;have ey:=cb.W ao;rw[aK ej.p 3 aI rfl,aK ej.p 2 aI rfl];refine(PS ch br cf cg (λr a=>by obtain⟨c,f⟩:=ci r a;exact f.lt) ce).Y ?_;rintro _ ae _ ⟨eA,x,cj,ap,rfl,ck,eB,eC,fe,cl,eD⟩;have cm:∃c,ag E g bI c:=by obtain⟨aj,aa,ad,bad,ak,big,an,m5,sv,f,_⟩:=jh ch;exact⟨_,f⟩
  have cp:∀r,(r=g\/ew r)->ij E r\/E.heap.size<=r:=λr a=>by
   rcases a with rfl|a
   .obtain⟨c,f⟩:=cm;exact .inl ⟨_,c,f,Φ,Φ⟩
   .obtain⟨c,f⟩:=ci r a;exact .inl ⟨_,c,f,Φ,Φ⟩
  have bs:=aI.V ap λa=>a.elim (λhe=>b7 he) λa=>bo (aL _ a);have st:∀{I:x5},ag I y ej [ca t,Δ k,lc,M]->b2 v8 (u6 dD (.pointer (σ ⟨y,0+3,ν⟩))) M I/\b2 v8 (u7 ej (Γ y) 3) (.pointer (σ ⟨y,0+3,ν⟩)) I/\b2 v8 (bT (Γ y)) (Γ y) I/\True:=λf=>
   ⟨tA Ψ (f.cell rfl),mp (by rw[aU ej.p rfl]),mp (by rw[bY]),trivial⟩
  refine⟨.inr (st bs),?_⟩;refine jc dD.u be.i Ω rfl rfl λff fg P fh S eE=>?_;refine⟨.inr (st (bs.W S)),?_⟩;obtain⟨L,aq,bu,bw⟩:=id ey;have eF:=aq.V ap λr a J=>J.elim (λhe=>by
   obtain⟨c,f⟩:=cm;subst he;exact cK aq f Φ a) λJ=>(aH r a).2 (aL r J)
  have bx:=eF.W S;refine jC dD.u be.i rfl bx (by simpa using eE.sl) (ck.W S).one Ω Ω λeH eI aV a2 eJ cq=>?_;have bz:=bs.W S;have cr:=bz.V cq λhe=>cK bx bz Φ he;rw[bY,aU ej.p rfl];refine bt (g:=y) (o:=3) dD.i (ez a2.sl).1 (ez a2.sl).2 cr Ξ λaW ct fi bA=>?_;have bA:=bA;have fj:i<=4611686018427387904:=Ω
  rw[aP,m1 Ω Ω];have az:af (λr=>lm M r\/r=y) P aW:=(cq.Y λr _ h=>.inl h).F (ct.Y λr _ h=>.inr h);have cu:∀r,(lm M r\/r=y)->∃e c,ag P r e c/\e≠av/\e≠cn/\e≠cD/\e≠bI:=λr a=>by
   rcases a with a|rfl
   .obtain⟨rfl,c,f⟩:=dY bx a;exact⟨_,c,f,Φ,Φ,Φ,Φ⟩
   .exact⟨_,_,bz,Φ,Φ,Φ,Φ⟩
  have bB:∀r,(lm M r\/r=y)->ij P r\/P.heap.size<=r:=λr a=>by
   obtain⟨e,c,f,bC,bD,_⟩:=cu r a;exact .inl ⟨e,c,f,bC,bD⟩
  have fk:=ao.size;have fo:=ap.size;have fq:=S.size;have fs:=az.size;have cw:∀r,lm M r->r<E.heap.size:=λr a=>by obtain⟨aa,ad⟩:=aq.lw a;omega
  have aM:∀r,r<E.heap.size->¬H r->¬cj r:=λr a eK bE=>(cl r bE).elim (λh=>eK (aL r h)) λh=>Ω
  have eL:∀r,lw lc r->r<E.heap.size:=λr a=>by obtain⟨aa,ad⟩:=bZ br a;omega
  refine⟨⟨i+1,rfl,Ω,?_,eH,eI,X++[x],_,cj,bA,eP ((eP br ap cp).W S) az bB,⟨L++[eA],a2.V ct λr a he=>?_,by rw[o9,o9,bu];rfl,λj cz eM aB aQ=>?_⟩,λr a=>?_,aM y aI.lt bo,λr a=>aM r (eL r a) (et r a),λr a=>?_,?_,bp.step cd rfl λq G=>eC q G,λs' U=>?_⟩,by simp only[bX];omega⟩
  .refine (((aY.F (ao.V _)).F (ap.Y λr _ h=>?_)).F (S.V _)).F (az.Y λr _ h=>?_)
   .exact h.elim (λh=>Ω) λh=>cc r (aL r h)
   .exact h.elim (λh=>(aH r h).1) λh=>Ω
  .have he:r=y:=he;subst he;exact cK a2 cr Φ a
  .by_cases eN:j<L.length
   .rw[Y4 eN]at aB;rw[Y4 Ω]at aQ;exact(((bw j cz eM aB aQ).dQ ap cp).W S).dQ az bB
   .rw[Z7 Ω]at aB;rw[Z7 Ω]at aQ;have eO:j-L.length=0:=by have:=(x6.1 aB).1;simp at this;omega
    have eQ:j-X.length=0:=Ω
    rw[eO]at aB;rw[eQ]at aQ;cases aB;cases aQ;exact(ck.W S).dQ az bB
  .rcases eJ r a with h|h
   .exact⟨(aH r h).1,aM r (cw r h) (aH r h).2⟩
   .exact⟨by have:=aY.size;omega,λbE=>by have:=eD r bE;omega⟩
  .rcases cl r a with h|h
   .exact cc r (aL r h)
   .have:=aY.size;omega
  .refine (eB.W S).dQ az λr a=>.inl ?_;obtain⟨e,c,f,bC,bD,eR,eS⟩:=cu r a;refine⟨e,c,f,bC,bD,eR,eS,?_⟩;rcases a with a|rfl
   .exact aM r (cw r a) (aH r a).2
   .exact aM _ aI.lt bo
  .cases bF:dp acc s with
   |none=>rw[bF]at U;cases U
   |some q=>
    obtain⟨ft,cA⟩:=q;rw[bF]at U;cases U;obtain⟨fu,eU⟩:=PU bF;refine⟨eU ce,?_,cf,cg⟩;rw[o9];simp only[T5];omega
 .
  rw[a6];have bG:so6.bind (cW (λ_ s=>dp acc s) O.toNat [])=so.map λs=>(X,s):=by
   unfold mA at bp;rw[bp];cases so with
   |none=>rfl
   |some s=>
    rcases ev with h|rfl
    .cases h
    .simp only[V2];rfl
  have row:∀{I:x5},af (λr=>r=g) A I->qD I gr M X/\ag I y ej [ca t,Δ k,lc,M]/\aA .i64 av I gz lc acc:=λa7=>by
   obtain⟨aj,aa,ad,bad,ak,big,an,m5,sv,f,_⟩:=jh W;have cB:∀r,r=g->ij A r\/A.heap.size<=r:=λr a=>by subst a;exact .inl ⟨_,_,f,Φ,Φ⟩
   obtain⟨L,aq,bu,bw⟩:=id cb;refine⟨⟨L,aq.V a7 λr a he=>?_,bu,λi h x hi eV=>(bw i h x hi eV).dQ a7 cB⟩,b8.V a7 λhe=>b7 he,eP b9 a7 cB⟩;have he:r=g:=he;subst he;exact cK aq f Φ a
  refine c7 (λN=>af (λr=>r=g) A N/\bR N g A.heap.size H 100001 (so.bind λs=>if s.hp=[]then σ s else ν)) ?_ ?_
  rotate_left
  .intro fv cE;refine aZ (λv R=>A=R/\∃b:Bool,v= .bool b/\(b=v2->∃s,so=σ s/\s.hp≠[])/\(b=v6->∀s,so=σ s->s.hp=[])) ?_ ?_
   .rintro _ _ ⟨rfl,b,rfl,bH,bJ⟩;cases b with
    |true=>
     obtain⟨s,rfl,a8⟩:=bH rfl;rw[bQ];obtain⟨cF,cG,aj,aR,gs,sv,L,cH,aa,ad,bK,ak,big,an,m5,cI,ba,bb,aC,bc,cJ,cL,cM,bd,cN,cO,bf,cQ,cR,cS⟩:=id W;obtain⟨⟨bM,eW⟩,_⟩:=bc.g ba bb;obtain⟨x,fw,rfl⟩:∃x l,aR=x::l:=by
      cases aR with
      |nil=>exact ro bf.symm (by simpa using a8)
      |cons x l=>exact⟨x,l,rfl⟩
     rw[aK bI.p 0 aC rfl];refine Ex bM λb o eX=>?_;rw[aU cD.p rfl,aE Ψ (eX 1 _ rfl)];refine(pu W Ω).Y ?_;rintro _ bm _ ⟨eY,eZ⟩;refine cE _ ⟨eY,?_⟩;show bR bm g _ H 100001 (if s.hp=[]then σ s else ν);rw[rc a8];exact eZ
    |false=>
     rw[a6];refine cE _ ⟨af.refl _ _,?_⟩;cases so with
     |none=>exact W
     |some s=>
      show bR _ g _ H 100001 (if s.hp=[]then σ s else ν);rw[ms (bJ rfl s rfl)];exact W
   .intro fx cU;rw[mz W];cases so with
    |none=>
     rw[Q1,a6];exact cU _ _ ⟨rfl,v6,rfl,(λh=>by cases h),λ_ s J=>by cases J⟩
    |some s=>
     rw[R2,bQ];obtain⟨cF,cG,aj,aR,gs,sv,L,cH,aa,ad,bK,ak,big,an,m5,cI,ba,bb,aC,bc,cJ,cL,cM,bd,cN,cO,bf,cQ,cR,cS⟩:=id W;obtain⟨⟨bM,eW⟩,_⟩:=bc.g ba bb;rw[aK bI.p 0 aC rfl,Ew bM,bU];have fz:aR.length=s.hp.length:=by rw[<-bf,r8]
     refine cU _ _ ⟨rfl,_,rfl,λh=>⟨s,rfl,λaT=>?_⟩,λh s' U=>?_⟩
     .have:=ty h;have cz:s.hp.length=0:=by rw[aT];rfl
      omega
     .cases U;have:=of_decide_eq_false h;exact Z5 Ω
  rintro N ⟨cV,bN⟩;refine c7 (λC=>af (λr=>r=g) A C/\bR C g A.heap.size H 100001 (so.bind λs=>if s.hp=[]/\¬0<=bad then σ s else ν)) ?_ ?_
  rotate_left
  .intro fA cX;refine aZ (λv aX=>N=aX/\∃b:Bool,v= .bool b/\(b=v2->(so.bind λs=>if s.hp=[]/\¬0<=bad then σ s else ν)=ν)/\(b=v6->(so.bind λs=>if s.hp=[]/\¬0<=bad then σ s else ν)=so.bind λs=>if s.hp=[]then σ s else ν)) ?_ ?_
   .rintro _ _ ⟨rfl,b,rfl,bH,bJ⟩;cases b with
    |true=>
     rw[bQ];refine(pu bN Ω).Y ?_;rintro _ b1 _ ⟨e0,e1⟩;exact cX _ ⟨cV.F e0,by rw[bH rfl];exact e1⟩
    |false=>
     rw[a6];exact cX _ ⟨cV,by rw[bJ rfl];exact bN⟩
   .intro fB cY;rw[mz bN];cases G:(so.bind λs=>if s.hp=[]then σ s else ν)with
    |none=>
     rw[Q1,a6];refine cY _ _ ⟨rfl,v6,rfl,(λh=>by cases h),λ_=>?_⟩;cases so with
     |none=>rfl
     |some s=>
      have G:(if s.hp=[]then σ s else ν)=ν:=G;show(if s.hp=[]/\¬0<=bad then σ s else ν)=(if s.hp=[]then σ s else ν);rw[G];split at G
      .cases G
      .rename_i a8;rw[rc (λh=>a8 h.1)]
    |some s=>
     rw[R2,bQ,cP];refine cY _ _ ⟨rfl,_,rfl,λh=>?_,λh=>?_⟩
     .have aT:=ty h;cases so with
      |none=>rfl
      |some s=>exact rc λh=>h.2 aT
     .have aT:=of_decide_eq_false h;cases so with
      |none=>rfl
      |some s=>
       show(if s.hp=[]/\¬0<=bad then σ s else ν)=(if s.hp=[]then σ s else ν);by_cases J:s.hp=[]
       .rw[ms J,ms ⟨J,aT⟩]
       .rw[rc J,rc λh=>J h.1]
  rintro C ⟨cZ,bg⟩;obtain⟨e2,e3,e4⟩:=row cZ;have e5:af (λr=>w0.heap.size<=r) w0 C:=aY.F (cZ.Y λr _ h=>by have h:r=g:=h;omega);have bh:=e5.W λr a he=>Ω
  rw[r6 bg];cases G:(so.bind λs=>if s.hp=[]/\¬0<=bad then σ s else ν)with
  |none=>
   rw[Q1,W6,bQ];intro Y c0 _ _;obtain⟨aj,aa,ad,bK,ak,big,an,m5,sv,f,_⟩:=jh (bg.W c0);rw[aK bI.p 4 f rfl,aK bI.p 3 f rfl];refine bi _ _ X so (bh.F c0) bG (λs J au=>?_) λ_=>⟨_,_,rfl⟩;subst J;have G:(if s.hp=[]/\¬0<=bad then σ s else ν)=ν:=G;rw[ms ⟨au.1,au.2.1⟩]at G;cases G
  |some s=>
   rw[G]at bg;rw[R2,X3,a6];obtain⟨s',rfl,U⟩:∃s',so=σ s'/\(if s'.hp=[]/\¬0<=bad then σ s' else ν)=σ s:=by
    cases so with
    |none=>cases G
    |some s'=>exact⟨s',rfl,G⟩
   split at U
   .rename_i c1;cases U;obtain⟨cF,cG,aj,aR,gs,sv,L,cH,aa,ad,bK,ak,big,an,m5,cI,ba,bb,aC,bc,cJ,cL,cM,bd,cN,cO,bf,cQ,cR,cS⟩:=id bg;rw[aK bI.p 5 aC rfl,bL,am];refine⟨λbP=>?_,λbP=>?_⟩
    .intro Z c2 _ _;have c3:=aC.W c2;rw[aK bI.p 6 c3 rfl,aK bI.p 5 c3 rfl];refine bi _ _ X _ (bh.F c2) bG (λcA c4 au=>?_) λ_=>⟨_,_,rfl⟩;cases c4;rw[bd.1 bP]at au;cases au.2.2
    .rw[a1 cT.u (ac.W bh)];refine bi _ _ X _ bh bG (λcA c4 au=>⟨rfl,lc,gz,M,gr,e3,e4,e2⟩) λe6=>?_;refine ro ⟨c1.1,c1.2,?_⟩ (e6 s rfl);cases f:s.big with
     |false=>rfl
     |true=>exact ro (bd.2 f) bP
   .cases U
def Zero(so:Option aJ):Prop:=∀s,so=σ s->s.m5=0/\s.hp.length<=100000
theorem Zero.big{so:Option aJ}(h:Zero so)(b:Bool):Zero (so.map (bi b)):=λs J=>by
 cases so with
 |none=>cases J
 |some s0=>cases J;exact h s0 rfl
theorem zero_num{lo hi:Int}{so:Option aJ}(h:Zero so):Zero ((bf lo hi so).map (·.2)):=λs J=>by
 cases so with
 |none=>cases J
 |some s0=>
  have J:U7 (λx=>x.2) (bl lo hi s0)=σ s:=J;cases a:bl lo hi s0 with
  |none=>rw[a]at J;cases J
  |some q=>
   obtain⟨n,s1⟩:=q;rw[a]at J;cases J;have e:=dG a;have:=e.1;obtain⟨h1,f⟩:=h s0 rfl;exact⟨e.eqs.1.F h1,by show s1.hp.length<=100000;omega⟩
theorem PY{so:Option aJ}(h:Zero so):Zero ((kB so).map (·.2)):=λs J=>by
 cases so with
 |none=>cases J
 |some s0=>
  have J:U7 (λx=>x.2) (dV s0)=σ s:=J;cases a:dV s0 with
  |none=>rw[a]at J;cases J
  |some q=>
   obtain⟨n,s1⟩:=q;rw[a]at J;cases J;obtain⟨U,aa⟩:=tK a;obtain⟨h1,e⟩:=h s0 rfl;have:s0.hp.length=s1.hp.length+1:=by rw[U];rfl
   exact⟨by show s1.m5=0;rw[aa];exact h1,by show s1.hp.length<=100000;omega⟩
theorem PZ{so:Option aJ}{f:b7}(h:jw ⟨(lex pl).1,0,v6,[]⟩=so.map λs=>(f,s))(a:¬65536<pl.length):gS pl=so.bind λs=>if s.hp=[]/\(lex pl).2=v2/\s.big=v6 then σ f else ν:=by
 unfold gS;rw[rc a,h]<;>cases so<;>rfl
theorem P0(a:pl.length<=60000):(∀t∈(lex pl).1,Bytes t/\t.length<=65536)/\(lex pl).1.length<=60000:=by
 refine⟨λt e=>?_,X1 (rg pl.length pl (o4 _)) a⟩;obtain⟨_,f,j⟩:=tv pl.length pl (o4 _) t e;refine⟨λb h=>?_,Ω⟩;have:=ty (f b h);omega
theorem EH{p:x4}(ac:aN .u8 w p pl)(ct:Bytes pl)(cu:pl.length<=60000):al v8 H7 [p] w (PW w pl):=by
 obtain⟨cw,dO⟩:=P0 cu;refine aB func60 ?_;rw[a1 cT.u ac,bU,am];refine⟨λh=>Ω,λ_=>?_⟩;refine(PK ac ct Ω).Y ?_;rintro _ U _ ⟨aH,ap,be,bad,rfl,bg,bh,cz,dP,bk⟩;rw[bx,bz,a1 cT.u (ac.W aH),dm (cs:=#[ap,Δ (pl.length:Int),Δ 4,Δ 0,Δ 0,Δ 0,Δ 0,Δ 0,.slice ν 0 0]) (by obtain⟨_,_,_,_,_,rfl,_⟩:=bg;kernel_rfl)];refine bp λg aa dQ aq Y=>?_;have Y:ag aa g bI (iN ap (pl.length:Int) 4 0 0 0 0 0 (.slice ν 0 0)):=Y;have dR:=aH.size;have dS:=aq.size;have dT:=Y.lt;refine c7 (λC=>Ext w C/\af (λr=>r=g) aa C/\∃Z ab:Int,ab≠0/\ag C g bI (iN ap Z ab 0 0 0 0 0 (.slice ν 0 0))) ?_ ?_
 rotate_left
 .intro ax S;have bm:=aH.F aq;rw[cP,am];refine⟨λ_=>?_,λ_=>S _ ⟨bm,af.refl _ _,_,_,Ω,Y⟩⟩;rw[bY,aU bI.p rfl];refine bt (g:=g) (o:=1) ai.i rfl rfl Y (by simp[iN]) λdU cA dV cB=>?_;rw[bY,aU bI.p rfl];refine bt (g:=g) (o:=2) ai.i rfl rfl cB (by simp[iN]) λdW cC dX cE=>?_;have E:=cA.F cC;exact S _ ⟨bm.then E λr j he=>by have he:r=g:=he;omega,E,bad,11,Ω,cE⟩
 rintro C ⟨bn,aI,Z,ab,cF,bo⟩;have z3:=aI.size;have cG:bR C g C.heap.size bO 100000 (σ ⟨(lex pl).1,0,v6,[]⟩):=by
  refine⟨o4 _,C,ap,be,0,_,[],[],Z,ab,0,0,0,0,0,rfl,af.refl _ _,⟨_,bo⟩,bo,⟨⟨?_,λr j=>?_⟩,bj.nil _ _ _ _ _,rfl,λi h x hi=>by simp at hi⟩,λr j=>fm j,rfl,cF,Ξ,λ_=>rfl,trivial,bh,cw,rfl,?_⟩
  .refine (bg.V (aq.V λ_=>False) λ_ _ h=>h).V aI λr j he=>?_;have he:r=g:=he;obtain⟨c,O⟩:=bk r j;have:=O.lt;omega
  .obtain⟨c,O⟩:=bk r j;exact⟨c,(O.W aq).V aI λhe=>by have he:r=g:=he;have:=O.lt;omega⟩
  .have:be.length=(lex pl).1.length:=by rw[<-bh,r8]
   simp only[List.length_nil];omega
 have dY:∀{R:x5}{cH N:Nat}{H:ah}{so:Option aJ},bR R g cH H N so->True:=λ_=>trivial;rw[dm (cs:=#[ca [],Δ 0,.slice ν 0 0,.slice ν 0 0]) Ψ];refine bp λB cI dZ aM az=>?_;have az:ag cI B ej [ca [],Δ 0,.slice ν 0 0,.slice ν 0 0]:=az;have ea:C.heap.size<=B:=Ω
 have eb:=az.lt;have cJ:B≠g:=Ω
 have K:∀{R ad:x5}{c:List x4},ag R B ej c->af (λr=>r=g) R ad->ag ad B ej c:=λO E=>O.V E λhe=>cJ he;refine(Ey (cG.W aM)).Y ?_;rintro _ cK _ ⟨⟨aO,cL⟩,t,bq,rfl,ec,ed,cM⟩;refine bF cD.i λbr ee ef cN cO=>?_;refine b6 (vs:=[ca t,Δ bq]) cD.i rfl rfl (by intro v bs;simp at bs;rcases bs with rfl|rfl<;>rfl) cO λcQ cR eg bu=>?_;have aC:Ext cK cQ:=cN.put cR Ω;have cS:=(K az aO).W aC;rw[aL cD.p 0 bu rfl,bY,aU ej.p rfl];refine bt (g:=B) (o:=0) da.i rfl rfl cS Ξ λbw aQ eh aR=>?_;have aR:=aR;have cU:=(cL.W aC).new aQ λr j=>by have j:r=B:=j;omega
 have z4:=aM.size;have z5:=aO.size;have ei:=aC.size;have bB:ag bw br cD [ca t,Δ bq]:=bu.V aQ λhe=>by have he:br=B:=he;omega
 rw[aL cD.p 0 bB rfl,o3 da.u,bU,aL cD.p 1 bB rfl];have cV:af (λr=>w.heap.size<=r) w bw:=((((bn.V _).F (aM.V _)).F (aO.Y λr _ h=>by have h:r=g:=h;omega)).F (aC.V _)).F (aQ.Y λr _ h=>by have h:r=B:=h;omega);have up:∀{R ad:x5},af (λr=>w.heap.size<=r) w R->af (λr=>r=g) R ad->af (λr=>w.heap.size<=r) w ad:=λh k=>h.F (k.Y λr _ h=>by have h:r=g:=h;omega);refine(ob cU).Y ?_;rintro _ ek _ ⟨bC,ae⟩;have cX:=up cV bC;have cY:=K aR bC;generalize aT:(((kB (σ ⟨(lex pl).1,0,v6,[]⟩)).map (·.2)).map (bi (decide ((64:Int)<(t.length:Int)))))=aV at ae;refine(lP ae).Y ?_;rintro _ em _ ⟨⟨bD,cZ⟩,n,en,rfl,bE,c0⟩;rw[bx,bz,bU];refine(ob cZ).Y ?_;rintro _ eo _ ⟨bG,bH⟩;have c1:=up (up cX bD) bG;have c2:=K (K cY bD) bG;generalize bJ:((bf 1 4611686018427387904 aV).map (·.2)).map (bi (decide (64<n)))=aW at bH;refine(lP bH).Y ?_;rintro _ ep _ ⟨⟨bK,bL⟩,most,er,rfl,hm,c3⟩;rw[bx,bz];generalize bM:(bf 1 4611686018427387904 aW).map (·.2)=aX at bL;refine(lP bL).Y ?_;rintro _ es _ ⟨⟨bN,c4⟩,aY,et,rfl,bP,c5⟩;rw[bx,bz,bU];refine(ob c4).Y ?_;rintro _ eu _ ⟨bS,bT⟩;generalize bV:((bf 0 4611686018427387904 aX).map (·.2)).map (bi (decide (256<aY)))=bW at bT;refine(lP bT).Y ?_;rintro _ ev _ ⟨⟨bZ,c6⟩,k,ew,rfl,hk,ey⟩;rw[bx,bz,bU];refine(ob c6).Y ?_;rintro _ ez _ ⟨b0,b1⟩;generalize b2:((bf 1 4611686018427387904 bW).map (·.2)).map (bi (decide (2147483648<k)))=aj at b1;have c8:=up (up (up (up (up c1 bK) bN) bS) bZ) b0;have c9:=K (K (K (K (K c2 bK) bN) bS) bZ) b0;rw[bY,aU ej.p rfl];refine bt (g:=B) (o:=1) av.i rfl rfl c9 Ξ λdb b3 eA a2=>?_;have a2:=a2;have dc:=b1.new b3 λr j=>by have j:r=B:=j;omega
 have b4:af (λr=>w.heap.size<=r) w db:=c8.F (b3.Y λr _ h=>by have h:r=B:=h;omega);have eB:0<=n/\n<=4611686018427387904:=by
  cases A:bf 1 4611686018427387904 aV with
  |none=>have:=c0 A;omega
  |some q=>have ae:=bE q A;have:=n3 A;omega
 have eC:0<=most/\most<=4611686018427387904:=by
  cases A:bf 1 4611686018427387904 aW with
  |none=>have:=c3 A;omega
  |some q=>have ae:=hm q A;have:=n3 A;omega
 have dd:0<=aY/\aY<=4611686018427387904:=by
  cases A:bf 0 4611686018427387904 aX with
  |none=>have:=c5 A;omega
  |some q=>have ae:=bP q A;have:=n3 (s':=q.2) A;omega
 have de:Zero (σ (⟨(lex pl).1,0,v6,[]⟩:aJ)):=λs J=>by cases J;exact⟨rfl,by simp only;omega⟩
 have df:Zero aV:=by rw[<-aT];exact(PY de).big _
 have dg:Zero aW:=by rw[<-bJ];exact(zero_num df).big _
 have dh:Zero aX:=by rw[<-bM];exact zero_num dg
 have di:Zero bW:=by rw[<-bV];exact(zero_num dh).big _
 have b5:Zero aj:=by rw[<-b2];exact(zero_num di).big _
 have eD:=b4.size;refine⟨λa7 P=>∃i:Nat,a7=Δ (i:Int)/\i<=n.toNat/\af (λr=>w.heap.size<=r) w P/\∃lc gz acc so,ag P B ej [ca t,Δ k,lc,.slice ν 0 0]/\aA .i64 av P gz lc acc/\(∀r,lw lc r->C.heap.size<=r)/\bR P g C.heap.size bO 100000 so/\mA (gG most) n.toNat i aj acc so/\∀s,so=σ s->s.m5=0/\acc.length+s.hp.length<=100000/\∀z∈acc,1<=z/\z<=ay,λa7 _=>n.toNat-(bX a7).toNat,
  ⟨0,rfl,W0 _,b4,_,0,[],aj,a2,aA.nil _ _ _ _,(λr j=>by obtain⟨a,aD,c,Z,ab⟩:=j;cases Z),dc,?_,λs J=>⟨(b5 s J).1,by simpa using(b5 s J).2,λz dj=>by cases dj⟩⟩,?_⟩
 .unfold mA;cases aj<;>rfl
 rintro _ P ⟨i,rfl,hi,a8,lc,gz,acc,so,b7,b8,cb,ak,ba,cc⟩;refine aZ (λv dk=>P=dk/\((v= .bool v2/\i<n.toNat/\∃s,so=σ s)\/(v= .bool v6/\(so=ν\/i=n.toNat)))) ?_ ?_
 rotate_left
 .intro ax S;rw[aS,am];refine⟨λcd=>?_,λeE=>S _ _ ⟨rfl,.inr ⟨rfl,.inr Ω⟩⟩⟩;rw[mz ak];cases so with
  |none=>exact S _ _ ⟨rfl,.inr ⟨rfl,.inl rfl⟩⟩
  |some s=>exact S _ _ ⟨rfl,.inl ⟨rfl,Ω,s,rfl⟩⟩
 rintro _ _ ⟨rfl,⟨rfl,cd,s,rfl⟩|⟨rfl,dl⟩⟩
 .rw[bQ];obtain⟨dn,eF,dp⟩:=cc s rfl;refine(lP ak).Y ?_;rintro _ eH _ ⟨⟨dq,dr⟩,z,eI,rfl,bb,eJ⟩;rw[bx,bz,bU];refine(ob dr).Y ?_;rintro _ eK _ ⟨ds,dt⟩;have aE:=dq.F ds;have cf:=K b7 aE;have du:∀r,r=g->ij P r\/P.heap.size<=r:=λr j=>(lQ ak r j).imp (λ⟨e,c,O,dv,dw,_⟩=>⟨e,c,O,dv,dw⟩) id;have cg:=eP b8 aE du;rw[aK ej.p 2 cf rfl];refine eT aw.u av.i rfl λa22 eL dx eM W dy=>?_;refine jg aw.u av.i rfl (cg.W W) dy.ls Θ Θ λdz dA eN aF dC ch=>?_;have ci:=cf.W W;have cj:=ci.V ch λhe=>ce (cg.W W) ci Φ he rfl;rw[bY,aU ej.p rfl];refine bt (g:=B) (o:=2) aw.i aF.ls.cells.1 aF.ls.cells.2 cj Ξ λdD ck eO bc=>?_;have bc:=bc;rw[aP,m1 Ω Ω];have cl:af (λr=>lw lc r\/r=B) dx dD:=(ch.Y λr _ h=>.inl h).F (ck.Y λr _ h=>.inr h);have cm:∀r,(lw lc r\/r=B)->C.heap.size<=r:=λr j=>j.elim (cb r) λj=>Ω
  have eQ:=bn.size;have eR:=aE.size;have z22:=W.size;have eS:=a8.size;have eU:=ak.lt;refine⟨⟨i+1,rfl,Ω,((up a8 aE).F (W.V _)).F (cl.Y λr _ h=>by have:=cm r h;omega),dz,dA,acc++[z],((bf 1 most (σ s)).map (·.2)).map (bi (decide (32<z))),bc,bA aF ck λr j he=>?_,λr j=>?_,(dt.W W).new cl cm,?_,λs' L=>?_⟩,by simp only[bX];omega⟩
  .have he:r=B:=he;subst he;exact ce aF cj Φ j rfl
  .rcases dC r j with h|h
   .exact cb r h
   .omega
  .refine ba.step cd ?_ λq A=>?_
   .show (U7 _ (bl 1 most s)).map _=_;unfold gG;cases A:bl 1 most s with
    |none=>rfl
    |some q=>
     have:=bb q A;obtain⟨cn,aG⟩:=q;subst this;rfl
   .unfold gG at A;cases M:bl 1 most s with
    |none=>rw[M]at A;cases A
    |some an=>
     rw[M]at A;have:=bb an M;obtain⟨cn,aG⟩:=an;cases A;exact this
  .cases M:bl 1 most s with
   |none=>
    have L:(U7 (λx=>x.2) (bl 1 most s)).map (bi (decide (32<z)))=σ s':=L;rw[M]at L;cases L
   |some an=>
    have L:(U7 (λx=>x.2) (bl 1 most s)).map (bi (decide (32<z)))=σ s':=L;rw[M]at L;have dE:=bb an M;obtain⟨cn,aG⟩:=an;cases L;have cp:=dG M;have im:=(i9 M).1;have eV:=cp.1;refine⟨by show aG.m5=0;rw[cp.eqs.1];exact dn,?_,λy ao=>?_⟩
    .rw[o9];show acc.length+1+aG.hp.length<=100000;omega
    .rcases j9.1 ao with ao|ao
     .exact dp y ao
     .rw[b9.1 ao,dE];exact⟨im.1,by unfold ay;have:=im.2;simp only at*;omega⟩
 .rw[a6];have dF:aj.bind (cW (gG most) n.toNat [])=so.map λs=>(acc,s):=by
   unfold mA at ba;rw[ba];cases so with
   |none=>rfl
   |some s=>
    rcases dl with h|rfl
    .cases h
    .simp only[V2];rfl
  refine PX a8 b7 b8 ak (λs J=>?_) Ω Ω ac dd λv I X dH bd dI dJ cq=>?_
  .obtain⟨dK,eW,a3⟩:=cc s J;exact⟨λ_=>by rw[dK];omega,Ω,a3,Ω⟩
  .have dL:(decide ((64:Int)<(t.length:Int)))=decide (64<t.length):=by rw[U8,sp,sp];omega
   rw[dL]at aT;have dM:=PV aT.symm (λq A=>cM q A) bJ.symm bE bM.symm hm bV.symm bP b2.symm hk dF dI;have Q:=PZ dM Ω;have cr:¬0<=bad↔(lex pl).2=v2:=by
    rw[cz];cases (lex pl).2<;>simp
   cases dH with
   |none=>
    obtain⟨aD,e,rfl⟩:=cq λs J=>by cases J
    exact⟨bd,aD,e,λ_=>rfl,λf G=>by rw[Q]at G;cases G⟩
   |some s=>
    have Q:gS pl=if s.hp=[]/\(lex pl).2=v2/\s.big=v6 then σ ⟨t,k,acc,X⟩else ν:=Q;by_cases E:s.hp=[]/\(lex pl).2=v2/\s.big=v6
    .rw[ms E]at Q;obtain⟨rfl,dN⟩:=dJ s rfl ⟨E.1,cr.2 E.2.1,E.2.2⟩;exact⟨bd,_,_,(λG=>by rw[Q]at G;cases G),λf G=>⟨B,rfl,by rw[Q]at G;cases G;exact dN⟩⟩
    .rw[rc E]at Q;obtain⟨aD,e,rfl⟩:=cq λs' L au=>by
      cases L;exact E ⟨au.1,cr.1 au.2.1,au.2.2⟩
     exact⟨bd,aD,e,λ_=>rfl,λf G=>by rw[Q]at G;cases G⟩
theorem EI{a b:Int}:al v8 JL [Δ a,Δ b] w λv I=>v=Δ (min a b)/\Ext w I:=by
 refine aB func209 ?_;rw[aS,am];exact⟨λh=>⟨by congr 1;omega,Ext.refl _⟩,λh=>⟨by congr 1;omega,Ext.refl _⟩⟩
theorem P1{s:ke}{x:cE}(h:gZ w s x)(O:(x.lines.map (·.1)).Nodup)(P:aN .i64 w aT t):al v8 Kh [.agg (fC s).toArray,aT,Δ k] w λv I=>v=Δ (kX x k t)/\Ext w I:=by
 obtain⟨⟨g1,Q⟩,⟨aq,R⟩,S,au,L,f,V,E⟩:=id h;refine aB func259 ?_;refine bp λW U av z a=>?_;have a:ag U W be (fC s):=by
  obtain⟨_,_,_,X⟩:=dj Q.ls;obtain⟨_,_,_,Y⟩:=dj R.ls;obtain⟨_,_,_,_,_,Z,_⟩:=f.sl;simp only[fC,X,Y,Z]at a ⊢;exact a
 have ab:=f.W z;have ac:L.length=x.lines.length:=by rw[<-E,r8]
 rw[aL be.p 2 a rfl,aL be.p 3 a rfl,ew ek.u ab,S];refine ch.range L.length (λi j aa=>Ext U aa/\∃c:Int,j=Δ c/\min c k=mu x k i t) f.le ⟨Ext.refl _,x.other,rfl,(Du x k t).symm⟩ ?_ ?_
 .rintro i _ aa ad hi ⟨e,c,rfl,q⟩ ae;obtain⟨y,A⟩:=aD (l:=L) hi;obtain⟨gy,G⟩:=V y (x7 A);have B:=z.F e;have af:x.lines[i]?=σ (y.t,y.c):=by rw[<-E,u4,A];rfl
  have H:=Dw (k:=k) O af t;refine bG Ω ?_;refine aZ (λj J=>Ext U J/\∃c:Int,j=Δ c/\min c k=mu x k (i+1) t) ?_ ?_
  .rintro j J ah;rw[aP];exact ae _ _ ah
  intro ax K;have M:=f.W B;rw[cj rfl ek.u cn.i M hi,bC cn.p cn.i rfl (M.range A)];refine bF cn.i λao aw ay ai aj=>?_;refine b6 (vs:=pt y) cn.i rfl rfl (x0 G) aj λaz ak aA N=>?_;have r:=ai.put ak Ω;rw[aL cn.p 0 N rfl];refine(xZ ((G.ls.W B).W r) ((P.W B).W r)).Y ?_;rintro _ aC _ ⟨rfl,C⟩;rw[am];refine⟨λhe=>?_,λan=>?_⟩
  .rw[aL cn.p 1 (N.W C) rfl];refine K _ _ ⟨(e.F r).F C,y.c,rfl,?_⟩;rw[H,ms he.symm]
  .refine K _ _ ⟨(e.F r).F C,c,rfl,?_⟩;rw[H,rc λhe=>an he.symm,q]
 .rintro _ aa ad ⟨e,c,rfl,q⟩;rw[ac,Dv]at q;refine cd Ω ?_;refine EI.Y ?_;rintro _ aE _ ⟨rfl,ap⟩;exact⟨by rw[q],(z.F e).F ap⟩
theorem P2{ds:x4}(h:aN .i64 w ds l)(L:l.Nodup)(ah:l.length<=64):al v8 Kg [ds] w λv I=>Ext w I/\∃g,aA .i64 ai I g v (bw l)/\∀r,lw v r->w.heap.size<=r:=by
 refine aB func258 ?_;have M:∀i,i<=64->(((X9 i).map λ(v:Nat)=>(v:Int)).filter λv=>decide (v∈l)).length<=i:=λi _=>by
  have:=List.length_filter_le (λv=>decide (v∈l)) ((X9 i).map λ(v:Nat)=>(v:Int));simp at this;omega
 refine ch.range 64 (λi e U=>Ext w U/\∃g,aA .i64 ai U g e (((X9 i).map λ(v:Nat)=>(v:Int)).filter λv=>decide (v∈l))/\∀r,lw e r->w.heap.size<=r) Ω ⟨Ext.refl _,0,aA.nil _ _ _ _,λr y=>by obtain⟨a,n,c,N,aj⟩:=y;cases N⟩ ?_ ?_
 .rintro i e U k hi ⟨z,g,hm,C⟩ hk;refine bG Ω ?_;rw[a1 aw.u (h.W z)];have O:=M i Ω;generalize P:(((X9 i).map λ(v:Nat)=>(v:Int)).filter λv=>decide (v∈l))=A at hm O;refine ch.range l.length (λj e aa=>Ext w aa/\∃g,aA .i64 ai aa g e (A++(if(i:Int)∈l.take j then[(i:Int)]else[]))/\∀r,lw e r->w.heap.size<=r) h.le ⟨z,g,by simpa using hm,C⟩ ?_ ?_
  .rintro j Q aa R S ⟨q,E,f,s⟩ V;obtain⟨x,G⟩:=aD (l:=l) S;refine bG Ω ?_;refine aZ (λe B=>Ext w B/\∃g,aA .i64 ai B g e (A++(if(i:Int)∈l.take (j+1)then[(i:Int)]else[]))/\∀r,lw e r->w.heap.size<=r) ?_ ?_
   .rintro ak B W;rw[aP];exact V _ _ W
   intro ax K;have H:(i:Int)∈l.take (j+1)↔(i:Int)∈l.take j\/(i:Int)=x:=by
    rw[r9,G,j6,j9,b9]
   rw[bk aw.u av.i Ψ (h.W q) G,bm,am];refine⟨λhe=>?_,λX=>?_⟩
   .have Y:(i:Int)∉l.take j:=λhm=>by
     obtain⟨p,ac⟩:=X8.1 hm;have Z:p<j:=by have:=(x6.1 ac).1;rw[o8]at this;omega
     rw[Y6 Z,<-he]at ac;have:=lJ L ac G;omega
    rw[rc Y,U2]at f;refine eT aq.u ai.i rfl λa3 an B ao J ab=>?_;refine jg aq.u ai.i rfl (f.W J) ab.ls Θ Θ λap ad ay ae af ag=>?_;have az:=q.size;have z3:=J.size;refine K _ _ ⟨(q.F J).then ag λr y he=>by have:=s r he;omega,ad,?_,λr y=>(af r y).elim (s r) λh=>Ω⟩;rw[ms (H.2 (.inr he.symm))];exact ae
   .refine K _ _ ⟨q,E,?_,s⟩;have:((i:Int)∈l.take (j+1))=((i:Int)∈l.take j):=propext ⟨λau=>(H.1 au).resolve_right λhe=>X he.symm,λau=>H.2 (.inl au)⟩;simp only[this];exact f
  .rintro Q aa R ⟨q,E,f,s⟩;rw[j4]at f;refine cd Ω ?_;rw[aP];refine hk _ _ ⟨q,E,?_,s⟩;rw[List.range_succ,Z3,List.filter_append,P];by_cases hm:(i:Int)∈l
   .rw[ms hm]at f;simpa[hm]using f
   .rw[rc hm]at f;simpa[hm]using f
 .rintro e U k ⟨z,g,hm,C⟩;rw[aS,am];exact⟨λh=>Ω,λ_=>⟨z,g,hm,C⟩⟩
structure fD where
 aV:x4
 lc:x4
 ba:x4
 sc:Λ
 cs:Λ
def dR(h:fD):List x4:=[h.aV,h.lc,h.ba]
def qE(h:fD)(r:Nat):Prop:=lw h.ba r\/lw h.aV r\/lw h.lc r
def fV(w:x5)(co:Λ)(h:fD):Prop:=(∃g,aA .i64 ai w g h.aV h.sc)/\(∃g,aA .i64 ai w g h.lc (bN co h.sc))/\∃g,aA .i64 av w g h.ba h.cs
theorem fV.W{h:fD}(au:fV w co h)(a:Ext w I):fV I co h:=by
 obtain⟨⟨g1,h1⟩,⟨e,f⟩,j,p⟩:=au;exact⟨⟨g1,h1.W a⟩,⟨e,f.W a⟩,j,p.W a⟩
theorem fV.one{h:fD}(au:fV w co h):∀u∈dR h,u.oneCell'=v2:=by
 obtain⟨⟨g1,h1⟩,⟨f,a⟩,j,e⟩:=au;intro u hu;simp[dR]at hu;rcases hu with rfl|rfl|rfl
 .exact h1.ls.cells.2
 .exact a.ls.cells.2
 .exact e.ls.cells.2
theorem EJ{f:b7}{x:cE}{ae:ke}(h:gZ w ae x)(aH:fl N f)(bM:x∈f.d9)(cA:aA .i64 av w gz sv f.co):
  al v8 JI [.agg (fC ae).toArray,sv,Δ f.k] w λv I=>Ext w I/\∃c:fD,v= .agg (dR c).toArray/\c.sc=bw x.scope/\c.cs=(jz f.co f.k x).2/\fV I f.co c/\∀r,qE c r->w.heap.size<=r:=by
 obtain⟨ah,cB,dN⟩:=aH.d9 x bM;have bP:=ug ah aH.co.2.1;have bQ:=uf bP ah.scope.1;have cC:(bw x.scope).length<=6:=by rw[bQ.length_eq];exact cB
 have cD:=qv aH bM;have bR:=Dl x.scope;obtain⟨⟨g1,aI⟩,⟨dO,cF⟩,dP,dQ,cG⟩:=id h;refine aB func205 ?_;refine bp λbd U dS bS aj=>?_;have aj:ag U bd be (fC ae):=by
  obtain⟨L,cH,_⟩:=cG;obtain⟨_,_,_,E⟩:=dj aI.ls;obtain⟨_,_,_,K⟩:=dj cF.ls;obtain⟨_,_,_,_,_,cI,_⟩:=cH.sl;simp only[fC,E,K,cI]at aj ⊢;exact aj
 refine bF a7.i λbT aa dT bf bg=>?_;have bh:=bS.F bf;rw[aL be.p 0 (aj.W bf) rfl];refine(P2 (aI.ls.W bh) ah.scope.1 Ω).Y ?_;rintro aV dU _ ⟨aJ,gr,bi,cJ⟩;rw[dm (cs:=#[aV,.slice ν 0 0,.slice ν 0 0]) (by obtain⟨_,_,_,rfl⟩:=dj bi.ls;kernel_rfl)];refine bF a7.i λB dV cK cL cM=>?_;refine b6 (vs:=[aV,.slice ν 0 0,.slice ν 0 0]) a7.i rfl rfl (by intro u hu;simp at hu;rcases hu with rfl|rfl;exact bi.ls.cells.2;rfl) cM λR cN dW Y=>?_;have aK:=cL.put cN Ω;have bU:=(bh.F aJ).F aK;have S:=bi.W aK;have bj:=((aj.W bf).W aJ).W aK;have bV:=(bg.W aJ).W aK;have dX:=bh.size;have z3:=aJ.size;have dY:=bU.size;have dZ:=Y.lt;have ea:=cK;rw[aL a7.p 0 Y rfl,a1 aq.u S.ls];have bX:∀v∈bw x.scope,0<=v/\v<f.co.length:=λv hm=>ah.scope.2 v ((rN bP).1 hm);have bl:∀{I:x5},af (λr=>r=B\/R.heap.size<=r) R I->Ext w I:=λbn=>bU.then bn λr s he=>Ω
 have bq:(bN f.co (bw x.scope)).length=(bw x.scope).length:=by simp[bN]
 refine bW.range (bw x.scope).length (λi W=>af (λr=>r=B\/R.heap.size<=r) R W/\∃lc gs,ag W B a7 [aV,lc,.slice ν 0 0]/\aA .i64 ai W gs lc ((bN f.co (bw x.scope)).take i)/\∀r,lw lc r->R.heap.size<=r) Ω
  ⟨af.refl _ _,_,0,Y,aA.nil _ _ _ _,λr s=>by obtain⟨a,n,c,E,K⟩:=s;cases E⟩ ?_ ?_
 .rintro i W cO hi ⟨M,lc,gs,cP,ak,aM⟩ cQ;obtain⟨v,br⟩:=aD (l:=(bw x.scope)) hi;have eb:=bX v (x7 br);have cR:=bA S M λr s J=>by
   rcases J with rfl|J
   .exact ce S Y Φ s rfl
   .obtain⟨E,K⟩:=bZ S s;omega
  refine bG Ω ?_;rw[bk aq.u ai.i Ψ cR.ls br];intro ec ao _ _;have bY:=cP.W ao;have cS:f.co[v.toNat]?=σ (f.co.getD v.toNat 0):=by rw[u5,x8 Ω];rfl
  rw[aL a7.p 1 bY rfl,fM (y:=v) (i:=v.toNat) Ω aw.u av.i Ψ (cA.W ((bl M).F ao)).ls cS];refine eT aq.u ai.i rfl λed ee cT ef ap cU=>?_;refine⟨.inl ap,?_⟩;have b0:=(ak.W ao).W ap;refine jg aq.u ai.i rfl b0 cU.ls Θ Θ λcV cW eg aN cX b1=>?_;have b2:=bY.W ap;have b3:=b2.V b1 λhe=>ce b0 b2 Φ he rfl;rw[aU a7.p rfl];refine bt (g:=B) (o:=1) aq.i aN.ls.cells.1 aN.ls.cells.2 b3 Ξ λcY b4 eh cZ=>?_;rw[aP];have c0:af (λr=>lw lc r\/r=B) cT cY:=(b1.Y λr _ h=>.inl h).F (b4.Y λr _ h=>.inr h);have c1:=M.size;have ei:=(ao.F ap).size;refine cQ _ ⟨((M.F (ao.V _)).F (ap.V _)).F (c0.Y λr _ h=>h.elim (λh=>.inr (aM r h)) .inl),cV,cW,cZ,?_,λr s=>(cX r s).elim (aM r) λh=>Ω⟩;have e:(bN f.co (bw x.scope)).take (i+1)=(bN f.co (bw x.scope)).take i++[f.co.getD v.toNat 0]:=by
   unfold bN;rw[<-List.map_take,<-List.map_take,r9,br,j6,Z3];rfl
  rw[e];exact bA aN b4 λr s he=>by
   have he:r=B:=he;subst he;exact ce aN b3 Φ s rfl
 rintro W cO ⟨M,lc,gs,bs,ak,aM⟩;rw[<-bq,j4]at ak;refine cd Ω ?_;have ej:=bl M;have aO:cg (bN f.co (bw x.scope)):=⟨by rw[bq];exact cC,pm aH.co.2.2 bX⟩;have c2:=cD.small;rw[aL a7.p 1 bs rfl];refine(wR _ ak.ls aO).Y ?_;rintro c3 C _ ⟨aR,b5⟩;have ek:=ks aO.2;have em:=nk aO.2;have eo:aQ (bN f.co (bw x.scope))<=4096:=c2;rw[gR ci.u b5];have aS:af (λr=>r=B\/R.heap.size<=r) R C:=M.F (aR.V _);have ay:=bs.W aR;have b8:=ak.W aR;have c1:=M.size;have ep:=aR.size;have bu:aA .i64 ai C gr aV (bw x.scope):=bA S aS λr s J=>by
  rcases J with rfl|J
  .exact ce S Y Φ s rfl
  .obtain⟨E,K⟩:=bZ S s;omega
 have bx:ag C bd be (fC ae):=bj.V aS λJ=>J.elim (λhe=>by subst he;exact ro (fp bj Y) Φ) λh=>by have:=bj.lt;omega
 have ca:=bV.V aS λJ=>J.elim (λhe=>by have:=bg.lt;omega) λh=>by have:=bV.lt;omega
 have cb:∀{I:x5},af (λr=>r=B\/C.heap.size<=r) C I->Ext w I:=λbn=>(bl aS).then bn λr s he=>by
  have he:r=B\/C.heap.size<=r:=he;omega
 have er:B<C.heap.size:=ay.lt;refine bW.range (bo (bN f.co (bw x.scope))).length (λq z=>af (λr=>r=B\/C.heap.size<=r) C z/\∃ba az,ag z B a7 [aV,lc,ba]/\aA .i64 av z az ba (((bo (bN f.co (bw x.scope))).take q).map λt=>kX x f.k (qk x.scope (bw x.scope) t))/\∀r,lw ba r->C.heap.size<=r) Ω
  ⟨af.refl _ _,_,0,ay,aA.nil _ _ _ _,λr s=>by obtain⟨a,n,c,E,K⟩:=s;cases E⟩ ?_ ?_
 .rintro q z c4 c5 ⟨G,ba,az,aC,aE,aW⟩ c6;obtain⟨t,aX⟩:∃t,(bo (bN f.co (bw x.scope)))[q]?=σ t:=⟨_,x8 c5⟩;have es:t.length=(bw x.scope).length:=by
   have c7:=rq aO.2 (i:=q) Ω;rw[c7]at aX;cases aX;rw[kr,bq]
  have bz:=cb G;have c8:an.rep (α:=List (Λ)) v2 (eU W.heap.size) bO z [c3] (bo (bN f.co (bw x.scope))):=an.V b5 G λr s h J=>by
   rcases h with h|h
   .have h:W.heap.size<=r:=h;have:=bs.lt;rcases J with J|J<;>omega
   .exact h
  have Z:∀{O:Nat}{P:x4}{Q:Λ},aA .i64 ai C O P Q->aA .i64 ai z O P Q:=λhm=>bA hm G λr s J=>by
   rcases J with rfl|J
   .exact ce hm ay Φ s rfl
   .obtain⟨E,K⟩:=bZ hm s;omega
  have cc:=Z bu;have cf:ag z bd be (fC ae):=bx.V G λJ=>J.elim (λhe=>by subst he;exact ro (fp bx ay) Φ) λh=>by have:=bx.lt;omega
  refine bG Ω ?_;refine jX (α:=Λ) rfl rfl ci.u aq.i Ψ c8 aX λaT c9=>?_;have da:=en c9;rw[aL be.p 0 cf rfl,a1 aw.u (aI.ls.W bz)];have z12:=G.size;refine ch.range x.scope.length (λp H a2=>Ext z a2/\∃go,aA .i64 av a2 go H ((x.scope.take p).map λv=>t.getD ((bw x.scope).idxOf v) 0)/\∀r,lw H r->z.heap.size<=r) Ω ⟨Ext.refl _,0,aA.nil _ _ _ _,λr s=>by obtain⟨a,n,c,E,K⟩:=s;cases E⟩ ?_ ?_
  .rintro p H a2 db ac ⟨ab,go,aF,cj⟩ dc;obtain⟨v,bB⟩:=aD (l:=x.scope) ac;have dd:v∈bw x.scope:=bQ.mem_iff.2 (x7 bB);refine bG Ω ?_;have de:=bz.F ab;have df:=aC.W ab;have dg:=cc.W ab;rw[bk aw.u av.i Ψ (aI.ls.W de) bB,aL a7.p 0 df rfl,a1 aq.u dg.ls];generalize ck:((x.scope.take p).map λv=>t.getD ((bw x.scope).idxOf v) 0)=A at aF;have et:A.length=p:=by rw[<-ck,r8,o8];omega
   refine ch.range (bw x.scope).length (λj H a6=>Ext z a6/\∃go,aA .i64 av a6 go H (A++if v∈(bw x.scope).take j then[t.getD ((bw x.scope).idxOf v) 0]else[])/\∀r,lw H r->z.heap.size<=r) Ω ⟨ab,go,by simpa using aF,cj⟩ ?_ ?_
   .rintro j dh a6 di dk ⟨X,bD,ad,aG⟩ dl;obtain⟨u,hu⟩:=aD (l:=(bw x.scope)) dk;have dn:=cc.W X;refine bG Ω ?_;refine aZ (λH bE=>Ext z bE/\∃go,aA .i64 av bE go H (A++if v∈(bw x.scope).take (j+1)then[t.getD ((bw x.scope).idxOf v) 0]else[])/\∀r,lw H r->z.heap.size<=r) ?_ ?_
    .rintro eu bE dp;rw[aP];exact dl _ _ dp
    intro ax cl;have bH:v∈(bw x.scope).take (j+1)↔v∈(bw x.scope).take j\/v=u:=by
     rw[r9,hu,j6,j9,b9]
    rw[bk aq.u ai.i Ψ dn.ls hu,bm,am];refine⟨λhe=>?_,λbI=>?_⟩
    .have dq:v∉(bw x.scope).take j:=λhm=>by
      obtain⟨dr,bJ⟩:=X8.1 hm;have ds:dr<j:=by have:=(x6.1 bJ).1;rw[o8]at this;omega
      rw[Y6 ds,<-he]at bJ;have:=lJ bR bJ hu;omega
     rw[rc dq,U2]at ad;have dt:t[j]?=σ (t.getD ((bw x.scope).idxOf v) 0):=by
      have:(bw x.scope).idxOf v=j:=rP bR (by rw[hu,he]);rw[this,u5,x8 (show j<t.length by omega)];rfl
     rw[bk aq.u ai.i Ψ (da.W X) dt];refine eT aw.u av.i rfl λev ew ey ez bK du=>?_;refine jg aw.u av.i rfl (ad.W bK) du.ls Θ Θ λeA dv eB dw dx dy=>?_;have eC:=X.size;have eD:=bK.size;refine cl _ _ ⟨(X.F bK).then dy λr s he=>by have:=aG r he;omega,dv,?_,λr s=>(dx r s).elim (aG r) λh=>Ω⟩;rw[ms (bH.2 (.inr he.symm))];exact dw
    .refine cl _ _ ⟨X,bD,?_,aG⟩;have:(v∈(bw x.scope).take (j+1))=(v∈(bw x.scope).take j):=propext ⟨λau=>(bH.1 au).resolve_right λhe=>bI he.symm,λau=>bH.2 (.inl au)⟩;simp only[this];exact ad
   .rintro dh a6 di ⟨X,bD,ad,aG⟩;rw[j4,ms dd]at ad;refine cd Ω ?_;rw[aP];refine dc _ _ ⟨X,bD,?_,aG⟩;rw[r9,bB,j6,Z3,ck];exact ad
  .rintro H a2 db ⟨ab,go,aF,cj⟩;rw[j4]at aF;refine cd Ω ?_;intro eE cm _ _;have a8:=ab.F cm;have dz:=aC.W a8;have dA:=cf.W a8;rw[aL a7.p 2 dz rfl,bC be.p be.i rfl dA.range];refine(P1 (h.W (bz.F a8)) ah.lines.1 (aF.ls.W cm)).Y ?_;rintro _ eF _ ⟨rfl,bL⟩;refine⟨.inl bL,?_⟩;refine eT aw.u av.i rfl λeH eI dC eJ cn dD=>?_;refine⟨.inl (bL.F cn),?_⟩;have bb:=(a8.F bL).F cn;have cp:=aE.W bb;refine jg aw.u av.i rfl cp dD.ls Θ Θ λdE dF eK bc dG cq=>?_;have cr:=aC.W bb;have ct:=cr.V cq λhe=>ce cp cr Φ he rfl;rw[aU a7.p rfl];refine bt (g:=B) (o:=2) aw.i bc.ls.cells.1 bc.ls.cells.2 ct Ξ λdH cu eL dI=>?_;rw[aP];have dJ:af (λr=>lw ba r\/r=B) dC dH:=(cq.Y λr _ h=>.inl h).F (cu.Y λr _ h=>.inr h);have eM:=bb.size;refine c6 _ ⟨(G.F (bb.V _)).F (dJ.Y λr _ h=>h.elim (λh=>.inr (aW r h)) .inl),dE,dF,dI,?_,λr s=>(dG r s).elim (aW r) λh=>Ω⟩;rw[r9,aX,j6,Z3];exact bA bc cu λr s he=>by
    have he:r=B:=he;subst he;exact ce bc ct Φ s rfl
 .rintro z c4 ⟨G,ba,az,aC,aE,aW⟩;rw[j4]at aE;refine cd Ω ?_;have Z:∀{O:Nat}{P:x4}{Q:Λ},aA .i64 ai C O P Q->aA .i64 ai z O P Q:=λhm=>bA hm G λr s J=>by
   rcases J with rfl|J
   .exact ce hm ay Φ s rfl
   .obtain⟨E,K⟩:=bZ hm s;omega
  let c:fD:=⟨aV,lc,ba,bw x.scope,(jz f.co f.k x).2⟩;have dK:fV z f.co c:=⟨⟨gr,Z bu⟩,⟨gs,Z b8⟩,az,aE⟩;rw[bC a7.p a7.i rfl (show z.rangeAt B 0 (dR c)from aC.range)];have cw:=ca.V G λJ=>J.elim (λhe=>by have:=bg.lt;omega) λh=>by have:=ca.lt;omega
  refine b6 (vs:=dR c) a7.i rfl rfl dK.one cw λdL cz eN dM=>?_;rw[fi a7.p a7.i rfl dM.range];have aY:∀{O:Nat}{P:x4}{Q:Λ}{e:o5},e≠a7->aA .i64 e z O P Q->aA .i64 e dL O P Q:=λbI hm=>bA hm cz λr s he=>by
   have he:r=bT:=he;exact ce hm cw bI s he
  refine⟨(cb G).then cz λr s he=>by have he:r=bT:=he;have:=bS.size;omega,c,rfl,rfl,rfl,⟨⟨gr,aY Φ (Z bu)⟩,⟨gs,aY Φ (Z b8)⟩,az,aY Φ aE⟩,λr s=>?_⟩;rcases s with s|s|s
  .have:=aW r s;omega
  .have:=cJ r s;omega
  .have:=aM r s;omega
theorem EK{h:fD}{g:Nat}(e:fV w co h)(a:ag I g a7 (x4.agg (dR h).toArray).cells.toList):ag I g a7 (dR h):=by
 obtain⟨⟨g1,h1⟩,⟨s,f⟩,x,j⟩:=e;obtain⟨_,_,_,p⟩:=dj h1.ls;obtain⟨_,_,_,q⟩:=dj f.ls;obtain⟨_,_,_,r⟩:=dj j.ls;simp only[dR,p,q,r]at a ⊢;exact a
theorem P3{a b:fD}(R:fV w co a)(S:fV w co b)(X:k3 a.sc)(Y:k3 b.sc):al v8 AL [.agg (dR a).toArray,.agg (dR b).toArray] w λv I=>v= .bool (decide (di a.sc<di b.sc))/\Ext w I:=by
 obtain⟨⟨ga,V⟩,_⟩:=id R;obtain⟨⟨aw,Z⟩,_⟩:=id S;have J:=(xp X Y).1;refine aB func207 ?_;refine bp λg1 U ax ac L=>?_;refine bp λad aa ay W M=>?_;have L:=(EK R L).W W;have M:=EK S M;have r:=ac.F W;have s:=V.ls.W r;have B:=Z.ls.W r;have z:∀{I:x5},Ext aa I->∀{K:x4->Prop},ab v8 (u7 a7 (Γ g1) 0) I (λt=>ab v8 (u6 aq t) I K)=K a.aV:=λe K=>by
  rw[aL a7.p 0 (L.W e) rfl]
 have C:∀{I:x5},Ext aa I->∀{K:x4->Prop},ab v8 (u7 a7 (Γ ad) 0) I (λt=>ab v8 (u6 aq t) I K)=K b.aV:=λe K=>by
  rw[aL a7.p 0 (M.W e) rfl]
 rw[z (Ext.refl _),a1 aq.u s,C (Ext.refl _),a1 aq.u B,bL,am];refine⟨λae=>?_,λaf=>?_⟩
 .rw[z (Ext.refl _),a1 aq.u s,C (Ext.refl _),a1 aq.u B,aS];refine⟨?_,r⟩;congr 1;rw[U8,sp,sp,J];exact⟨λh=>.inl Ω,λh=>by rcases h with h|h<;>omega⟩
 have ag:a.sc.length=b.sc.length:=by have:=X5.1 af;omega
 rw[z (Ext.refl _),a1 aq.u s];refine ch.range a.sc.length (λi _ N=>Ext aa N/\∀(j:Nat)(x y:Int),j<i->a.sc[j]?=σ x->b.sc[j]?=σ y->x=y) V.ls.le ⟨Ext.refl _,λj x y ah=>Ω⟩ ?_ ?_
 .rintro i _ N k hi ⟨O,E⟩ hk;obtain⟨x,e⟩:=aD (l:=a.sc) hi;obtain⟨y,G⟩:=aD (l:=b.sc) (i:=i) Ω;have f:=uu E Ω Ω;have aj:a.sc.drop i=x::a.sc.drop (i+1):=by rw[W3 hi,(x6.1 e).2]
  have ak:b.sc.drop i=y::b.sc.drop (i+1):=by rw[W3 (show i<b.sc.length by omega),(x6.1 G).2]
  rw[aj,ak]at f;simp only[jE]at f;refine bG Ω ?_;intro az an _ _;have q:=O.F an;rw[z q,bk aq.u ai.i Ψ (s.W q) e,C q,bk aq.u ai.i Ψ (B.W q) G,bL,am];refine⟨λae=>?_,λhe=>?_⟩
  .intro aA ao _ _;have A:=q.F ao;rw[z A,bk aq.u ai.i Ψ (s.W A) e,C A,bk aq.u ai.i Ψ (B.W A) G,aS];refine⟨?_,r.F A⟩;congr 1;rw[U8,sp,sp,J,f];by_cases H:x<y
   .rw[ms H];exact⟨λ_=>.inr ⟨ag,Ω⟩,λ_=>H⟩
   .rw[rc H,ms (show y<x by omega)];exact⟨λh=>ro h H,λh=>by rcases h with h|h<;>omega⟩
  .rw[aP];refine hk _ _ ⟨q,λj ap au ah P Q=>?_⟩;by_cases av:j=i
   .subst av;rw[e]at P;rw[G]at Q;cases P;cases Q;exact X5.1 he
   .exact E j ap au Ω P Q
 .rintro _ N k ⟨O,E⟩;rw[aS,am];refine⟨λh=>Ω,λ_=>⟨?_,r.F O⟩⟩;congr 1;symm;rw[decide_eq_false_iff_not,J];have f:=uu E (o4 _) Ω;rw[List.drop_length,show b.sc.drop a.sc.length=[]from List.drop_eq_nil_of_le Ω]at f;rw[f];simp only[jE];omega
def dJ(h:fD):cQ:=(h.sc,h.cs)
def lR(w:x5)(B g:Nat)(v:x4)(co:Λ)(L:List fD):Prop:=bj dR 3 a7 w g v L/\(∀h∈L,fV w co h/\∀r,qE h r->B<=r)/\(∀(i j:Nat)x y,L[i]?=σ x->L[j]?=σ y->i≠j->∀r,lw x.ba r->¬lw y.ba r)/\∀r,lm v r->B<=r
theorem oc{h:fD}(y:fV w co h)(q:af S w I)(s:∀r,S r->(∃e c,ag w r e c/\e≠ai/\e≠av)\/w.heap.size<=r\/((∃c,ag w r av c)/\¬lw h.ba r)):fV I co h:=by
 obtain⟨⟨g1,h1⟩,⟨z,A⟩,B,j⟩:=y;have x:∀{g:Nat}{v:x4}{l:Λ},aA .i64 ai w g v l->aA .i64 ai I g v l:=λhm=>bA hm q λr a J=>by
  rcases s r J with⟨e,c,f,p,_⟩|C|⟨⟨c,f⟩,_⟩
  .exact ce hm f (λhe=>p he.symm) a rfl
  .obtain⟨E,F⟩:=bZ hm a;omega
  .exact ce hm f Φ a rfl
 refine⟨⟨g1,x h1⟩,⟨z,x A⟩,B,bA j q λr a J=>?_⟩;rcases s r J with⟨e,c,f,_,p⟩|C|⟨_,G⟩
 .exact ce j f (λhe=>p he.symm) a rfl
 .obtain⟨E,F⟩:=bZ j a;omega
 .exact G a
theorem lR.W{g:Nat}{L:List fD}(h:lR w B g v co L)(a:Ext w I):lR I B g v co L:=⟨h.1.W a,λx e=>⟨(h.2.1 x e).1.W a,(h.2.1 x e).2⟩,h.2.2⟩
section
variable{α:Type}{f:α->List x4}{k:Nat}{P:V3}{w:x5}{e:o5}{g:Nat}{v:x4}{L:List α}
theorem P4{M:List α}(h:bj f k e w g v L)(j:L.map f=M.map f):bj f k e w g v M:=by
 have p:L.length=M.length:=by have:=congrArg Q2 j;simpa using this
 have hm:L.flatMap f=M.flatMap f:=by rw[List.flatMap_def,List.flatMap_def,j]
 refine⟨by rw[<-p,<-hm];exact h.1,λa q=>?_⟩;obtain⟨b,r,he⟩:=j5.1 (show f a∈L.map f by rw[j];exact j5.2 ⟨a,q,rfl⟩);rw[<-he];exact h.2 b r
theorem EL{t:o5}{b l aW:Nat}{low high:Option x4}(r:P.underlying t=σ (.slice e))(hi:aR P e k b z)(h:bj f k e w g v L)(h1:nd low l)(s:ne high L.length aW)(p:l<=aW)(au:aW<=L.length)(x:∀q,(∀I,bj f k e I g v L->cc I k q ((L.drop l).take (aW-l)).length (((L.drop l).take (aW-l)).flatMap f))->K q):ab P (U4 t v low high ν) w K:=by
 have y:=h.sl;obtain⟨_,B,o,base,cap,rfl,C,_⟩:=y;rw[ig r hi h1 s fh p Ω (o4 _)];refine x _ λI j=>?_;have:=cc.part (l:=l) (h:=aW) (m:=cap) j.sl p au Ω (o4 _);rw[tW l j.2,rG (aW-l) (λa A=>j.2 a (List.mem_of_mem_drop A))]at this;have el:((L.drop l).take (aW-l)).length=aW-l:=by rw[o8,List.length_drop];omega
 rw[el];exact this
theorem x2{t Q:o5}{b:Nat}{x:x4}{M:List α}{K:x4->x5->Prop}(A:P.underlying t=σ (.slice e))(hi:aR P e k b z)(G:z.cells.size=k)(h:bj f k e w g v L)(H:cc w k x M.length (M.flatMap f))(R:∀a∈M,(f a).length=k)(h1:∀a∈M,∀u∈f a,u.oneCell'=v2)(B:(L.length+M.length)*b<=140737488355328)(J:L.length+M.length<=9223372036854775807)(N:∀j p I,bj f k e I p j (L++M)->(∀r,lm j r->lm v r\/w.heap.size<=r)->af (λr=>lm v r) w I->K j I):aF P (Z9 #[t,t] Q #[v,x]) w K:=by
 have O:∀u∈M.flatMap f,u.oneCell'=v2:=λu hu=>by
  obtain⟨a,S,hu⟩:=List.mem_flatMap.1 hu;exact h1 a S u hu
 have C:∀j p I,b0 I p e k j (L.length+M.length) (L.flatMap f++M.flatMap f)->bj f k e I p j (L++M):=λj p I hm=>⟨by simpa using hm,λb B=>by
  rcases j9.1 B with aW|aW
  .exact h.2 b aW
  .exact R b aW⟩
 rcases h.1.2 with⟨q,T⟩|⟨cap,cs,q,U,_⟩
 .have hm:b0 w w.heap.size e k v L.length (L.flatMap f):=⟨h.1.1,.inl ⟨q,T⟩⟩;subst q;refine oX A A hi G hm H O (by simpa using B) (by simpa[maxLen]using J) λj p I E s F=>N j p I (C _ _ _ s) (λr y=>.inr ?_) (F.Y λr y h=>Ω);have:=((C _ _ _ s).lw y).1;omega
 .refine oX A A hi G h.1 H O (by simpa using B) (by simpa[maxLen]using J) λj p I E s F=>N j p I (C _ _ _ s) (λr y=>?_) (F.Y λr y h=>⟨_,_,_,q,h.symm⟩);have:=((C _ _ _ s).lw y).1;rcases E with E|E
  .exact .inl ⟨_,_,_,q,by show g=r;omega⟩
  .exact .inr Ω
theorem P5{t:o5}{b:Nat}{K:x4->x5->Prop}(a:P.underlying t=σ (.slice e))(hi:aR P e k b z)(h:∀v g I,g=w.heap.size->Ext w I->bj f k e I g v []->K v I):aF P (X2 t 0 #[]) w K:=
 kS a hi Ω (cs:=#[]) (by simp[Instr.fill]) λg I j p q=>by
  exact h _ g I j p ⟨by simpa using b0.full (n:=0) q Ξ (by simp[maxLen]),λc r=>by cases r⟩
end
theorem x3{α:Type}{A B:List α}{s:Nat}{a:α}(J:s<B.length)(e:A[s]?=σ a):(A.take s++B.drop s).set s a=A.take (s+1)++B.drop (s+1):=by
 have f:=(x6.1 e).1;have h1:(A.take s).length=s:=by rw[o8];omega
 rw[T4 _ _ Ω,h1,V2,W3 J,List.set_cons_zero,r9,e,j6,T6];rfl
theorem EM{α:Type}{A B:List α}{s:Nat}(J:s<=A.length):(A.take s++B.drop s)[s]?=B[s]?:=by
 have h1:(A.take s).length=s:=by rw[o8];omega
 rw[Z7 Ω,h1,V2,R3,Nat.add_zero]
theorem EN{g:cQ}:∀{l:List cQ}{i:Nat},(∀p<i,∀x,l[p]?=σ x->di x.1<di g.1)->i<=l.length->(∀x,l[i]?=σ x->¬di x.1<di g.1)->iD g l=l.take i++g::l.drop i
 |[],i,_,a,_=>by
  have:i=0:=by simpa using a
  subst this;rfl
 |x::l,0,_,_,e=>by
  unfold iD;rw[rc (e x rfl)];rfl
 |x::l,i+1,h1,a,e=>by
  unfold iD;rw[ms (h1 0 Ω x rfl),EN (λp ac y f=>h1 (p+1) Ω y f) (by simpa using a) (λy f=>e y f)];rfl
theorem P6{g:Nat}{L:List fD}{h:fD}{s:Nat}{K:Unit->x5->Prop}(f:lR w B g v co L)(F:L[j]?=σ h)(J:s<h.cs.length)(Y:∀I,af (λr=>lw h.ba r) w I->(∀r,lw h.ba r->∃c,ag w r av c)->lR I B g v co (L.set j {h with cs:=h.cs.set s n})->K () I):
  ab v8 (c9 aw h.ba (Δ (s:Int))) w λt=>aF v8 (l9 av t (Δ n)) w K:=by
 obtain⟨h1,P,Q,Z⟩:=f;have N:=(x6.1 F).1;obtain⟨R,aa⟩:=P h (x7 F);obtain⟨_,_,S,G⟩:=id R;have H:∀r,lw h.ba r->∃c,ag w r av c:=λr f=>by
  obtain⟨rfl,_⟩:=bZ G f;obtain⟨_,⟨ad,_⟩|⟨cap,full,_,A,_⟩⟩:=G
  .obtain⟨a,n,c,e,_⟩:=f;rw[ad]at e;cases e
  .exact⟨_,A⟩
 have ae:∀r,r=S->lw h.ba r:=λr he=>by
  subst he;obtain⟨_,⟨_,az⟩|⟨cap,full,e,A,_⟩⟩:=G
  .omega
  .exact⟨_,_,_,e,rfl⟩
 rw[iY rfl aw.u av.i G J];refine iZ av.i G J λI C aA ah=>?_;have C:=C.Y λr _ he=>ae r he;refine Y I C H ⟨?_,λx z=>?_,λp q x y z ai aj r ak al=>?_,Z⟩
 .refine P4 (h1.V C λr f J=>?_) ?_
  .obtain⟨c,A⟩:=H r J;exact cK h1 A Φ f
  .rw[T2];symm;refine X0 λp=>?_;rw[Y7,u4];by_cases ac:j=p
   .subst ac;rw[ms rfl,ms (by simpa using N),F];rfl
   .rw[rc ac]
 .have am:x={h with cs:=h.cs.set s n}\/∃p,p≠j/\L[p]?=σ x:=by
   obtain⟨p,ac⟩:=X8.1 z;rw[Y7]at ac;by_cases E:j=p
   .subst E;rw[ms rfl,ms N]at ac;exact .inl (Z4 ac).symm
   .rw[rc E]at ac;exact .inr ⟨p,λh=>E h.symm,ac⟩
  rcases am with rfl|⟨p,an,ac⟩
  .obtain⟨⟨g1,U⟩,⟨ao,W⟩,_⟩:=R;refine⟨⟨⟨g1,bA U C λr f J=>?_⟩,⟨ao,bA W C λr f J=>?_⟩,S,ah⟩,aa⟩
   .obtain⟨c,A⟩:=H r J;exact ce U A Φ f rfl
   .obtain⟨c,A⟩:=H r J;exact ce W A Φ f rfl
  .obtain⟨ap,aq⟩:=P x (x7 ac);refine⟨oc ap C λr f=>.inr (.inr ⟨H r f,λO=>Q p j x h ac F an r O f⟩),aq⟩
 .have X:∀{p:Nat}{x:fD},(L.set j {h with cs:=h.cs.set s n})[p]?=σ x->∃M,L[p]?=σ M/\M.ba=x.ba:=λ{p x}z=>by
   rw[Y7]at z;by_cases E:j=p
   .subst E;rw[ms rfl,ms N]at z;cases z;exact⟨h,F,rfl⟩
   .rw[rc E]at z;exact⟨x,z,rfl⟩
  obtain⟨M,O,ex⟩:=X z;obtain⟨au,ax,ay⟩:=X ai;exact Q p q M au O ax aj r (by rw[ex];exact ak) (by rw[ay];exact al)
def mB(f:b7)(j:Nat):List cQ:=(((fR f).take j).filter fQ).foldl (λl g=>iD g l) []
theorem EO{f:b7}{x:cQ}(h:(fR f)[j]?=σ x):mB f (j+1)=if fQ x then iD x (mB f j)else mB f j:=by
 unfold mB;rw[r9,h,j6,List.filter_append,S3];cases J:fQ x with
 |true=>rw[List.filter_cons_of_pos J];rfl
 |false=>rw[List.filter_cons_of_neg (by simp[J])];rfl
theorem P7(f:b7):mB f (fR f).length=fS f:=by unfold mB fS;rw[j4]
theorem EP(g:cQ):∀l,(iD g l).length=l.length+1
 |[]=>rfl
 |h::l=>by
  unfold iD;split
  .rw[Y0,EP g l,Y0]
  .rfl
theorem P8{f:b7}(e:j<=(fR f).length):(mB f j).length<=j:=by
 induction j with
 |zero=>simp[mB]
 |succ j a=>
  have:=a Ω;rw[EO (x8 Ω)];split
  .rw[EP];omega
  .omega
theorem P9{g:Nat}{l:x4}{f:b7}{L:List fD}{Q:x4->x5->Prop}(aB:fl N f)(A:lR w B g l f.co L)(aC:L.map dJ=fR f)(bL:∀out I go z,Ext w I->bj dR 3 a7 I go out z->(∀h∈z,h∈L)->(∀h∈z,fV I f.co h)->z.map dJ=fS f->(∀r,lm out r->w.heap.size<=r)->Q out I):
  ab v8 (V0 #[c3] ai #[l]) w λbN=>
 ch (.slice ν 0 0) (Δ 0) w λout aE R bO=>
  ab v8 (aO .lss ai v6 v6 aE bN) R λbP=>
  Split bP (cC (α:=x4->x5->Prop) (λ(bR:x4)(S:x5)=>
   ab v8 (aO .add ai v6 v2 aE (Δ 1)) S λbS=>
   bO bR bS S) λba=>
  ab v8 (c9 c3 l aE) R λbT=>
  ab v8 (u6 a7 bT) R λbV=>
  aF v8 (Instr.alloc a7 v2 (.tuple #[])) R λak bb=>
  aF v8 (l9 a7 ak bV) bb λ(_:Unit)O=>
  ab v8 (u7 a7 ak 2) O λbY=>
  ab v8 (u6 aw bY) O λbc=>
  ab v8 (V0 #[aw] ai #[bc]) O λbZ=>
  ch (.bool v6) (Δ 0) O λbd aG C b0=>
   ab v8 (aO .lss ai v6 v6 aG bZ) C λb1=>
   Split b1 (cC (α:=x4->x5->Prop) (λ(b3:x4)(Z:x5)=>
    ab v8 (aO .add ai v6 v2 aG (Δ 1)) Z λb5=>
    b0 b3 b5 Z) λbe=>
   ab v8 (c9 aw bc aG) C λb8=>
   ab v8 (u6 av b8) C λca=>
   Split bd (be (.bool v2) C)
    (ab v8 (aO .gtr av v6 v2 ca (Δ 0)) C λcb=>
   be cb C))
    (ab v8 (Op.unary .not bd) C λcc=>
  Split cc (ba out C)
   (bW (Δ 0) C λi an ce=>
   cC (α:=x4->x5->Prop) (λ(cf:x4)(W:x5)=>
    Split cf (ab v8 (aO .add ai v6 v2 i (Δ 1)) W λcg=>
   ce cg W)
     (ei W λP=>
  ab v8 (u6 a7 ak) P λci=>
  ab v8 (U4 c3 out (σ i) ν ν) P λbf=>
  aF v8 (X2 c3 1 #[(0,ci)]) P λck aa=>
   (Ext P aa\/b2 v8 (U4 c3 out (σ i) ν ν) bf aa/\True)/\
  aF v8 (Z9 #[c3,c3] c3 #[ck,bf]) aa λcl bg=>
   aF v8 (X2 c3 0 #[]) bg λcm ao=>
  ab v8 (U4 c3 out ν (σ i) ν) ao λcn=>
  aF v8 (Z9 #[c3,c3] c3 #[cm,cn]) ao λcp bh=>
  aF v8 (Z9 #[c3,c3] c3 #[cp,cl]) bh λcq bi=>
  ba cq bi)) λbl=>
   ei an λG=>
   ab v8 (V0 #[c3] ai #[out]) G λcr=>
   ab v8 (aO .lss ai v6 v6 i cr) G λct=>
   Split ct (ab v8 (c9 c3 out i) G λcu=>
   ab v8 (u6 a7 cu) G λcw=>
   ab v8 (u6 a7 ak) G λcz=>
   al v8 AL [cw,cz] G λcA bm=>
    bl cA bm)
    (bl (.bool v6) G))))
   (Q out R):=by
 have cB:L.length=(fR f).length:=by rw[<-aC,r8]
 have dh:L.length<=256:=by have:=(mr aB).2.2;have:=aB.mm;omega
 have bn:=(mr aB).1;rw[ew c3.u A.1];refine ch.range L.length (λj out U=>∃go z,Ext w U/\bj dR 3 a7 U go out z/\(∀h∈z,h∈L)/\z.map dJ=mB f j/\∀r,lm out r->w.heap.size<=r) A.1.le
  ⟨0,[],Ext.refl _,bj.nil _ _ _ _ _,λh au=>(by cases au),rfl,λr A=>(fm A).elim⟩ ?_ ?_
 rotate_left
 .rintro out U cD ⟨go,z,bo,ad,K,ae,aH⟩;rw[aS,am];refine⟨λh=>Ω,λ_=>bL _ _ go z bo ad K (λh au=>((A.W bo).2.1 h (K h au)).1) ?_ aH⟩;rw[ae,cB,P7]
 rintro j out R cD bp ⟨go,z,ap,ad,K,ae,aH⟩ cE;obtain⟨h,au⟩:=aD (l:=L) bp;have hm:(fR f)[j]?=σ (dJ h):=by rw[<-aC,u4,au];rfl
 have cF:=bn _ (x7 hm);have dj:z.length<=256:=by
  have:=P8 (f:=f) (j:=j) Ω;rw[<-ae,r8]at this;omega
 have af:=A.W ap;obtain⟨aI,_⟩:=af.2.1 h (x7 au);obtain⟨_,_,dk,cG⟩:=id aI;refine bG Ω ?_;refine aZ (λaJ S=>∃aK ag,Ext w S/\bj dR 3 a7 S aK aJ ag/\(∀h∈ag,h∈L)/\ag.map dJ=mB f (j+1)/\∀r,lm aJ r->w.heap.size<=r) ?_ ?_
 .rintro aJ S ⟨aK,ag,h1,cH,cI,cJ,cK⟩;rw[aP];exact cE _ _ ⟨aK,ag,h1,cH,cI,cJ,cK⟩
 intro ax ah;rw[cj rfl c3.u a7.i af.1 bp,bC a7.p a7.i rfl (af.1.range au)];refine bF a7.i λbq bb dl cL cM=>?_;refine b6 (vs:=dR h) a7.i rfl rfl aI.one cM λO cN dm br=>?_;have bs:=cL.put cN Ω;have aM:=cG.W bs;rw[aL a7.p 2 br rfl,a1 aw.u aM.ls];refine ch.range h.cs.length (λq sv C=>Ext O C/\sv= .bool ((h.cs.take q).any λc=>decide (0<c))) aM.ls.le ⟨Ext.refl _,rfl⟩ ?_ ?_
 .rintro q _ C cO cP ⟨X,rfl⟩ cQ;obtain⟨c,bt⟩:=aD (l:=h.cs) cP;have e:(h.cs.take (q+1)).any (λc=>decide (0<c))=((h.cs.take q).any (λc=>decide (0<c))||decide (0<c)):=by
   rw[r9,bt,j6,List.any_append];simp
  refine bG Ω ?_;refine aZ (λsv Z=>Ext O Z/\sv= .bool ((h.cs.take (q+1)).any λc=>decide (0<c))) ?_ ?_
  .rintro _ Z ⟨cR,rfl⟩;rw[aP];exact cQ _ _ ⟨cR,rfl⟩
  intro ax ah;rw[bk aw.u av.i Ψ (aM.W X).ls bt,b4];refine⟨λcS=>ah _ _ ⟨X,by rw[e,cS];rfl⟩,λcT=>?_⟩;rw[bU];exact ah _ _ ⟨X,by rw[e,cT];rfl⟩
 rintro _ C cO ⟨X,rfl⟩;have bu:=br.W X;have M:=bs.F X;rw[j4];refine cd Ω ?_;rw[bM,b4];have aq:=EO hm;have cU:(h.cs.any λc=>decide (0<c))=fQ (dJ h):=rfl;rw[cU];refine⟨λaN=>?_,λJ=>?_⟩
 .have aN:fQ (dJ h)=v6:=by simpa using aN
  rw[aN]at aq;exact ah _ _ ⟨go,z,ap.F M,ad.W M,K,by rw[ae,aq];rfl,aH⟩
 have J:fQ (dJ h)=v2:=by simpa using J
 rw[J,ms rfl]at aq;refine⟨λaQ an=>∃i:Nat,aQ=Δ (i:Int)/\i<=z.length/\Ext C an/\∀p<i,∀x,z[p]?=σ x->di x.sc<di h.sc,λaQ _=>z.length-(bX aQ).toNat,⟨0,rfl,W0 _,Ext.refl _,λp ac=>Ω⟩,?_⟩;rintro _ an ⟨i,rfl,hi,cV,aR⟩;refine aZ (λaT W=>Ext C W/\((aT= .bool v2/\i<z.length/\∀x,z[i]?=σ x->di x.sc<di h.sc)\/(aT= .bool v6/\∀x,z[i]?=σ x->¬di x.sc<di h.sc))) ?_ ?_
 rotate_left
 .intro dn aU;intro G cW _ _;have Y:=cV.F cW;have aV:=ad.W (M.F Y);rw[ew c3.u aV,aS,am];refine⟨λaR=>?_,λdp=>aU _ _ ⟨Y,.inr ⟨rfl,λx s=>ro (x6.1 s).1 Ω⟩⟩⟩;obtain⟨x,s⟩:=aD (l:=z) (i:=i) Ω;have bw:=K x (x7 s);have cX:=(bn (dJ x) (by rw[<-aC];exact j5.2 ⟨x,bw,rfl⟩)).scope;have bx:=af.W (M.F Y);rw[cj rfl c3.u a7.i aV Ω,bC a7.p a7.i rfl (aV.range s),bC a7.p a7.i rfl (show G.rangeAt bq 0 (dR h)from(bu.W Y).range)];refine(P3 (bx.2.1 x bw).1 (bx.2.1 h (x7 au)).1 cX cF.scope).Y ?_;rintro _ bm _ ⟨rfl,bz⟩;by_cases ay:di x.sc<di h.sc
  .rw[rs ay];exact aU _ _ ⟨Y.F bz,.inl ⟨rfl,Ω,λy E=>by rw[s]at E;cases E;exact ay⟩⟩
  .rw[s2 ay];exact aU _ _ ⟨Y.F bz,.inr ⟨rfl,λy E=>by rw[s]at E;cases E;exact ay⟩⟩
 rintro _ W ⟨bA,⟨rfl,dq,cY⟩|⟨rfl,cZ⟩⟩
 .rw[bQ,aP,m1 Ω Ω];refine⟨⟨i+1,rfl,Ω,bA,λp ac x s=>?_⟩,by simp only[bX];omega⟩;by_cases c0:p=i
  .subst c0;exact cY x s
  .exact aR p Ω x s
 .rw[a6];intro P c1 _ _;have aj:=bA.F c1;have az:=ad.W (M.F aj);have c2:=af.W (M.F aj);have aW:∀x∈z,∀u∈dR x,u.oneCell'=v2:=λx s=>(c2.2.1 x (K x s)).1.one;have c4:∀u∈dR h,u.oneCell'=v2:=aI.one;rw[bC a7.p a7.i rfl (show P.rangeAt bq 0 (dR h)from(bu.W aj).range)];refine EL c3.u a7.i az (oS i _ rfl) kR hi (o4 _) λdr bB=>?_;refine jc c3.u a7.i Ω rfl rfl λds dt aa du aX bD=>?_;refine⟨.inl aX,?_⟩;have c5:(z.drop i).take (z.length-i)=z.drop i:=Z0 (by rw[List.length_drop];omega);rw[c5]at bB;refine x2 c3.u a7.i rfl bD (bB aa (az.W aX)) (λ_ _=>rfl) (λa H=>aW a (List.mem_of_mem_drop H)) Θ Θ λdv dw bg aY dx c6=>?_;have bE:=aX.then c6 λr A he=>by have:=(bD.lw he).1;omega
  refine P5 (f:=dR) (k:=3) c3.u a7.i λdy dz ao dA a2 aA=>?_;have a8:=bE.F a2;refine EL c3.u a7.i (az.W a8) jW (oT i _ rfl) (W0 _) hi λdC bH=>?_;rw[List.drop_zero,Nat.sub_zero]at bH;refine x2 c3.u a7.i rfl aA (bH ao (az.W a8)) (λ_ _=>rfl) (λa H=>aW a (T1 H)) Θ Θ λc7 dD bh c8 da bI=>?_;have dE:=bE.size;have dF:=a2.size;have db:=(aY.W a2).V bI λr A J=>by have:=(aY.lw A).1;have:=(aY.lw A).2;have:=(aA.lw J).1;omega
  refine x2 c3.u a7.i rfl c8 db.sl (λ_ _=>rfl) (λa H=>?_) Θ Θ λdG dc bi dd de df=>?_
  .rcases j9.1 H with H|H
   .rw[b9.1 H];exact c4
   .exact aW a (List.mem_of_mem_drop H)
  have bJ:=a8.then bI λr A he=>by have:=(aA.lw he).1;omega
  have bK:∀r,lm c7 r->P.heap.size<=r:=λr A=>(da r A).elim (λh=>by have:=(aA.lw h).1;omega) λh=>Ω
  have dg:=bJ.then df λr A he=>by have:=bK r he;omega
  have dH:=(ap.F (M.F aj)).size;have dI:=bJ.size;refine ah _ _ ⟨dc,_,(ap.F (M.F aj)).F dg,dd,λx s=>?_,?_,λr A=>(de r A).elim (λh=>by have:=bK r h;omega) λh=>Ω⟩
  .rcases j9.1 s with s|s
   .exact K x (T1 (by simpa using s))
   .rcases j9.1 s with s|s
    .rw[b9.1 s];exact x7 au
    .exact K x (List.mem_of_mem_drop s)
  .rw[aq,<-ae,EN (λp ac x s=>?_) (by simpa using hi) (λx s=>?_)]
   .simp
   .rw[u4]at s;cases E:z[p]? with
    |none=>rw[E]at s;cases s
    |some y=>rw[E]at s;cases s;exact aR p ac y E
   .rw[u4]at s;cases E:z[i]? with
    |none=>rw[E]at s;cases s
    |some y=>rw[E]at s;cases s;exact cZ y E
def Qa(w:x5)(f:b7)(v:x4)(I:x5):Prop:=Ext w I/\∃go a,bj dR 3 a7 I go v a/\(∀h∈a,fV I f.co h/\∀r,qE h r->w.heap.size<=r)/\a.map dJ=fS f/\∀r,lm v r->w.heap.size<=r
def mC(k:Int)(sc cs:Λ)(h:cQ):cQ:=if h.1=sc then(h.1,ev k h.2 cs)else h
theorem Qb{bI:Nat}{f:b7}(cF:pv w bI f)(Q:fl N f):al v8 IT [Γ bI] w (Qa w f):=by
 have hk:=Q.k;obtain⟨lc,gz,aq,gr,aW,bJ,cG⟩:=id cF;obtain⟨X,aX,cH,cI⟩:=id cG;refine aB func137 ?_;rw[aK ej.p 3 aW rfl,ew dD.u aX];refine ch.range X.length (λi l U=>∃g L,Ext w U/\lR U w.heap.size g l f.co L/\L.map dJ=eX f i) aX.le
  ⟨0,[],Ext.refl _,⟨bj.nil _ _ _ _ _,λh au=>(by cases au),λi j x y aY=>(by simp at aY),λr A=>(fm A).elim⟩,rfl⟩ ?_ ?_
 rotate_left
 .rintro l U cJ ⟨g,L,R,A,S⟩;rw[<-cH,D5]at S;rw[aS,am];refine⟨λh=>Ω,λ_=>P9 Q A S λout I go cK aY a2 cL W cM cN=>?_⟩;have cO:=R.size;exact⟨R.F aY,go,cK,a2,λh au=>⟨W h au,(A.2.1 h (cL h au)).2⟩,cM,λr A=>by have:=cN r A;omega⟩
 rintro i l U cJ hi ⟨g,L,R,A,S⟩ cP;obtain⟨a6,bK⟩:=aD (l:=X) hi;obtain⟨x,a8⟩:=aD (l:=f.d9) (i:=i) Ω;have bb:=x7 a8;have bd:=cI i a6 x bK a8;have bL:=qv Q bb;obtain⟨cQ,dA,dC⟩:=D4 Q i;have bO:L.length=(eX f i).length:=by rw[<-S,r8]
 have dE:=Q.mm;have bP:=aX.W R;refine bG Ω ?_;refine aZ (λl' aa=>∃g L,Ext w aa/\lR aa w.heap.size g l' f.co L/\L.map dJ=eX f (i+1)) ?_ ?_
 .rintro l' aa bf;rw[aP];exact cP _ _ bf
 intro ax bQ;rw[cj rfl dD.u be.i bP hi,bC be.p be.i rfl (bP.range bK)];refine bF be.i λao dF dG cR cS=>?_;refine b6 (vs:=fC a6) be.i rfl rfl bd.one cS λdH cT dI cU=>?_;have bR:=cR.put cT Ω;have dK:=bR.size;refine aZ (λbc ay=>∃E c,bc=Γ E/\Ext U ay/\ag ay E a7 (dR c)/\c.sc=bw x.scope/\c.cs=(jz f.co f.k x).2/\fV ay f.co c/\U.heap.size<=E/\∀r,qE c r->U.heap.size<=r) ?_ ?_
 rotate_left
 .intro dL bS;intro cV bT _ _;have az:=bR.F bT;have aA:=R.F az;have cW:=cU.W bT;have bU:=aW.W aA;have dM:=az.size;rw[bC be.p be.i rfl (show cV.rangeAt ao 0 (fC a6)from cW.range),aK ej.p 2 bU rfl,aK ej.p 1 bU rfl];refine⟨?_,?_⟩
  .refine (EJ (bd.W aA) Q bb (bJ.W aA)).Y ?_;rintro _ dN _ ⟨bg,c,rfl,h1,bh,W,M⟩;refine bF a7.i λE dO bV bi aC=>?_;refine⟨.inl (bg.F bi),?_⟩;refine b6 (vs:=dR c) a7.i rfl rfl W.one aC λdP bX dQ cX=>?_;have dS:=bg.size;refine bS _ _ ⟨E,c,rfl,(az.F bg).F (bi.then bX λr A he=>by have he:r=E:=he;omega),cX,h1,bh,?_,Ω,λr A=>by have:=M r A;omega⟩;exact oc (W.W bi) bX λr A=>.inl ⟨_,_,by have A:r=E:=A;subst A;exact aC,Φ,Φ⟩
  .refine bF a7.i λE dT bV aF aC=>?_;refine⟨.inl aF,?_⟩;have bY:=aA.F aF;refine(EJ (bd.W bY) Q bb (bJ.W bY)).Y ?_;rintro _ dU _ ⟨b0,c,rfl,h1,bh,W,M⟩;have b1:=aC.W b0;have dV:=aF.size;refine b6 (vs:=dR c) a7.i rfl rfl W.one b1 λdW b2 dX cY=>?_;refine bS _ _ ⟨E,c,rfl,az.F ((aF.F b0).then b2 λr A he=>by have he:r=E:=he;omega),cY,h1,bh,?_,Ω,λr A=>by have:=M r A;omega⟩;exact oc W b2 λr A=>.inl ⟨_,_,by have A:r=E:=A;subst A;exact b1,Φ,Φ⟩
 rintro _ ay ⟨E,c,rfl,bl,cZ,ah,aG,c0,bV,M⟩;have b3:=A.W bl;have c1:∀h∈L,∀r,lw h.ba r->r<U.heap.size:=λh au r c2=>by
  obtain⟨⟨_,_,c4,b5⟩,_⟩:=A.2.1 h au;have:=bZ b5 c2;omega
 have c5:∀{j:Nat},decide (c.sc∈(L.take j).map (·.sc))=decide (bw x.scope∈((eX f i).take j).map (·.1)):=λ{j}=>by
  rw[ah,<-S,<-List.map_take,S6];rfl
 have cO:=R.size;rw[ew c3.u b3.1];refine ch.range L.length (λj aq O=>∃C,aq= .bool (decide (c.sc∈(L.take j).map (·.sc)))/\Ext w O/\U.heap.size<=O.heap.size/\lR O w.heap.size g l f.co C/\C.map dJ=((eX f i).map (mC f.k c.sc c.cs)).take j++(eX f i).drop j/\ag O E a7 (dR c)/\fV O f.co c/\∀h∈C,∀r,lw h.ba r->r<U.heap.size) A.1.le
  ⟨L,Ξ,R.F bl,bl.size,b3,by simpa using S,cZ,c0,c1⟩ ?_ ?_
 .rintro j _ O c6 b8 ⟨C,rfl,aj,c7,aH,K,bm,bn,Y⟩ c8;have c9:C.length=L.length:=by
   have:=congrArg Q2 K;simp only[r8,o9,o8,List.length_drop]at this;omega
  obtain⟨h,au⟩:=aD (l:=C) (i:=j) Ω;have aI:(eX f i)[j]?=σ (dJ h):=by
   have ca:(C.map dJ)[j]?=σ (dJ h):=by rw[u4,au];rfl
   rw[K,EM (by rw[r8];omega)]at ca;exact ca
  have aJ:((eX f i).map (mC f.k c.sc c.cs))[j]?=σ (mC f.k c.sc c.cs (dJ h)):=by rw[u4,aI];rfl
  have da:∃y,L[j]?=σ y/\y.sc=h.sc:=by
   refine⟨_,x8 b8,?_⟩;rw[<-S,u4,x8 b8]at aI;exact congrArg Prod.fst (Z4 aI)
  obtain⟨y,H,db⟩:=da;have bo:(c.sc∈(L.take (j+1)).map (·.sc))↔c.sc∈(L.take j).map (·.sc)\/h.sc=c.sc:=by
   rw[r9,H,j6,Z3,j9,List.map_singleton,b9,db];exact or_congr Iff.rfl ⟨λe=>e.symm,λe=>e.symm⟩
  have cb:=cQ _ (x7 aI);refine bG Ω ?_;refine aZ (λaq P=>∃C,aq= .bool (decide (c.sc∈(L.take (j+1)).map (·.sc)))/\Ext w P/\U.heap.size<=P.heap.size/\lR P w.heap.size g l f.co C/\C.map dJ=((eX f i).map (mC f.k c.sc c.cs)).take (j+1)++(eX f i).drop (j+1)/\ag P E a7 (dR c)/\fV P f.co c/\∀h∈C,∀r,lw h.ba r->r<U.heap.size) ?_ ?_
  .rintro dZ P bf;rw[aP];exact c8 _ _ bf
  intro ea cc;intro dc ak _ _;have aM:=aH.W ak;have ce:=bm.W ak;have cf:=bn.W ak;obtain⟨dd,eb⟩:=aM.2.1 h (x7 au);obtain⟨⟨g1,h1⟩,_,c4,b5⟩:=id dd;obtain⟨⟨ec,de⟩,_,ed,cg⟩:=id cf;rw[cj rfl c3.u a7.i aM.1 Ω,aU a7.p rfl,aE Ψ (aM.1.range au 0 _ rfl),aL a7.p 0 ce rfl];refine(LC h1.ls de.ls).Y ?_;rintro _ ee _ ⟨rfl,ad⟩;have ci:=aM.W ad;have bp:=ce.W ad;have ck:=cf.W ad;have cl:=(aj.F ak).F ad;have z9:=(ak.F ad).size;rw[am];refine⟨λbq=>?_,λcm=>?_⟩
  rotate_left
  .refine cc _ _ ⟨C,?_,cl,Ω,ci,?_,bp,ck,Y⟩
   .congr 1;exact decide_eq_decide.2 ⟨λh=>bo.2 (.inl h),λh=>(bo.1 h).resolve_right cm⟩
   .have e:mC f.k c.sc c.cs (dJ h)=dJ h:=rc cm;rw[e]at aJ;rw[<-x3 Ω aJ,<-K];symm;refine X0 λp=>?_;rw[Y7];by_cases ac:j=p
    .subst ac;rw[ms rfl,ms Θ,u4,au];rfl
    .rw[rc ac]
  have df:h.cs.length=c.cs.length:=by
   have dg:h.cs.length=_:=cb.len;have dh:c.cs.length=(aQ (bN f.co (jz f.co f.k x).1)).toNat:=by rw[aG];exact bL.len
   rw[dg,dh,show(dJ h).1=h.sc from rfl,bq,ah];rfl
  have ef:(ev f.k h.cs c.cs).length=h.cs.length:=by unfold ev;rw[List.length_zipWith];omega
  rw[aL a7.p 2 bp rfl,a1 aw.u (cg.W ad).ls];refine bW.range c.cs.length (λs Z=>Ext w Z/\U.heap.size<=Z.heap.size/\lR Z w.heap.size g l f.co (C.set j {h with cs:=(ev f.k h.cs c.cs).take s++h.cs.drop s})/\ag Z E a7 (dR c)/\fV Z f.co c) cg.ls.le
   ⟨cl,Ω,?_,bp,ck⟩ ?_ ?_
  .have e:C.set j {h with cs:=(ev f.k h.cs c.cs).take 0++h.cs.drop 0}=C:=by
    refine X0 λp=>?_;rw[Y7];by_cases ac:j=p
    .subst ac;rw[ms rfl,ms Ω,au];rfl
    .rw[rc ac]
   rw[e];exact ci
  .rintro s Z di J ⟨br,cn,aN,bs,bt⟩ dj;refine bG Ω ?_;intro eg an _ _;have ae:=aN.W an;have cp:=bs.W an;have cq:=bt.W an;have cr:=br.F an;have aO:(C.set j {h with cs:=(ev f.k h.cs c.cs).take s++h.cs.drop s})[j]?=σ {h with cs:=(ev f.k h.cs c.cs).take s++h.cs.drop s}:=by
    rw[Y7,ms rfl,ms Ω]
   have ct:j<(C.set j {h with cs:=(ev f.k h.cs c.cs).take s++h.cs.drop s}).length:=by rw[o7];omega
   obtain⟨⟨_,_,dk,bu⟩,dl⟩:=ae.2.1 _ (x7 aO);obtain⟨_,_,eh,dm⟩:=id cq;obtain⟨a,bx⟩:=aD (l:=h.cs) (i:=s) Ω;obtain⟨b,ap⟩:=aD (l:=c.cs) J;have dn:s<({h with cs:=(ev f.k h.cs c.cs).take s++h.cs.drop s}:fD).cs.length:=by show s<((ev f.k h.cs c.cs).take s++h.cs.drop s).length;rw[o9,o8,List.length_drop];omega
   have dp:((ev f.k h.cs c.cs).take s++h.cs.drop s)[s]?=σ a:=by rw[EM Ω];exact bx
   have bz:(ev f.k h.cs c.cs)[s]?=σ (min (a+b) f.k):=by
    unfold ev;rw[List.getElem?_zipWith,bx,ap]
   have ei:=cb.jd a (x7 bx);have ek:=bL.jd b (by rw[<-aG];exact x7 ap);have dq:=aW.W cr;rw[cj rfl c3.u a7.i ae.1 ct,aU a7.p rfl,aE Ψ (ae.1.range aO 2 _ rfl),cj rfl c3.u a7.i ae.1 ct,aU a7.p rfl,aE Ψ (ae.1.range aO 2 _ rfl),bk aw.u av.i Ψ bu.ls dp,aL a7.p 2 cp rfl,bk aw.u av.i Ψ dm.ls ap,aK ej.p 1 dq rfl];refine(n0 Ω Ω).Y ?_;rintro _ em _ ⟨rfl,af⟩;refine⟨.inl af,?_⟩;have z12:=(an.F af).size;refine P6 (ae.W af) aO dn λen aR cu bA=>?_;rw[aP];have dr:=cq.W af;have cw:=cp.W af;have eo:=aR.size;refine dj _ ⟨(cr.F af).then aR λr A he=>by have:=dl r (.inl he);omega,Ω,?_,?_,?_⟩
   .rw[List.set_set]at bA;have e:=x3 (B:=h.cs) (s:=s) Ω bz;simp only[e]at bA;exact bA
   .exact cw.V aR λJ=>by
     obtain⟨ep,ds⟩:=cu _ J;exact ro (fp cw ds) Φ
   .refine oc dr aR λr A=>.inr (.inr ⟨cu r A,λdt=>?_⟩);have:=M r (.inl dt);have:=Y h (x7 au) r A;omega
  .rintro Z di ⟨br,cn,aN,bs,bt⟩;refine cd Ω ?_;have e:(ev f.k h.cs c.cs).take c.cs.length++h.cs.drop c.cs.length=ev f.k h.cs c.cs:=by
    rw[<-df,List.drop_length,U2,Z0 Ω]
   simp only[e]at aN;refine cc _ _ ⟨_,?_,br,cn,aN,?_,bs,bt,λz G r A=>?_⟩
   .congr 1;symm;exact rs (bo.2 (.inr bq))
   .have du:mC f.k c.sc c.cs (dJ h)=dJ {h with cs:=ev f.k h.cs c.cs}:=ms bq;rw[du]at aJ;rw[T2,K,x3 Ω aJ]
   .rcases W8 G with G|rfl
    .exact Y z G r A
    .exact Y h (x7 au) r A
 rintro _ O c6 ⟨C,rfl,aj,c7,aH,K,bm,bn,Y⟩;refine cd Ω ?_;rw[c5,bO,j4,bM,b4];have cz:=xF a8;have bz:((eX f i).map (mC f.k c.sc c.cs)).take L.length++(eX f i).drop L.length=(eX f i).map (mC f.k c.sc c.cs):=by
  rw[bO,List.drop_length,U2,Z0 (by rw[r8];exact o4 _)]
 rw[bz]at K;have c9:C.length=L.length:=by
  have:=congrArg Q2 K;rw[r8,r8]at this;omega
 refine⟨λaT=>?_,λbB=>?_⟩
 .have aT:bw x.scope∉(eX f i).map (·.1):=by simpa using aT
  have dv:(eX f i).map (mC f.k c.sc c.cs)=eX f i:=by
   refine(List.map_congr_left λz G=>?_).F (List.map_id _);exact rc λhe=>aT (j5.2 ⟨z,G,by rw[he,ah]⟩)
  rw[dv]at K;rw[bC a7.p a7.i rfl (show O.rangeAt E 0 (dR c)from bm.range)];refine jc c3.u a7.i Ω rfl rfl λer dk P es aV bu=>?_;have ab:=aH.W aV;have cA:=bn.W aV;refine jC c3.u a7.i rfl ab.1 (by simpa using bu.sl) cA.one Ω Ω λet dw dc a2 dx bD=>?_;have cB:∀r,lm l r->∃e c,ag P r e c/\e≠ai/\e≠av:=λr A=>by
   obtain⟨rfl,c,ap⟩:=dY ab.1 A;exact⟨_,c,ap,Φ,Φ⟩
  have eu:=aV.size;have ey:=aj.size;refine bQ _ _ ⟨dw,C++[c],(aj.F aV).then bD λr A he=>by have:=ab.2.2.2 r he;omega,⟨a2,λz G=>?_,λp q y z H G dy r bE bH=>?_,λr A=>(dx r A).elim (ab.2.2.2 r) λh=>Ω⟩,?_⟩
  .rcases j9.1 G with G|G
   .exact⟨oc (ab.2.1 z G).1 bD λr A=>.inl (cB r A),(ab.2.1 z G).2⟩
   .rw[b9.1 G];exact⟨oc cA bD λr A=>.inl (cB r A),λr A=>by have:=M r A;omega⟩
  .have cC:∀{p:Nat}{y:fD},(C++[c])[p]?=σ y->C[p]?=σ y\/(p=C.length/\y=c):=λ{p y}H=>by
    rw[List.getElem?_append]at H;split at H
    .exact .inl H
    .by_cases dz:p-C.length=0
     .rw[dz]at H;cases H;exact .inr ⟨Ω,rfl⟩
     .rw[Y5 Θ]at H;cases H
   rcases cC H with cD|⟨ez,rfl⟩<;>rcases cC G with cE|⟨eq,rfl⟩
   .exact ab.2.2.1 p q y z cD cE dy r bE bH
   .have:=Y y (x7 cD) r bE;have:=M r (.inl bH);omega
   .have:=Y z (x7 cE) r bH;have:=M r (.inl bE);omega
   .omega
  .rw[Z3,K,cz,D3 λz G he=>aT (j5.2 ⟨z,G,he⟩)];show _++[(c.sc,c.cs)]=_;rw[ah,aG];rfl
 .have bB:bw x.scope∈(eX f i).map (·.1):=by simpa using bB
  refine bQ _ _ ⟨g,C,aj,aH,?_⟩;rw[K,cz];unfold jA;rw[ms (show(jz f.co f.k x).1∈_ from bB)];refine List.map_congr_left λz _=>?_;unfold mC;rw[ah,aG];rfl
def x9(w:x5)(B:Nat)(v:x4)(n:aH):Prop:=∃lc gz a f aX e gr L,v= .agg #[Δ n.k,lc,Δ n.zero,a,e]/\aA .i64 ai w gz lc n.co/\iJ w f a aX/\aX.map (·.l)=n.unary/\bj dR 3 a7 w gr e L/\(∀h∈L,fV w n.co h)/\L.map dJ=n.d9/\(∀r,lw lc r->B<=r)/\∀h∈L,∀r,qE h r->B<=r
def z9:List x4:=[Δ 0,.slice ν 0 0,Δ 0,.slice ν 0 0,.slice ν 0 0]
def od(w:x5)(C gt gs go:Nat)(lc ba:x4)(f:b7)(a:List fD)(I:x5):Prop:=Ext w I/\C<=I.heap.size/\ag I gt dT z9/\aA .i64 ai I gs lc f.co/\bj dR 3 a7 I go ba a/\(∀r,lm ba r->r<C)/\∀h∈a,fV I f.co h
theorem od.W{aa:x5}{C gt go:Nat}{ba:x4}{f:b7}{e:List fD}(h:od w C gt gs go lc ba f e I)(a:Ext I aa):od w C gt gs go lc ba f e aa:=by
 obtain⟨h1,z,j,p,q,r,s⟩:=h;have:=a.size;exact⟨h1.F a,Ω,j.W a,p.W a,q.W a,r,λx y=>(s x y).W a⟩
def Qc(w I:x5)(C gt:Nat)(r:Nat):Prop:=w.heap.size<=r/\r≠gt/\((∃c,ag I r dT c)\/(∃c,ag I r aw c)\/((∃c,ag I r a7 c)/\C<=r))
theorem od.V{aa:x5}{C gt go:Nat}{ba:x4}{f:b7}{y:List fD}(h:od w C gt gs go lc ba f y I)(p:af S I aa)(q:∀r,S r->Qc w I C gt r):od w C gt gs go lc ba f y aa:=by
 obtain⟨h1,K,E,z,s,A,F⟩:=h;have:=p.size;have B:∀r,S r->∃e c,ag I r e c/\e≠ai/\e≠av:=λr j=>by
  obtain⟨_,_,⟨c,a⟩|⟨c,a⟩|⟨⟨c,a⟩,_⟩⟩:=q r j
  .exact⟨_,c,a,Φ,Φ⟩
  .exact⟨_,c,a,Φ,Φ⟩
  .exact⟨_,c,a,Φ,Φ⟩
 refine⟨h1.then p λr j J=>by have:=(q r J).1;omega,Ω,E.V p λJ=>(q _ J).2.1 rfl,bA z p λr j J=>?_,s.V p λr j J=>?_,A,λx G=>oc (F x G) p λr j=>.inl (B r j)⟩
 .obtain⟨e,c,a,H,_⟩:=B r J;exact ce z a (λhe=>H he.symm) j rfl
 .obtain⟨_,_,⟨c,a⟩|⟨c,a⟩|⟨_,L⟩⟩:=q r J
  .exact cK s a Φ j
  .exact cK s a Φ j
  .have:=A r j;omega
def EQ(w:x5)(C f:Nat)(lc:x4)(k:Int)(n:aH)(j:List fD)(I:x5):Prop:=∃a p aX e gr L,ag I f dT [Δ k,lc,Δ n.zero,a,e]/\iJ I p a aX/\aX.map (·.l)=n.unary/\(∀r,lm a r->w.heap.size<=r)/\bj dR 3 a7 I gr e L/\(∀h∈L,h∈j)/\L.map dJ=n.d9/\∀r,lm e r->C<=r
theorem ER{bT:Nat}{f:b7}(bU:pv w bT f)(Q:fl N f):al v8 Ia [Γ bT] w λv I=>Ext w I/\x9 I w.heap.size v (cf f):=by
 have hk:=Q.k;have dx:=Q.co.2.1;obtain⟨dy,dz,dA,dC,bV,bX,dD⟩:=id bU;refine aB func64 ?_;refine bF dT.i λgt U dE aR aS=>?_;have aS:=aS;rw[aK ej.p 1 (bV.W aR) rfl,dm (cs:=#[Δ f.k,.slice ν 0 0,Δ 0,.slice ν 0 0,.slice ν 0 0]) Ψ];refine bF dT.i λA aa dF bY cL=>?_;refine b6 (vs:=[Δ f.k,.slice ν 0 0,Δ 0,.slice ν 0 0,.slice ν 0 0]) dT.i rfl rfl (by intro u hu;simp at hu;rcases hu with rfl|rfl|rfl|rfl<;>rfl) cL λdG b1 dH cM=>?_;have bq:=(aR.F bY).then b1 λr q he=>by have he:r=A:=he;have:=aR.size;omega
 have dK:=aS.lt;have E:A≠gt:=Ω
 have cN:=(aS.W bY).V b1 λhe=>by have he:=he;omega
 rw[aK ej.p 2 (bV.W bq) rfl,a1 aw.u (bX.W bq).ls];have dL:=aR.size;refine bW.range f.co.length (λi W=>Ext w W/\ag W gt dT z9/\∃lc gs B H aX,ag W A dT [Δ f.k,lc,Δ 0,B,.slice ν 0 0]/\aA .i64 ai W gs lc (f.co.take i)/\(∀r,lw lc r->w.heap.size<=r)/\iJ W H B aX/\aX.map (·.l)=(f.co.take i).map (λz=>o6 z.toNat 0)/\∀r,lm B r->w.heap.size<=r) Ω
  ⟨bq,cN,_,0,_,0,[],cM,aA.nil _ _ _ _,(λr q=>by obtain⟨a,n,c,cO,dM⟩:=q;cases cO),⟨bj.nil _ _ _ _ _,λx br=>(by cases br)⟩,rfl,λr q=>(fm q).elim⟩ ?_ ?_
 .rintro i W cP hi ⟨X,bs,lc,gs,B,H,aX,aC,aT,aV,bu,aF,aW⟩ cQ;obtain⟨z,C⟩:=aD (l:=f.co) hi;have dN:=Q.co.2.2 z (x7 C);have dO:aX.length=i:=by have:=congrArg Q2 aF;simp only[r8,o8]at this;omega
  refine bG Ω ?_;rw[bk aw.u av.i Ψ (bX.W X).ls C,aL dT.p 1 aC rfl];refine eT aq.u ai.i rfl λa5 dP b2 dQ ae cR=>?_;have aG:=aT.W ae;refine jg aq.u ai.i rfl aG cR.ls Θ Θ λb3 b4 dS aY cS b5=>?_;have bw:=aC.W ae;have b8:=bs.W ae;have ca:=bw.V b5 λhe=>ce aG bw Φ he rfl;rw[aU dT.p rfl];refine bt (g:=A) (o:=1) aq.i aY.ls.cells.1 aY.ls.cells.2 ca Ξ λcb cc dU aZ=>?_;have aZ:=aZ;have bx:af (λr=>lw lc r\/r=A) b2 cb:=(b5.Y λr _ h=>.inl h).F (cc.Y λr _ h=>.inr h);have cT:aA .i64 ai cb b4 b3 (f.co.take (i+1)):=by
   rw[r9,C];exact bA aY cc λr q he=>by
    have he:r=A:=he;subst he;exact ce aY ca Φ q rfl
  have ah:∀r,(lw lc r\/r=A)->∃e c,ag b2 r e c/\e≠av/\e≠aw:=λr q=>by
   rcases q with q|rfl
   .obtain⟨rfl,_⟩:=bZ aG q;obtain⟨_,⟨cU,_⟩|⟨cap,full,_,s,_⟩⟩:=aG
    .obtain⟨a,n,c,e,_⟩:=q;rw[cU]at e;cases e
    .exact⟨_,_,s,Φ,Φ⟩
   .exact⟨_,_,bw,Φ,Φ⟩
  have cV:=(bu.W ae).V bx ah;have z4:=X.size;have z5:=ae.size;have cg:=(X.F ae).then bx λr q he=>by
   rcases he with he|he
   .have:=aV r he;omega
   .omega
  have cW:=b8.V bx λJ=>by
   rcases J with J|J
   .exact ce aG b8 Φ J rfl
   .omega
  intro dV ch _ _;have cX:=aZ.W ch;rw[aL dT.p 3 cX rfl];obtain⟨a2,rfl⟩:∃n:Nat,z=n:=⟨z.toNat,Ω⟩;refine kq aw.u av.i Ω Ω λci dW dX bz cY=>?_;refine⟨.inl bz,?_⟩;have c0:=aA.of (b0.full (n:=a2) cY Ξ (by simp[maxLen];omega));let a:mw:=⟨.slice (σ ⟨ci,0,ν⟩) a2 a2,o6 a2 0⟩;refine jc (f:=rY) (a:=a) cZ.u aw.i Ω rfl rfl λdZ ea bB eb bD c1=>?_;refine⟨.inl (bz.F bD),?_⟩;have aj:=(ch.F bz).F bD;have aH:=cV.W aj;refine jC (f:=rY) (a:=a) cZ.u aw.i rfl aH.1 (by simpa using c1.sl) (λu hu=>by rw[b9.1 (show u∈[a.v]from hu)];rfl) Ω Ω λbE bH ec K bI ck=>?_;have ak:∀{r:Nat},lm B r->∃c,ag bB r aw c:=λq=>by
   obtain⟨rfl,c,s⟩:=dY aH.1 q;exact⟨c,s⟩
  have bJ:=aZ.W aj;have cl:=bJ.V ck λhe=>cK aH.1 bJ Φ he;rw[aU dT.p rfl];refine bt cZ.i (ez K.sl).1 (ez K.sl).2 cl Ξ λc2 cm ed c4=>?_;rw[aP];have R:af (λr=>lm B r\/r=A) bB c2:=(ck.Y λr _ h=>.inl h).F (cm.Y λr _ h=>.inr h);have bK:∀r,(lm B r\/r=A)->∃e c,ag bB r e c/\e≠av/\e≠ai:=λr q=>by
   rcases q with q|rfl
   .obtain⟨c,s⟩:=ak q;exact⟨_,c,s,Φ,Φ⟩
   .exact⟨_,_,bJ,Φ,Φ⟩
  have cn:=cT.W aj;have ee:=cg.size;have ef:=aj.size;have cp:=cW.W aj;refine cQ _ ⟨(cg.F aj).then R (λr q he=>?_),cp.V R (λJ=>?_),b3,b4,bE,bH,aX++[a],c4,bA cn R (λr q J=>?_),λr q=>?_,⟨K.V cm λr q he=>?_,λy M=>?_⟩,?_,λr q=>?_⟩
  .rcases he with he|rfl
   .have:=aW r he;omega
   .omega
  .rcases J with J|J
   .exact cK aH.1 cp Φ J
   .omega
  .obtain⟨e,c,s,_,E⟩:=bK r J;exact ce cn s (λhe=>E he.symm) q rfl
  .rcases cS r q with h|h
   .exact aV r h
   .omega
  .have he:r=A:=he;subst he;exact cK K cl Φ q
  .rcases j9.1 M with M|M
   .exact aH.rZ R (λr q=>by obtain⟨e,c,s,E,_⟩:=bK r q;exact⟨e,c,s,E⟩) y M
   .rw[b9.1 M];have cq:=c0.W bD;exact⟨ci,bA cq R λr q J=>by
     obtain⟨e,c,s,E,_⟩:=bK r J;exact ce cq s (λhe=>E he.symm) q rfl⟩
  .rw[Z3,aF,r9,C,j6,Z3];rfl
  .rcases bI r q with h|h
   .exact aW r h
   .omega
 rintro W cP ⟨X,bs,lc,gs,B,H,aX,aC,aT,aV,bu,aF,aW⟩;refine cd Ω ?_;rw[j4]at aT aF;refine(Qb (bU.W X) Q).Y ?_;rintro ba a6 _ ⟨an,go,O,K,cr,ct,eg⟩;have cu:O.length=(fS f).length:=by rw[<-ct,r8]
 have eh:O.length<=256:=by
  have h1:=(rO Q).2.length_eq;have a8:=(mr Q).2.2;have ei:=List.length_filter_le fQ (fR f);have ek:=Q.mm;omega
 have z4:=X.size;have em:=an.size;have en:=aC.lt;rw[ew c3.u K];refine bW.range O.length (λi ao=>od w a6.heap.size gt gs go lc ba f O ao/\EQ w a6.heap.size A lc f.k (dI f i) O ao) K.le
  ⟨⟨X.F an,o4 _,bs.W an,aT.W an,K,λr q=>by have:=K.lw q;omega,λh au=>(cr h au).1⟩,B,H,aX,_,0,[],aC.W an,bu.W an,aF,aW,bj.nil _ _ _ _ _,λx br=>(by cases br),rfl,λr q=>(fm q).elim⟩ ?_ ?_
 rotate_left
 .rintro ao c5 ⟨ap,B,H,aX,Y,gr,L,bb,bc,Z,aI,aJ,ay,ab,aM⟩;obtain⟨c6,eo,cw,bL,ep,er,c8⟩:=id ap;have bd:=qy f O.length;rw[cu,uC]at bd;rw[cu,uC]at bb Z ab;refine cd Ω ?_;rw[bC dT.p dT.i rfl (show ao.rangeAt A 0 [Δ f.k,lc,Δ (cf f).zero,B,Y]from bb.range)];refine b6 (vs:=[Δ f.k,lc,Δ (cf f).zero,B,Y]) dT.i rfl rfl (λu hu=>?_) cw λes aN et c9=>?_
  .simp at hu;rcases hu with rfl|rfl|rfl|rfl|rfl
   .rfl
   .exact bL.ls.cells.2
   .rfl
   .exact (ez bc.1.sl).2
   .exact (ez aJ.sl).2
  rw[fi dT.p dT.i rfl c9.range];have ah:∀r,r=gt->∃e c,ag ao r e c/\e≠av/\e≠aw/\e≠ai/\e≠a7:=λr q=>by
   subst q;exact⟨_,_,cw,Φ,Φ,Φ,Φ⟩
  refine⟨c6.then aN λr q he=>by have he:r=gt:=he;omega,lc,gs,B,H,aX,Y,gr,L,?_,?_,bc.V aN (λr q=>?_),Z,aJ.V aN (λr q J=>?_),λh au=>?_,ab,aV,λh au r q=>by have:=(cr h (ay h au)).2 r q;omega⟩
  .rw[bd.1]
  .rw[bd.2.1];refine bA bL aN λr q J=>?_;obtain⟨e,c,s,_,_,E,_⟩:=ah r J;exact ce bL s (λhe=>E he.symm) q rfl
  .obtain⟨e,c,s,h1,a8,_⟩:=ah r q;exact⟨e,c,s,h1,a8⟩
  .obtain⟨e,c,s,_,_,_,E⟩:=ah r J;exact cK aJ s (λhe=>E he.symm) q
  .rw[bd.2.1];exact oc (c8 h (ay h au)) aN λr q=>by
    obtain⟨e,c,s,h1,_,a8,_⟩:=ah r q;exact .inl ⟨e,c,s,a8,h1⟩
 rintro i ao c5 hi ⟨ap,B,H,aX,Y,gr,L,bb,bc,Z,aI,aJ,ay,ab,aM⟩ da;obtain⟨y,M⟩:=aD (l:=O) hi;have be:=x7 M;have cz:(fS f)[i]?=σ (dJ y):=by rw[<-ct,u4,M];rfl
 have bM:=uh Q _ (x7 cz);have bO:=xH cz;obtain⟨eu,ev,ey,eA⟩:=qy f i;refine bG Ω ?_;refine c7 (λbP=>od w a6.heap.size gt gs go lc ba f O bP/\EQ w a6.heap.size A lc f.k (dI f (i+1)) O bP) ?_ ?_
 .rintro bP h;rw[aP];exact da _ h
 intro ax bQ;rw[cj rfl c3.u a7.i ap.2.2.2.2.1 hi,bC a7.p a7.i rfl (ap.2.2.2.2.1.range M)];refine bF a7.i λdb eB eC dc dd=>?_;refine b6 (vs:=dR y) a7.i rfl rfl (ap.2.2.2.2.2.2 y be).one dd λde df eD bf=>?_;have bg:=dc.put df Ω;have bh:=ap.W bg;have ac:=bb.W bg;have bR:=bc.W bg;have bi:=aJ.W bg;obtain⟨eE,eF,cA,eH,eI,eJ,cB⟩:=id bh;obtain⟨⟨eK,cC⟩,_,dg,cD⟩:=cB y be;rw[aL a7.p 0 bf rfl,a1 aq.u cC.ls];have eL:aX.length=f.co.length:=by have:=congrArg Q2 Z;rw[r8]at this;omega
 have eM:L.length<=256:=by have:=congrArg Q2 ab;rw[r8]at this;omega
 rw[bm,am];refine⟨λeN=>?_,λeO=>?_⟩
 .
  have ad:y.sc=[]:=Z5 Ω;have G:dI f (i+1)={dI f i with zero:=y.cs.getD 0 0}:=by rw[bO];unfold j7;simp only[dJ,ad]
  have eP:y.cs.length=1:=by have:=bM.len;simpa[dJ,ad,bN,aQ]using this
  have dh:y.cs[0]?=σ (y.cs.getD 0 0):=by rw[u5,x8 Ω];rfl
  rw[aL a7.p 2 bf rfl,fM (y:=0) (i:=0) rfl aw.u av.i Ψ cD.ls dh,aU dT.p rfl];refine bt av.i rfl rfl ac Ξ λdi P dj dk=>?_;refine bQ _ ⟨bh.V P λr q=>?_,B,H,aX,Y,gr,L,?_,bR.V P (λr q=>?_),by rw[G];exact Z,aI,bi.V P (λr q J=>?_),ay,by rw[G];exact ab,aM⟩
  .have q:r=A:=q;subst q;exact⟨Ω,E,.inl ⟨_,ac⟩⟩
  .rw[G];exact dk
  .have q:r=A:=q;subst q;exact⟨_,_,ac,Φ,Φ⟩
  .have J:r=A:=J;subst J;exact cK bi ac Φ q
 rw[bm,am];refine⟨λh1=>?_,λeQ=>?_⟩
 .
  obtain⟨v,ad⟩:∃v,y.sc=[v]:=V4.1 Ω;have eR:=bM.scope.1 v (by show v∈y.sc;rw[ad];exact .head _);have eS:=bM.d6 v (by show v∈y.sc;rw[ad];exact .head _);have G:dI f (i+1)={dI f i with unary:=(dI f i).unary.set v.toNat y.cs}:=by rw[bO];unfold j7;simp only[dJ,ad]
  intro dl S _ _;have bS:=ac.W S;have cE:=bf.W S;have aO:=bR.W S;have dn:=bh.W S;have cF:=bi.W S;rw[aL dT.p 3 bS rfl,aL a7.p 0 cE rfl];refine rj rfl aq.u ai.i (cC.ls.W S) (show y.sc[0]?=σ v by rw[ad];rfl) λb o dp=>?_;rw[aE Ψ dp,aL a7.p 2 cE rfl];obtain⟨u,hu⟩:=aD (l:=aX) (i:=v.toNat) Ω;rw[cj (i:=v.toNat) Ω cZ.u aw.i aO.1 Ω];let a:mw:=⟨y.ba,y.cs⟩;have bl:=cD.W S;refine kZ (j:=0) (a:=u) (a':=a) aw.i bl.ls.cells.1 bl.ls.cells.2 aO.1 hu rfl Ω λdi P dj dq=>?_;have ak:∀{r:Nat},lm B r->∃c,ag dl r aw c:=λq=>by
   obtain⟨rfl,c,s⟩:=dY aO.1 q;exact⟨c,s⟩
  refine bQ _ ⟨dn.V P λr q=>?_,B,H,aX.set v.toNat a,Y,gr,L,?_,⟨dq,λz C=>?_⟩,?_,aI,cF.V P (λr q J=>?_),ay,by rw[G];exact ab,aM⟩
  .obtain⟨c,s⟩:=ak q;exact⟨aI r q,λhe=>(by subst he;exact ro (fp s (cA.W S)) Φ),.inr (.inl ⟨c,s⟩)⟩
  .rw[G];exact bS.V P λhe=>cK aO.1 bS Φ he
  .rcases W8 C with C|rfl
   .exact aO.rZ P (λr q=>by obtain⟨c,s⟩:=ak q;exact⟨_,c,s,Φ⟩) z C
   .exact⟨dg,bA bl P λr q J=>by
     obtain⟨c,s⟩:=ak J;exact ce bl s Φ q rfl⟩
  .rw[G,T2,Z]
  .obtain⟨c,s⟩:=ak J;exact cK cF s Φ q
 .
  have G:dI f (i+1)={dI f i with d9:=(dI f i).d9++[dJ y]}:=by
   rw[bO];unfold j7;have cG:2<=(dJ y).1.length:=by show 2<=y.sc.length;omega
   generalize dJ y=g at cG ⊢;obtain⟨sc,cs⟩:=g
   match sc,cG with
   |_::_::_,_=>rfl
  rw[aL dT.p 4 ac rfl,bC a7.p a7.i rfl (show de.rangeAt db 0 (dR y)from bf.range)];refine jc c3.u a7.i Ω rfl rfl λeU eV dr eW az ds=>?_;have bn:=bi.W az;have dt:=bR.W az;have bo:=ac.W az;have du:=bh.W az;refine jC c3.u a7.i rfl bn (by simpa using ds.sl) (cB y be).one Ω Ω λbE bH eX bp bI cH=>?_;have cI:=bo.V cH λhe=>cK bn bo Φ he;rw[aU dT.p rfl];refine bt c3.i (ez bp.sl).1 (ez bp.sl).2 cI Ξ λdv cJ eY dw=>?_;have R:af (λr=>lm Y r\/r=A) dr dv:=(cH.Y λr _ h=>.inl h).F (cJ.Y λr _ h=>.inr h);have eZ:=az.size;refine bQ _ ⟨du.V R λr q=>?_,B,H,aX,bE,bH,L++[y],?_,dt.V R (λr q=>?_),by rw[G];exact Z,aI,bp.V cJ (λr q J=>?_),λz C=>?_,?_,λr q=>?_⟩
  .rcases q with q|rfl
   .obtain⟨rfl,c,s⟩:=dY bn q;have:=aM _ q;refine⟨Ω,λhe=>?_,.inr (.inr ⟨⟨c,s⟩,this⟩)⟩;subst he;exact ro (fp s (cA.W az)) Φ
   .exact⟨Ω,E,.inl ⟨_,bo⟩⟩
  .rw[G];exact dw
  .rcases q with q|rfl
   .obtain⟨rfl,c,s⟩:=dY bn q;exact⟨_,c,s,Φ,Φ⟩
   .exact⟨_,_,bo,Φ,Φ⟩
  .have J:r=A:=J;subst J;exact cK bp cI Φ q
  .rcases j9.1 C with C|C
   .exact ay z C
   .rw[b9.1 C];exact be
  .rw[G,Z3,ab];rfl
  .rcases bI r q with h|h
   .exact aM r h
   .omega
def r7(w:x5)(S:Nat->Prop)(e:o5):Prop:=∀r,S r->∃c,ag w r e c
theorem ya{k:j0}{g:Nat}(h:aA k a w g v l)(f:af S w I)(j:r7 w S e)(p:a≠e):aA k a I g v l:=bA h f λr q J=>by
 obtain⟨c,s⟩:=j r J;exact ce h s p q rfl
theorem ES{α:Type}{f:α->List x4}{k:Nat}{g:Nat}{L:List α}(h:bj f k a w g v L)(j:af S w I)(p:r7 w S e)(q:a≠e):bj f k a I g v L:=h.V j λr s J=>by
 obtain⟨c,x⟩:=p r J;exact cK h x q s
theorem yb{r:Nat}{c:List x4}(h:ag w r a c)(f:af S w I)(j:r7 w S e)(p:a≠e):ag I r a c:=h.V f λJ=>by
 obtain⟨c,q⟩:=j r J;exact p (fp h q)
theorem ET{g:Nat}{c:List x4}(h:ag w g e c):r7 w (λr=>r=g) e:=λr a=>by
 have a:r=g:=a;subst a;exact⟨c,h⟩
theorem Qd{k:j0}{g:Nat}(h:aA k e w g v l):r7 w (λr=>lw v r) e:=λr f=>by
 have f:=f;obtain⟨rfl,_⟩:=bZ h f;obtain⟨_,⟨p,_⟩|⟨cap,full,_,q,_⟩⟩:=h
 .obtain⟨a,n,c,j,_⟩:=f;rw[p]at j;cases j
 .exact⟨_,q⟩
def aC(x:bn):Λ:=((X9 x.un.length).map λv:Nat=>(v:Int)).filter λv=>!dropped x.mask v
theorem yc{P:V3}{k:j0}{t:o5}{b:Nat}{K:x4->x5->Prop}(a:P.underlying t=σ (.slice e))(hi:aR P e 1 b z)(f:∀v g I,g=w.heap.size->Ext w I->aA k e I g v []->K v I):aF P (X2 t 0 #[]) w K:=
 kS a hi Ω (cs:=#[]) (by simp[Instr.fill]) λg I h j p=>f _ g I h j (aA.of (b0.full (by simpa using p) Ξ (by simp[maxLen])))
theorem Qe{n:aH}(h:x9 w B v n){g:Nat}(j:ag I g dT v.cells.toList):∃lc gz a f aX e gr L,ag I g dT [Δ n.k,lc,Δ n.zero,a,e]/\aA .i64 ai w gz lc n.co/\iJ w f a aX/\aX.map (·.l)=n.unary/\bj dR 3 a7 w gr e L/\(∀h∈L,fV w n.co h)/\L.map dJ=n.d9/\(∀r,lw lc r->B<=r)/\∀h∈L,∀r,qE h r->B<=r:=by
 obtain⟨lc,gz,a,f,aX,e,gr,L,rfl,p,q,x,s,y,z⟩:=h;obtain⟨_,_,_,A⟩:=dj p.ls;obtain⟨_,_,_,_,_,C,_⟩:=q.1.sl;obtain⟨_,_,_,_,_,E,_⟩:=s.sl;refine⟨lc,gz,a,f,aX,e,gr,L,?_,p,q,x,s,y,z⟩;rw[A,C,E]at j ⊢;exact j
def z12:List x4:=[Δ 0,.slice ν 0 0,Δ 0,.slice ν 0 0,.slice ν 0 0,.slice ν 0 0,.slice ν 0 0,.slice ν 0 0]
theorem Qf(u:Λ):aC (newVar u)=(X9 u.length).map λv:Nat=>(v:Int):=by
 unfold aC newVar dropped;rw[List.filter_eq_self.2];intro a _;simp
section
variable{P:V3}{w:x5}{t:o5}{cx cy:Bool}{a b:Nat}{K:x4->Prop}
theorem Qg(f:a<2 ^ 62)(h:b<2 ^ 62):ab P (aO .or t cx cy (Δ a) (Δ b)) w K=K (Δ ((a ||| b:Nat):Int)):=ab.of λI _=>by
 have e:(T8 64 (a:Int) ||| T8 64 (b:Int)).toNat=a ||| b:=by
  rw[nU,nU,BitVec.toNat_or,BitVec.toNat_ofNat,BitVec.toNat_ofNat,Nat.mod_eq_of_lt Ω,Nat.mod_eq_of_lt Ω]
 have p:a ||| b<2 ^ 62:=Nat.or_lt_two_pow f h;have hw:W5.wrap ((a ||| b:Nat):Int)=((a ||| b:Nat):Int):=m1 Ω Ω;have j:(T8 W5.bits (a:Int) ||| T8 W5.bits (b:Int)).toNat=a ||| b:=e;simp only[aO,eqGuard,binOp,Op.intBits,j,hw];rfl
theorem EU(j:a<2 ^ 62)(f:b<2 ^ 62):ab P (aO .and t cx cy (Δ a) (Δ b)) w K=K (Δ ((a &&& b:Nat):Int)):=ab.of λI _=>by
 have e:(T8 64 (a:Int) &&& T8 64 (b:Int)).toNat=a &&& b:=by
  rw[nU,nU,BitVec.toNat_and,BitVec.toNat_ofNat,BitVec.toNat_ofNat,Nat.mod_eq_of_lt Ω,Nat.mod_eq_of_lt Ω]
 have p:a &&& b<2 ^ 62:=Nat.and_lt_two_pow _ f;have hw:W5.wrap ((a &&& b:Nat):Int)=((a &&& b:Nat):Int):=m1 Ω Ω;have h:(T8 W5.bits (a:Int) &&& T8 W5.bits (b:Int)).toNat=a &&& b:=e;simp only[aO,eqGuard,binOp,Op.intBits,h,hw];rfl
theorem Qh{k:j0}{n:Nat}(a:n<62):ab P (aO .shl t cx cy (Δ 1) (.int k (n:Int))) w K=K (Δ ((2 ^ n:Nat):Int)):=by
 rw[AY Ω];have e:min ((n:Int).toNat) W5.bits=n:=Nat.min_eq_left (by show n<=64;omega);have f:2 ^ n<2 ^ 62:=Nat.pow_lt_pow_right Ω a;rw[e,Int.one_mul,show((2:Int) ^ n)=((2 ^ n:Nat):Int) by simp];generalize 2 ^ n=q at f ⊢;rw[m1 Ω Ω]
end
theorem EV(a n:Nat):(a / 2 ^ n &&& 1=1)↔a.testBit n=v2:=by
 rw[Nat.and_one_is_mod,Nat.testBit_eq_decide_div_mod_eq,sp]
theorem Qi{b n:Nat}{v:Int}(q:ml b n):al v8 IA [jZ b n,Δ v] w λr I=>r= .bool (decide (0<=v/\v<n)&&b.testBit v.toNat)/\Ext w I:=by
 refine aB func98 ?_;refine bp λg U A e f=>?_;refine aZ (λr aa=>r= .bool (decide (0<=v/\v<n)&&b.testBit v.toNat)/\Ext w aa) (λ_ _ h=>h) λax j=>?_;rw[bC b5.p b5.i rfl f.range];refine B3.Y ?_;rintro _ B _ ⟨rfl,a⟩;rw[am];refine⟨λh=>?_,λh=>j _ _ ⟨by rw[s2 h];rfl,e.F a⟩⟩;obtain⟨x,C⟩:=q;obtain⟨s,rfl⟩:∃s:Nat,v=s:=⟨v.toNat,Ω⟩;have y:=f.W a;have E:(2:Nat) ^ n<=2 ^ 32:=S5 Ω x;have z:b / 2 ^ s<2 ^ 64:=Nat.lt_of_le_of_lt (Nat.div_le_self _ _) Ω;rw[aL b5.p 0 y rfl,mj Ω,show(1:Int)=((1:Nat):Int)from rfl,u64_and z Ω,bm];refine j _ _ ⟨?_,e.F a⟩;congr 1;rw[rs h,Q4,U8,sp,u9,<-EV];omega
theorem Qj(m v:Nat):dropped (m:Int) (v:Int)=m.testBit v:=by unfold dropped;rw[u9,u9]
def bE(w:x5)(ad ae:Nat)(A R:ah)(n:aH)(s:ak)(t:az):Prop:=StateM w ad ae A R n s t/\t.b1=s.cells/\n5 t/\bd n.k n.co s/\k4 n
theorem bE.W{A R:ah}{n:aH}{s:ak}{t:az}(h:bE w ad ae A R n s t)(a:Ext w I):bE I ad ae A R n s t:=⟨h.1.W a,h.2⟩
theorem StateM.parts{A R:ah}{n:aH}{s:ak}{t:az}(h:StateM w ad ae A R n s t):∃a e f j bc p L q,ag w ad cV [Γ a,Γ ae,e,f,j]/\gq w a n/\dz w ae q t/\aA .i64 ai w bc e (jG s)/\bj qB 3 gd w p f L/\my R w L s:=by
 obtain⟨a,e,f,j,_,bc,p,ge,L,E,q,w0,r,⟨x,y,G⟩,⟨z,H,I,J⟩,B,⟨C,F⟩,K,M⟩:=h;exact⟨a,e,f,j,bc,p,L,q,r,x.W y,z,B,C,F⟩
theorem uL{s:ak}{i:Nat}(h:i<s.d6.length):(jG s)[i]?=σ (gX s i:Int):=by
 unfold jG;rw[u4,List.getElem?_range h];rfl
theorem uM{s:ak}{t:az}(a:t.b1=s.cells)(J:n5 t):s.cells.length<=100000000:=by
 rw[<-a];unfold az.b1;rw[r8];exact J.1
theorem uN{s:ak}{i:Nat}{x:bn}(h:s.d6[i]?=σ x):gX s i+x.un.length+2<=s.cells.length:=by
 have h1:=r2 h (j:=x.un.length+1) Ω;have a:(iK x)[x.un.length+1]? ≠ν:=by
  rw[Ne,List.getElem?_eq_none_iff];show¬(x.un.length+1+1<=x.un.length+1);omega
 rw[<-h1]at a;have:=(x6.1 (Option.ne_none_iff_exists'.1 a).choose_spec).1;omega
theorem EW{s:ak}{f:cr}(h:s.d9[j]?=σ f):fq s j+f.cs.length+1<=s.cells.length:=by
 have h1:=xL h (j:=f.cs.length) Ω;have a:(je f)[f.cs.length]? ≠ν:=by
  rw[Ne,List.getElem?_eq_none_iff];show¬(f.cs.length+1<=f.cs.length);omega
 rw[<-h1]at a;have:=(x6.1 (Option.ne_none_iff_exists'.1 a).choose_spec).1;omega
section
variable{w:x5}{ad ae:Nat}{A R:ah}{n:aH}{s:ak}{t:az}
theorem EX(h:bE w ad ae A R n s t):al v8 Iw [Γ ad] w λv I=>(∃a,v=Γ a/\gq I a n)/\Ext w I:=by
 obtain⟨a,j,q,r,bc,x,L,y,e,f,z,B,C,E⟩:=h.1.parts;refine aB func93 ?_;rw[dg eL.u];simp only[Y2,a6];rw[aK cV.p 0 e rfl];exact⟨⟨a,rfl,f⟩,Ext.refl _⟩
theorem EY(h:bE w ad ae A R n s t):al v8 HW [Γ ad] w λv I=>v=Δ (n.co.length:Int)/\Ext w I:=by
 refine aB func46 ?_;refine(EX h).Y ?_;rintro _ U _ ⟨⟨j,rfl,a⟩,e⟩;refine(xN a).Y ?_;rintro _ aa _ ⟨rfl,f⟩;exact⟨rfl,e.F f⟩
theorem oe(h:bE w ad ae A R n s t):al v8 I8 [Γ ad] w λv I=>v=Δ n.k/\Ext w I:=by
 refine aB func155 ?_;refine(EX h).Y ?_;rintro _ U _ ⟨⟨j,rfl,a⟩,e⟩;refine(Pq a).Y ?_;rintro _ aa _ ⟨rfl,f⟩;exact⟨rfl,e.F f⟩
theorem yd{i:Int}(h:bE w ad ae A R n s t):al v8 Ib [Γ ad,Δ i] w λv I=>v= .bool (decide (0<=i/\i<n.co.length))/\Ext w I:=by
 refine aB func65 ?_;refine aZ (λv U=>v= .bool (decide (0<=i/\i<n.co.length))/\Ext w U) (λ_ _ h=>h) λax a=>?_;rw[cP,am];refine⟨λe=>?_,λe=>a _ _ ⟨by rw[s2 Ω],Ext.refl _⟩⟩;refine(EY h).Y ?_;rintro _ U _ ⟨rfl,f⟩;rw[aS];refine a _ _ ⟨?_,f⟩;congr 1;exact decide_eq_decide.2 ⟨λh=>⟨e,h⟩,λh=>h.2⟩
theorem pw(h:bE w ad ae A R n s t):al v8 HN [Γ ad] w λv I=>v=Δ s.zero/\Ext w I:=by
 obtain⟨j,q,r,x,bc,y,L,z,a,B,e,C,E,G⟩:=h.1.parts;refine aB func13 ?_;rw[dg eL.u];simp only[Y2,a6];rw[aK cV.p 1 a rfl];refine(pq e rfl (show t.b1[0]?=σ s.zero by rw[h.2.1];exact Pl s)).Y ?_;rintro _ U _ ⟨rfl,f⟩;exact⟨rfl,f⟩
theorem sa(h:bE w ad ae A R n s t):al v8 HO [Γ ad] w λv I=>v=Δ (s.d9.length:Int)/\Ext w I:=by
 obtain⟨j,q,r,x,bc,y,L,z,a,B,C,E,e,f⟩:=h.1.parts;refine aB func15 ?_;rw[dg eL.u];simp only[Y2,a6];rw[aK cV.p 3 a rfl,ew gb.u e];exact⟨by rw[f.1],Ext.refl _⟩
def dr(s:ak)(i:Nat):Bool:=match s.d6[i]? with
 |some x=>decide (x.gone≠0)
 |none=>v6
theorem uO{i:Int}(h:bE w ad ae A R n s t):al v8 HX [Γ ad,Δ i] w λv I=>v= .bool (decide (0<=i)&&dr s i.toNat)/\Ext w I:=by
 refine aB func48 ?_;refine aZ (λv U=>v= .bool (decide (0<=i)&&dr s i.toNat)/\Ext w U) (λ_ _ h=>h) λax e=>?_;intro aa f _ _;refine(yd (h.W f)).Y ?_;rintro _ J _ ⟨rfl,r⟩;have a:=f.F r;have K:=h.2.2.2.1.d6;rw[am];refine⟨λz=>?_,λM=>e _ _ ⟨?_,a⟩⟩
 .obtain⟨N,O,P,Q,bc,S,L,V,j,W,B,C,X,Y⟩:=(h.W a).1.parts;obtain⟨x,q⟩:=aD (l:=s.d6) (i:=i.toNat) Ω;rw[aK cV.p 1 j rfl,aK cV.p 2 j rfl,fM (y:=i) (i:=i.toNat) Ω aq.u ai.i Ψ C.ls (uL Ω)];have E:t.b1[gX s i.toNat+0]?=σ x.gone:=by rw[h.2.1,r2 q Ω];rfl
  refine(pq B rfl E).Y ?_;rintro _ Z _ ⟨rfl,G⟩;rw[bL];refine e _ _ ⟨?_,a.F G⟩;rw[rs z.1,Q4];unfold dr;rw[q]
 .by_cases H:0<=i
  .unfold dr;rw[Y5 Ω,Bool.and_false]
  .rw[s2 H];rfl
def et(n:aH)(i v:Int):Prop:=0<=i/\i<n.co.length/\0<=v/\v<n.co.getD i.toNat 0
instance (n:aH) (i v:Int):Decidable (et n i v):=inferInstanceAs (Decidable (_/\_))
theorem et.var{i v:Int}(h:et n i v)(a:bd n.k n.co s):∃x,s.d6[i.toNat]?=σ x/\v.toNat<x.un.length/\x.un.length<=32/\n.co.getD i.toNat 0=x.un.length:=by
 obtain⟨h1,p,q,j⟩:=h;have r:=a.d6;obtain⟨x,f⟩:=aD (l:=s.d6) (i:=i.toNat) Ω;obtain⟨z,e⟩:=aD (l:=n.co) (i:=i.toNat) Ω;have w:=a.ed.2.2 z (x7 e);have y:=(a.var i.toNat x z f e).1;rw[u5,e,W7]at j ⊢;exact⟨x,f,Ω,Ω,Ω⟩
theorem ye{i v:Int}(h:bE w ad ae A R n s t):al v8 It [Γ ad,Δ i,Δ v] w λr I=>r=Δ (if et n i v then((gX s i.toNat+2+v.toNat:Nat):Int)else-1)/\Ext w I:=by
 have ab:=h.2.2.2.1.d6;refine aB func85 ?_;refine aZ (λr U=>r= .bool (decide (¬et n i v))/\Ext w U) ?_ ?_
 .rintro _ U ⟨rfl,q⟩;rw[am];refine⟨λG=>⟨by rw[rc G],q⟩,λf=>?_⟩;have f:=X5.1 f;obtain⟨x,H,ac,af,_⟩:=f.var h.2.2.2.1;obtain⟨J,K,M,N,bc,O,L,P,a,B,Q,C,S,V⟩:=(h.W q).1.parts;have E:=uN H;have ag:=uM h.2.1 h.2.2.1;obtain⟨h1,ah,aj,ak⟩:=id f;rw[aK cV.p 2 a rfl,fM (y:=i) (i:=i.toNat) Ω aq.u ai.i Ψ C.ls (uL Ω),aP,m1 Ω Ω,aP,m1 Ω Ω,ms f];refine⟨?_,q⟩;congr 1;omega
 .intro ax z;refine(yd h).Y ?_;rintro _ aa _ ⟨rfl,j⟩;rw[bM,b4];refine⟨λa=>?_,λa=>?_⟩
  .have a:¬(0<=i/\i<n.co.length):=λW=>by rw[rs W]at a;cases a
   exact z _ _ ⟨by rw[rs];exact λe=>a ⟨e.1,e.2.1⟩,j⟩
  have a:0<=i/\i<n.co.length:=by simpa using a
  rw[aS,am];refine⟨λX=>z _ _ ⟨by rw[rs];exact λe=>by have:=e.2.2.1;omega,j⟩,λX=>?_⟩;obtain⟨J,K,M,N,bc,O,L,P,Y,B,Q,C,S,V⟩:=(h.W j).1.parts;rw[aK cV.p 0 Y rfl];refine(Eh B h.2.2.2.2).Y ?_;rintro _ an _ ⟨Z,rfl⟩;rw[ms a.1,cP];refine z _ _ ⟨?_,j.F Z⟩;congr 1;refine decide_eq_decide.2 ⟨λh e=>?_,λh=>?_⟩
  .have:=e.2.2.2;omega
  .refine Int.not_lt.1 λE=>h ⟨a.1,a.2,Ω,E⟩
def ff(s:ak)(i v:Nat):Int:=match s.d6[i]? with
 |some x=>x.un.getD v 0
 |none=>0
theorem px{i v:Int}(h:bE w ad ae A R n s t):al v8 wh [Γ ad,Δ i,Δ v] w λr I=>r=(if et n i v then .tuple #[Δ (ff s i.toNat v.toNat),Δ 0]else .tuple #[Δ 0,Δ 1])/\Ext w I:=by
 refine aB func36 ?_;rw[dg eL.u];simp only[Y2,a6];refine(ye h).Y ?_;rintro _ U _ ⟨rfl,e⟩;by_cases a:et n i v
 .rw[ms a,ms a];refine cd Ω ?_;obtain⟨x,f,j,C,_⟩:=a.var h.2.2.2.1;obtain⟨E,G,H,J,bc,K,L,M,q,N,y,O,P,Q⟩:=(h.W e).1.parts;rw[aK cV.p 1 q rfl];have z:t.b1[gX s i.toNat+2+v.toNat]?=σ (x.un.getD v.toNat 0):=by
   rw[h.2.1,Q3,r2 f Ω,show 2+v.toNat=v.toNat+1+1 by omega];show x.un[v.toNat]?=_;rw[u5,x8 j];rfl
  refine(pq y rfl z).Y ?_;rintro _ aa _ ⟨rfl,B⟩;refine⟨?_,e.F B⟩;unfold ff;rw[f]
 .rw[rc a,rc a,aS,am];exact⟨λ_=>⟨rfl,e⟩,λh=>Ω⟩
def ft(s:ak)(j:Nat):Bool:=match s.d9[j]? with
 |some f=>decide (f.live≠0)
 |none=>v6
theorem yf{j:Int}(h:bE w ad ae A R n s t):al v8 HY [Γ ad,Δ j] w λv I=>v= .bool (decide (0<=j)&&ft s j.toNat)/\Ext w I:=by
 refine aB func49 ?_;refine aZ (λv U=>v= .bool (decide (0<=j)&&ft s j.toNat)/\Ext w U) (λ_ _ h=>h) λax a=>?_;intro aa e _ _;rw[cP,am];refine⟨λq=>?_,λq=>a _ _ ⟨by rw[s2 q];rfl,e⟩⟩;refine(sa (h.W e)).Y ?_;rintro _ N _ ⟨rfl,G⟩;have r:=e.F G;rw[aS,am];refine⟨λO=>?_,λP=>a _ _ ⟨?_,r⟩⟩
 .obtain⟨Q,S,V,W,bc,X,L,Y,B,Z,H,ab,C,x⟩:=(h.W r).1.parts;obtain⟨f,z⟩:=aD (l:=s.d9) (i:=j.toNat) Ω;obtain⟨y,E⟩:∃y,L[j.toNat]?=σ y:=⟨_,x8 (by rw[x.1];omega)⟩;obtain⟨_,_,J⟩:=x.2 j.toNat y f E z;rw[aK cV.p 1 B rfl,aK cV.p 3 B rfl,cj (i:=j.toNat) Ω gb.u gd.i C (by rw[x.1];omega),aU gd.p rfl,aE Ψ (C.range E 2 _ rfl)];have K:t.b1[fq s j.toNat+0]?=σ f.live:=by rw[h.2.1,xL z Ω];rfl
  refine(pq (i:=fq s j.toNat) H (by rw[J]) K).Y ?_;rintro _ ac _ ⟨rfl,M⟩;rw[bL];refine a _ _ ⟨?_,r.F M⟩;rw[rs q,Q4];unfold ft;rw[z]
 .unfold ft;rw[Y5 Ω,Bool.and_false]
end
def uP(s:ak)(n:aH)(i:Int)(b m:Nat):Prop:=ml b m/\(¬(0<=i/\i<n.co.length)->b=0/\m=0)/\∀x,0<=i->s.d6[i.toNat]?=σ x->m=x.un.length/\∀j:Nat,b.testBit j=(decide (j<x.un.length)&& !dropped x.mask (j:Int))
section
variable{w:x5}{ad ae:Nat}{A R:ah}{n:aH}{s:ak}{t:az}
theorem kC{i:Int}(h:bE w ad ae A R n s t):al v8 Am [Γ ad,Δ i] w λv I=>(∃b m,v=jZ b m/\uP s n i b m)/\Ext w I:=by
 have bo:=h.2.2.2.1.d6;refine aB func25 ?_;refine bF b5.i λB U bp an P=>?_;have P:=P;refine(yd (h.W an)).Y ?_;rintro _ aa _ ⟨rfl,ao⟩;have Q:=P.W ao;have S:=an.F ao;rw[bM,b4];refine⟨λa=>?_,λa=>?_⟩
 .have a:¬(0<=i/\i<n.co.length):=λaN=>by rw[rs aN]at a;cases a
  rw[dm (cs:=#[.int .u64 0,Δ 0]) Ψ];refine b6 (vs:=[.int .u64 0,Δ 0]) b5.i rfl rfl (by intro u hu;simp at hu;rcases hu with rfl|rfl<;>rfl) Q λbq aO br aQ=>?_;rw[fi b5.p b5.i rfl aQ.range];refine⟨⟨0,0,rfl,⟨Ω,Ξ⟩,λ_=>⟨rfl,rfl⟩,λx ap aR=>?_⟩,S.put aO Ω⟩;have:=(x6.1 aR).1;exact ro ⟨ap,Ω⟩ a
 have a:0<=i/\i<n.co.length:=by simpa using a
 obtain⟨x,E⟩:=aD (l:=s.d6) (i:=i.toNat) Ω;obtain⟨z,W⟩:=aD (l:=n.co) (i:=i.toNat) Ω;have aS:=h.2.2.2.1.ed.2.2 z (x7 W);obtain⟨bs,_,bt,bu⟩:=h.2.2.2.1.var i.toNat x z E W;obtain⟨aT,aU,aV,aW,bc,aX,L,aY,G,au,_⟩:=(h.W S).1.parts;rw[aK cV.p 0 G rfl];refine(Eh au h.2.2.2.2).Y ?_;rintro _ bw _ ⟨X,rfl⟩;rw[ms a.1,u5,W,W7];refine LP.Y ?_;rintro _ bA _ ⟨Y,rfl⟩;rw[ms aS];obtain⟨m,rfl⟩:∃m:Nat,z=m:=⟨z.toNat,Ω⟩;rw[bx,bz,u9];have av:=(S.F X).F Y;refine bF b5.i λe bB bD aw aZ=>?_;refine b6 (vs:=[.int .u64 ((2 ^ m-1:Nat):Int),Δ (m:Int)]) b5.i rfl rfl (by intro u hu;simp at hu;rcases hu with rfl|rfl<;>rfl) aZ λa1 ay bH a2=>?_;have z5:=av.size;have az:=(av.F aw).put ay Ω;have bI:=(((Q.W X).W Y)).lt;have a6:ag a1 B b5 [.int .u64 0,Δ 0]:=(((Q.W X).W Y).W aw).V ay λhe=>by have he:=he;omega
 intro bJ Z _ _;have aA:=az.F Z;obtain⟨aT,aU,aV,aW,bc,aX,L,aY,G,au,a7,a8,_⟩:=(h.W aA).1.parts;have bK:=uN E;have bL:=uM h.2.1 h.2.2.1;rw[aK cV.p 1 G rfl,aK cV.p 2 G rfl,fM (y:=i) (i:=i.toNat) Ω aq.u ai.i Ψ a8.ls (uL Ω),aP,m1 Ω Ω];have ba:t.b1[gX s i.toNat+1]?=σ x.mask:=by rw[h.2.1,r2 E Ω];rfl
 refine(pq a7 Ω ba).Y ?_;rintro _ bb _ ⟨rfl,ab⟩;have aC:=(a2.W Z).W ab;have bd:=(a6.W Z).W ab;obtain⟨mk,aE⟩:∃mk:Nat,x.mask=mk:=⟨x.mask.toNat,Ω⟩;rw[bC b5.p b5.i rfl (show bb.rangeAt e 0 [.int .u64 ((2 ^ m-1:Nat):Int),Δ (m:Int)]from aC.range)];refine(wV).Y ?_;rintro _ bN _ ⟨rfl,ac⟩;have be:=aA.F ab;have bf:B≠e:=Ω
 have bO:=az.size;have bP:w.heap.size<=e:=Ω
 have bQ:w.heap.size<=B:=Ω
 refine bW.range m (λq f=>Ext w f/\ag f B b5 [.int .u64 0,Δ 0]/\∃b:Nat,ag f e b5 [.int .u64 (b:Int),Δ (m:Int)]/\ml b m/\∀j:Nat,b.testBit j=(decide (j<m)&& !(decide (j<q)&&mk.testBit j))) Ω
  ⟨be.F ac,bd.W ac,_,aC.W ac,⟨Ω,by have:=Nat.two_pow_pos m;omega⟩,λj=>by rw[B2];simp⟩ ?_ ?_
 .rintro q f bg bR ⟨H,J,b,C,K,M⟩ bh;refine bG Ω ?_;refine c7 (λN=>Ext w N/\ag N B b5 [.int .u64 0,Δ 0]/\∃b:Nat,ag N e b5 [.int .u64 (b:Int),Δ (m:Int)]/\ml b m/\∀j:Nat,b.testBit j=(decide (j<m)&& !(decide (j<q+1)&&mk.testBit j))) ?_ ?_
  .rintro N bi;rw[aP];exact bh _ bi
  intro ax aF;have bj:mk / 2 ^ q<2 ^ 62:=Nat.lt_of_le_of_lt (Nat.div_le_self _ _) Ω;rw[aE,C3 Ω,show(1:Int)=((1:Nat):Int)from rfl,EU bj Ω,bm,am];have aG:(((mk / 2 ^ q &&& 1:Nat):Int)=((1:Nat):Int))↔mk.testBit q=v2:=by rw[<-EV];omega
  refine⟨λaf=>?_,λah=>?_⟩
  .have af:=aG.1 af;rw[bC b5.p b5.i rfl (show f.rangeAt e 0 [.int .u64 (b:Int),Δ (m:Int)]from C.range)];refine(LR K).Y ?_;rintro _ bS _ ⟨rfl,aj⟩;rw[ms ⟨Ω,Ω⟩,u9];refine b6 (vs:=[.int .u64 ((kV b (2 ^ q):Nat):Int),Δ (m:Int)]) b5.i rfl rfl (by intro u hu;simp at hu;rcases hu with rfl|rfl<;>rfl) (C.W aj) λbT aH bU bk=>?_;have aI:∀j:Nat,(kV b (2 ^ q)).testBit j=(decide (j<m)&& !(decide (j<q+1)&&mk.testBit j)):=λj=>by
    rw[BT,M,Nat.testBit_two_pow];by_cases aJ:j<m
    .by_cases O:j=q
     .subst O;simp[af]
     .have ak:decide (j<q+1)=decide (j<q):=decide_eq_decide.2 ⟨λh=>Ω,λh=>Ω⟩;rw[ak,rs aJ,rs (show j<64 by omega),s2 (show¬q=j from λh=>O h.symm)];simp
    .simp[aJ]
   refine aF _ ⟨(H.F aj).then aH λr bV he=>by have he:r=e:=he;omega,(J.W aj).V aH λhe=>bf he,_,bk,⟨Ω,LI λj aL=>by rw[aI,s2 Ω];rfl⟩,aI⟩
  .have ah:mk.testBit q=v6:=by simpa using λh=>ah (aG.2 h)
   refine aF _ ⟨H,J,b,C,K,λj=>?_⟩;rw[M];by_cases O:j=q
   .subst O;simp[ah]
   .have ak:decide (j<q+1)=decide (j<q):=decide_eq_decide.2 ⟨λh=>Ω,λh=>Ω⟩;rw[ak]
 .rintro f bg ⟨H,J,b,C,K,M⟩;refine cd Ω ?_;rw[bC b5.p b5.i rfl (show f.rangeAt e 0 [.int .u64 (b:Int),Δ (m:Int)]from C.range)];refine b6 (vs:=[.int .u64 (b:Int),Δ (m:Int)]) b5.i rfl rfl (by intro u hu;simp at hu;rcases hu with rfl|rfl<;>rfl) J λbX bl bY bn=>?_;rw[fi b5.p b5.i rfl bn.range];refine⟨⟨b,m,rfl,K,λh=>ro a h,λy ap aM=>?_⟩,H.put bl Ω⟩;rw[E]at aM;cases aM;refine⟨Ω,λj=>?_⟩;rw[M,aE,Qj,show x.un.length=m by omega];by_cases aL:j<m<;>simp[aL]
theorem uQ{f:cr}(e:bd k co s)(j:f∈s.d9):cg f.aj/\f.cs.length=(aQ f.aj).toNat/\aQ f.aj<=4096:=by
 obtain⟨a,J,_⟩:=e.d9 f j;rw[J];refine⟨⟨?_,pm e.ed.2.2 λv h=>⟨(a.scope.1 v h).1,a.d6 v h⟩⟩,a.len,a.small⟩;have:=a.scope.2;simp[bN];exact this
def io(s:ak)(j:Nat)(tl:Λ):Option Nat:=match s.d9[j]? with
 |some f=>if f.live≠0 then(cp f.aj tl 0).map λm=>fq s j+1+m.toNat else ν
 |none=>ν
def og(s:ak)(j:Nat)(tl:Λ):Int:=match s.d9[j]? with
 |some f=>br f.aj f.cs tl
 |none=>0
theorem EZ(h:bE w ad ae A R n s t)(N:aN .i64 w aT tl):al v8 Iu [Γ ad,Δ (j:Int),aT] w λv I=>v=Δ (match io s j tl with|some p=>(p:Int)|none=>-1)/\Ext w I:=by
 refine aB func86 ?_;refine(yf h).Y ?_;rintro _ U _ ⟨rfl,B⟩;rw[rs Ω,Q4,u9,bM,b4];refine⟨λa=>⟨?_,B⟩,λa=>?_⟩
 .have a:ft s j=v6:=by simpa using a
  have:io s j tl=ν:=by
   unfold io;unfold ft at a;cases e:s.d9[j]? with
   |none=>rfl
   |some f=>
    rw[e]at a;have a:f.live=0:=by simpa using a
    simp[a]
  rw[this]
 have a:ft s j=v2:=by simpa using a
 obtain⟨f,e,O⟩:∃f,s.d9[j]?=σ f/\f.live≠0:=by
  unfold ft at a;cases e:s.d9[j]? with
  |none=>rw[e]at a;cases a
  |some f=>rw[e]at a;exact⟨f,rfl,by simpa using a⟩
 obtain⟨J,ag,ah⟩:=uQ h.2.2.2.1 (x7 e);obtain⟨P,Q,S,V,bc,K,L,W,C,X,Y,Z,x,z⟩:=(h.W B).1.parts;obtain⟨y,r⟩:∃y,L[j]?=σ y:=⟨_,x8 (by rw[z.1];exact(x6.1 e).1)⟩;have E:=(x6.1 r).1;obtain⟨_,ab,M⟩:=z.2 j y f r e;have ac:U.rangeAt K (j*3+1) [y.lc]:=λq v G=>by
  match q,G with
  |0,G=>cases G;exact x.range r 1 _ rfl
 rw[aK cV.p 3 C rfl,cj rfl gb.u gd.i x E,aU gd.p rfl,bC (cs:=[y.lc]) bH.p bH.i rfl ac];refine(Bl ab.ls (N.W B) J).Y ?_;rintro _ aa _ ⟨rfl,af⟩;have H:=B.F af;unfold mg io;rw[e];simp only[ms O];cases hi:cp f.aj tl 0 with
 |none=>
  simp only[Option.map_none];rw[bx,bz,bL,am];exact⟨λ_=>⟨trivial,H⟩,λh=>ro (show(3:Int)≠0 by decide) h⟩
 |some m=>
  simp only[Y3];rw[bx,bz,bL,am];refine⟨λh=>ro rfl h,λ_=>?_⟩;have ai:=mf J.2 hi;have ak:=EW e;have an:=uM h.2.1 h.2.2.1;obtain⟨P,Q,S,V,bc,K,L,W,C,X,Y,Z,x,z⟩:=(h.W H).1.parts;obtain⟨y,r⟩:∃y,L[j]?=σ y:=⟨_,x8 (by rw[z.1];exact(x6.1 e).1)⟩;have E:=(x6.1 r).1;obtain⟨_,_,M⟩:=z.2 j y f r e;rw[aK cV.p 3 C rfl,cj rfl gb.u gd.i x E,aU gd.p rfl,aE Ψ (x.range r 2 _ rfl),M,aP,m1 Ω Ω,aP,m1 Ω Ω];refine⟨?_,H⟩;congr 1;omega
theorem E0{p:Nat}(e:bd k co s)(h:io s j tl=σ p):s.cells[p]?=σ (og s j tl)/\∃f,s.d9[j]?=σ f/\f.live≠0/\∃m:Nat,cp f.aj tl 0=σ (m:Int)/\m<f.cs.length/\p=fq s j+(m+1):=by
 unfold io at h;cases a:s.d9[j]? with
 |none=>rw[a]at h;cases h
 |some f=>
  rw[a]at h;simp only at h;split at h
  .rename_i r;obtain⟨m,hm,rfl⟩:=Y9.1 h;obtain⟨w,x,y⟩:=uQ e (x7 a);have z:=mf w.2 hm;obtain⟨q,rfl⟩:∃q:Nat,m=q:=⟨m.toNat,Ω⟩;refine⟨?_,f,rfl,r,q,hm,Ω,Ω⟩;rw[show fq s j+1+(q:Int).toNat=fq s j+(q+1) by omega,xL a Ω];unfold og br;rw[a];simp only[hm];show f.cs[q]?=_;rw[u9,u5,x8 Ω];rfl
  .cases h
theorem yg(h:bE w ad ae A R n s t)(e:aN .i64 w aT tl):al v8 Aq [Γ ad,Δ (j:Int),aT] w λv I=>v=(if(io s j tl).isSome then .tuple #[Δ (og s j tl),Δ 0]else .tuple #[Δ 0,Δ 1])/\Ext w I:=by
 refine aB func37 ?_;rw[dg eL.u];simp only[Y2,a6];refine(EZ h e).Y ?_;rintro _ U _ ⟨rfl,a⟩;cases ac:io s j tl with
 |none=>
  simp only;rw[aS,am];exact⟨λ_=>⟨rfl,a⟩,λh=>Ω⟩
 |some p=>
  simp only;refine cd Ω ?_;obtain⟨x,y,z,B,bc,C,L,E,f,G,q,H,J,K⟩:=(h.W a).1.parts;rw[aK cV.p 1 f rfl];refine(pq q rfl (by rw[h.2.1];exact(E0 h.2.2.2.1 ac).1)).Y ?_;rintro _ aa _ ⟨rfl,r⟩;exact⟨rfl,a.F r⟩
end
theorem eY.parts{a:Nat}{e f q:x4}{A R:ah}{n:aH}{s:ak}{t:az}(h:eY w ad ae a e f q A R n s t):∃bc j L p,ag w ad cV [Γ a,Γ ae,e,f,q]/\gq w a n/\dz w ae p t/\aA .i64 ai w bc e (jG s)/\bj qB 3 gd w j f L/\my R w L s:=by
 obtain⟨_,bc,j,ge,L,E,p,w0,r,⟨x,y,G⟩,⟨z,H,I,J⟩,B,⟨C,F⟩,K,M⟩:=h;exact⟨bc,j,L,p,r,x.W y,z,B,C,F⟩
theorem Qk{a b:Int}(e:0<=a/\a<=k)(f:0<=b/\b<=k)(hk:1<=k/\k<=2147483648):al v8 AN [Δ a,Δ b,Δ k] w λv I=>v= .tuple #[Δ (min (a+b) k),Δ 0]/\Ext w I:=by
 refine Cy.Y ?_;rintro _ U _ ⟨rfl,h⟩;refine⟨?_,h⟩;unfold ry;rw[ms ⟨⟨hk,e.1,e.2⟩,hk,f.1,f.2⟩]
def Room(t:az):Prop:=t.marks=[]\/t.olds.length<100000000
def dK(s:ak)(i v:Nat):ak:=match s.d6[i]? with
 |some x=>{s with d6:=s.d6.set i {x with mask:=((x.mask.toNat ||| 2 ^ v:Nat):Int)}}
 |none=>s
theorem bd.uR{s:ak}{i:Nat}{x y:bn}(h:bd k co s)(e:s.d6[i]?=σ x)(r:y.un.length=x.un.length)(w:∀c∈y.un,0<=c/\c<=k)(hm:0<=y.mask/\y.mask<4294967296):bd k co {s with d6:=s.d6.set i y}:=
 ⟨h.fs,h.ed,h.zero,by show(s.d6.set i y).length=_;rw[o7];exact h.d6,λp z q a f=>by
  have a:(s.d6.set i y)[p]?=σ z:=a;rw[Y7]at a;by_cases j:i=p
  .subst j;rw[ms rfl,ms (x6.1 e).1]at a;cases a;exact⟨r.F (h.var i x q e f).1,w,hm⟩
  .rw[rc j]at a;exact h.var p z q a f,h.d9⟩
theorem bd.E1{s:ak}{f g:cr}(h:bd k co s)(e:s.d9[j]?=σ f)(h1:g.sc=f.sc)(p:g.aj=f.aj)(q:g.cs.length=f.cs.length)(r:∀c∈g.cs,0<=c/\c<=k):bd k co {s with d9:=s.d9.set j g}:=
 ⟨h.fs,h.ed,h.zero,h.d6,h.var,λx a=>by
  rcases W8 a with a|rfl
  .exact h.d9 x a
  .obtain⟨⟨w,y,z,A,B,F⟩,C,E⟩:=h.d9 f (x7 e);refine⟨⟨?_,?_,?_,?_,?_,r⟩,?_,?_⟩
   .show k3 x.sc;rw[h1];exact w
   .show x.sc.Pairwise _;rw[h1];exact y
   .show ∀v∈x.sc,_;rw[h1];exact z
   .show x.cs.length=(aQ (bN co x.sc)).toNat;rw[h1,q];exact A
   .show aQ (bN co x.sc)<=_;rw[h1];exact B
   .rw[h1,p];exact C
   .rw[h1];exact E⟩
theorem Ql{r:Nat}{c:List x4}(a:ag w r e c)(he:¬(e=gB\/e=e0\/e=na\/e=gP\/e=cV\/e=gd\/e=wu)):¬eG w r:=by
 rintro (⟨p,q,f,h⟩|j)
 .rw[fp a f]at he;exact he h
 .exact j _ a rfl
section
variable{w:x5}{ad ae:Nat}{A R:ah}{n:aH}{s:ak}{t:az}
theorem n5.set(h:n5 t)(a:Room t)(p:Nat)(x:Int):n5 (t.set p x):=by
 refine⟨by rw[az.Em];exact h.1,?_,by rw[az.xO];exact h.2.2⟩;rcases a with a|a
 .rw[az.xP a];exact h.2.1
 .have:=az.En t p x;omega
theorem E2{s':ak}{p:Nat}{x:Int}(h:bE w ad ae A R n s t)(q:y=(p:Int))(ac:p<s.cells.length)(z:s.cells.set p x=s'.cells)(J:pr s s')(B:bd n.k n.co s')(C:Room t):
  al v8 AB [Γ ae,Δ y,Δ x] w λr I=>r=Δ 0/\af (eG w) w I/\∃aM,Grow A w aM I/\bE I ad ae aM R n s' (t.set p x):=by
 obtain⟨E,f,j,_,G⟩:=id h;obtain⟨H,K,L⟩:=E.r4;have M:p<t.cells.length:=by rw[<-f]at ac;unfold az.b1 at ac;rw[r8]at ac;exact ac
 refine(uE K.min q M j).Y ?_;rintro _ U _ ⟨rfl,N,a,O⟩;obtain⟨aM,P,Q⟩:=L (λr=>H r\/N r) U _ ⟨a.1.Y λr _ h=>h.1,λr e=>e.elim .inl λh=>(a.2.1 r h).imp (λh=>h.1) id,λr e=>.inl e⟩ (O.Y λr h=>.inr h);exact⟨rfl,a.1.Y λr _ h=>.inl h.2,aM,P,Q.same J,by rw[az.ri,f,z],j.set C p x,B,G⟩
theorem yh{i v:Int}(h:bE w ad ae A R n s t)(K:Room t):al v8 Ii [Γ ad,Δ i,Δ v] w λr I=>(¬et n i v->r=Δ 1/\Ext w I)/\
  (et n i v->r=Δ 0/\af (eG w) w I/\∃aM x,Grow A w aM I/\bE I ad ae aM R n (dK s i.toNat v.toNat) (t.set (gX s i.toNat+1) x)):=by
 refine aB func71 ?_;rw[dg eL.u];simp only[Y2,a6];refine(ye h).Y ?_;rintro _ U _ ⟨rfl,f⟩;by_cases e:et n i v
 rotate_left
 .rw[rc e,aS,am];exact⟨λ_=>⟨λ_=>⟨by trivial,f⟩,λh=>ro h e⟩,λh=>Ω⟩
 rw[ms e];refine cd Ω ?_;obtain⟨x,a,M,ac,ag⟩:=e.var h.2.2.2.1;obtain⟨h1,ah,aj,ak⟩:=id e;have an:=h.2.2.2.1.d6;obtain⟨z,N⟩:=aD (l:=n.co) (i:=i.toNat) Ω;obtain⟨_,O,ao,ap⟩:=h.2.2.2.1.var i.toNat x z a N;have au:=uN a;have av:=uM h.2.1 h.2.2.1;obtain⟨aw,ax,ay,az,P⟩:=(h.W f).1;obtain⟨bc,aA,L,aC,E,aE,Q,S,aF,aG⟩:=P.parts;rw[aK cV.p 2 E rfl,fM (y:=i) (i:=i.toNat) Ω aq.u ai.i Ψ S.ls (uL Ω),aP,m1 Ω Ω];intro aa j _ _;have V:=f.F j;have G:=E.W j;have W:=Q.W j;obtain⟨q,rfl⟩:∃q:Nat,v=q:=⟨v.toNat,Ω⟩;obtain⟨mk,H⟩:∃mk:Nat,x.mask=mk:=⟨x.mask.toNat,Ω⟩;rw[u9]at M;rw[aK cV.p 1 G rfl,aK cV.p 1 G rfl,Qh Ω];have X:t.b1[gX s i.toNat+1]?=σ x.mask:=by rw[h.2.1,r2 a Ω];rfl
 refine(pq (i:=gX s i.toNat+1) W Ω X).Y ?_;rintro _ aH _ ⟨rfl,J⟩;refine⟨.inl J,?_⟩;have aI:(2:Nat) ^ q<=2 ^ 31:=S5 Ω Ω;rw[H,Qg Ω Ω];have B:=V.F J;have aJ:mk ||| 2 ^ q<2 ^ 32:=Nat.or_lt_two_pow Ω Ω;have C:dK s i.toNat (q:Int).toNat={s with d6:=s.d6.set i.toNat {x with mask:=((mk ||| 2 ^ q:Nat):Int)}}:=by
  unfold dK;rw[a];simp only[H,u9]
 refine(E2 (p:=gX s i.toNat+1) (s':=dK s i.toNat (q:Int).toNat) (h.W B) Ω Ω ?_ ?_ ?_ K).Y ?_
 .rw[C,Ee a Ω];rfl
 .rw[C];exact Ek a rfl
 .rw[C];exact h.2.2.2.1.uR a rfl O ⟨by simp only;omega,by simp only;omega⟩
 rintro _ aL _ ⟨rfl,Y,aM,Z,ab⟩;exact⟨λh=>ro e h,λ_=>⟨rfl,jf B Y,aM,_,(Grow.W B).F Z,ab⟩⟩
end
theorem uS{ds:x4}{v:Int}(h:aN .i64 w ds l):al v8 HS [ds,Δ v] w λr I=>r= .bool (decide (v∈l))/\Ext w I:=by
 refine aB func30 ?_;rw[a1 aq.u h];refine ch.range l.length (λi _ U=>Ext w U/\v∉l.take i) h.le ⟨Ext.refl _,Ξ⟩ ?_ ?_
 .rintro i _ U k hi ⟨a,e⟩ hk;obtain⟨x,f⟩:=aD (l:=l) hi;refine bG Ω ?_;rw[bk aq.u ai.i Ψ (h.W a) f,bm,am];refine⟨λhe=>⟨by rw[rs];rw[<-he];exact x7 f,a⟩,λj=>?_⟩;rw[aP];refine hk _ _ ⟨a,λhm=>?_⟩;rw[r9,f,j6,j9,b9]at hm;rcases hm with hm|hm
  .exact e hm
  .exact j hm.symm
 .rintro _ U k ⟨a,e⟩;rw[j4]at e;rw[aS,am];exact⟨λh=>Ω,λ_=>⟨by rw[s2 e],a⟩⟩
theorem E3:∀{s t:Λ}{m k v:Int},s.length=t.length->cp (s++[k]) (t++[v]) m=(cp s t m).bind λr=>if 0<=v/\v<k then σ (r*k+v)else ν
 |[],[],m,k,v,_=>by simp[cp]
 |x::s,y::t,m,k,v,h=>by
  have h:s.length=t.length:=by simpa using h
  rw[List.cons_append,List.cons_append];simp only[cp];split
  .exact E3 h
  .rfl
theorem E4{x:bn}{v:Int}(h:0<=v/\v<x.un.length):v∈aC x↔dropped x.mask v=v6:=by
 unfold aC;rw[S9,j5];constructor
 .rintro⟨_,a⟩;simpa using a
 .intro a;exact⟨⟨v.toNat,S2.2 Ω,Ω⟩,by simp[a]⟩
def b3(s:ak):Prop:=∀f∈s.d9,f.live≠0->∀v∈f.sc,∀x,s.d6[v.toNat]?=σ x->x.gone=0
theorem gq.put{g x:Nat}{c:List x4}{n:aH}(h:gq w x n)(a:ag w g aI c)(f:af (λr=>r=g) w I):gq I x n:=by
 have p:=ET a;have y:∀r,r=g->∃e c,ag w r e c/\e≠iy/\e≠c5/\e≠ai/\e≠av/\e≠aw:=λr j=>by
  subst j;exact⟨_,c,a,Φ,Φ,Φ,Φ,Φ⟩
 obtain⟨z,A,B,C,gr,aX,L,nm,lc,gz,fv2,h1,E,F,G,H,J,K⟩:=h;refine⟨z,A,B,C,gr,aX,L,nm,lc,gz,fv2,yb h1 f p Φ,yb E f p Φ,ya F f p Φ,G.V f λr j=>?_,H,J.V f λr j=>?_,K⟩
 .obtain⟨e,c,a,_,_,_,q,s⟩:=y r j;exact⟨e,c,a,q,s⟩
 .obtain⟨e,c,a,q,s,M,N,_⟩:=y r j;exact⟨e,c,a,q,s,M,N⟩
theorem StateM.put{g:Nat}{A R:ah}{n:aH}{s:ak}{t:az}{c:List x4}(h:StateM w ad ae A R n s t)(y:ag w g aI c)(p:af (λr=>r=g) w I)(U:¬A g):∃R',(∀r,R' r->R r/\r≠g)/\StateM I ad ae A R' n s t:=by
 obtain⟨W,X,Y,Z,⟨h1,aa,ab,ac⟩,bc,ai,ge,L,E,aj,w0,al,⟨M,C,am⟩,⟨an,N,ao,ap⟩,aq,⟨au,O⟩,av,P⟩:=h;obtain⟨cB,Q⟩:=D7;have z:=p.size;have q:=ET y;have B:∀r,(w0.heap.setIfInBounds g cB)[r]?=if g=r then(if g<w0.heap.size then σ cB else ν)else w0.heap[r]?:=λr=>Array.getElem?_setIfInBounds;have aw:∀r,A r->r≠g:=λr a he=>U (he▸a);have int:∀{v:x4}{l:Λ},kb R w v l->kb (λr=>R r/\r≠g) I v l:=λ⟨⟨ax,hm⟩,ay⟩=>⟨⟨ax,ya hm p q Φ⟩,λr a=>⟨ay r a,ce hm y Φ a⟩⟩;refine⟨λr=>R r/\r≠g,λr h=>h,W,X,Y,Z,⟨h1,λr a aA=>aa r a aA.1,λr a=>by have:=ab r a.1;omega,λr a=>by have:=ac r a;omega⟩,bc,ai,ge,L,E,aj,{w0 with heap:=w0.heap.setIfInBounds g cB},yb al p q Φ,⟨?_,?_,?_⟩,
  ⟨an.V p λr a=>aw r (N r a),N,ao,ap⟩,ya aq p q Φ,⟨ES au p q Φ,O.1,λj x f F aB=>?_⟩,ES av p q Φ,P.1,λj x e F he=>?_⟩
 .by_cases J:∃o,w0.heap[g]?=σ o/\fH o=v2
  .obtain⟨o,S,aC⟩:=J;have aD:ag w0 g aI c:=by
    unfold ag at y ⊢;have:=C.aY g o S aC;rw[y]at this;rw[S,this]
   refine M.put aD ⟨Ξ,λr o a J aE=>?_⟩;show(w0.heap.setIfInBounds g cB)[r]?=σ o;rw[B,rc λhe=>aE he.symm];exact a
  .refine M.W ⟨Ξ,λr o a aF=>?_⟩;show(w0.heap.setIfInBounds g cB)[r]?=σ o;rw[B,rc λhe=>J ⟨o,by rw[he];exact a,aF⟩];exact a
 .refine⟨by show(w0.heap.setIfInBounds g cB).size<=_;rw[Array.size_setIfInBounds];exact X1 C.size z,λr o a J=>?_⟩;have a:(w0.heap.setIfInBounds g cB)[r]?=σ o:=a;rw[B]at a;by_cases he:g=r
  .rw[ms he]at a;split at a
   .cases a;rw[Q]at J;cases J
   .cases a
  .rw[rc he]at a;exact p.aY r o (C.aY r o a J) J λh=>he h.symm
 .intro r o a J;have a:(w0.heap.setIfInBounds g cB)[r]?=σ o:=a;rw[B]at a;by_cases he:g=r
  .rw[ms he]at a;split at a
   .cases a;rw[Q]at J;cases J
   .cases a
  .rw[rc he]at a;exact⟨am r o a J,λh=>he h.symm⟩
 .obtain⟨G,H,K⟩:=O.2 j x f F aB;exact⟨int G,int H,K⟩
 .obtain⟨G,H,K⟩:=P.2 j x e F he;exact⟨G,int H,int K⟩
theorem Qm{f:b7}(j:pl.length<=60000)(h:gS pl=σ f):∃N,N<=60000/\fl N f/\f.name≠[]/\∀b∈f.name,bV b=v2:=by
 unfold gS at h;rw[rc Ω]at h;cases a:jw ⟨(lex pl).1,0,v6,[]⟩with
 |none=>rw[a]at h;cases h
 |some q=>
  obtain⟨p,s⟩:=q;rw[a]at h;simp only at h;split at h
  .rename_i au;cases h;obtain⟨h1,e⟩:=Cs rfl a au.2.2;have r:=rg pl.length pl (o4 _);obtain⟨U,aa,_⟩:=tv pl.length pl (o4 _) f.name e;exact⟨_,by show(lex pl).1.length<=60000;omega,h1,U,aa⟩
  .cases h
theorem Qn:al v8 As [.pointer ν] w λv I=>v= .pointer ν/\Ext w I:=by
 refine aB func62 ?_;rw[dg nL.u];simp only[Option.isNone_none,bQ];exact⟨by trivial,Ext.refl _⟩
theorem Qo(h:aN .u8 w v l)(B:l.length<=100000):al v8 H5 [v] w λf I=>Ext w I/\∃g,aA .u8 cN I g f l:=by
 have e:=h;obtain⟨C,b,o,base,cap,rfl,E,hm,q,s⟩:=h;refine aB func58 ?_;rw[tk cT.u,b4];refine⟨λx=>⟨Ext.refl _,0,?_⟩,λ_=>?_⟩
 .have:l=[]:=by
   cases base with
   |none=>
        by_cases e:0<l.length
        .have:=q e;cases this
        .exact Z5 Ω
   |some a=>cases x
  subst this;exact aA.nil _ _ _ _
 .refine yc (k:=.u8) cT.u cN.i λG g1 U H j p=>?_;refine jg cT.u cN.i rfl p (e.W j) Θ Θ λf y aa z J A=>?_;exact⟨j.then A (λr s he=>by have:=(bZ p he).1;omega),y,by simpa using z⟩
def Qp(sv:x4):Prop:=∃cs:List x4,sv= .agg cs.toArray/\cs.length=8/\∀u∈cs,u.oneCell'=v2
theorem E5:Qp (.agg z12.toArray):=⟨z12,rfl,rfl,by intro u hu;simp[z12]at hu;rcases hu with rfl|rfl|rfl|rfl<;>rfl⟩
theorem yi{f:b7}(a:fl N f):(cf f).d9.length<=256:=by
 have h1:=(rO a).2.length_eq;have h:=(mr a).2.2;have j:=List.length_filter_le fQ (fR f);have p:=a.mm;have e:=(qy f (fS f).length).2.2.2;rw[uC]at e;omega
theorem Qq{n:aH}{t:az}(e:k4 n)(f:n.d9.length<=256)(h:t.b1=(cR n).cells)(a:Plain t):n5 t:=by
 have h1:=uJ e f n.unary.length n.d9.length;rw[xT,<-h]at h1;unfold az.b1 at h1;rw[r8]at h1;refine⟨Ω,?_,?_⟩
 .rw[a.2.1];exact W0 _
 .rw[a.1];exact W0 _
section
variable{w:x5}{ad ae:Nat}{A R:ah}{n:aH}{s:ak}{t:az}
theorem Qr{j:Int}(h:bE w ad ae A R n s t)(p:¬(0<=j/\j<s.d9.length)):al v8 tc [Γ ad,Δ j] w λr I=>r= .slice ν 0 0/\Ext w I:=by
 refine aB func103 ?_;refine aZ (λv U=>v= .bool v2/\Ext w U) ?_ ?_
 .rintro _ U ⟨rfl,e⟩;rw[bQ];exact⟨rfl,e⟩
 intro ax a;rw[aS,am];refine⟨λ_=>a _ _ ⟨rfl,Ext.refl _⟩,λq=>?_⟩;refine(sa h).Y ?_;rintro _ x _ ⟨rfl,f⟩;rw[cP];exact a _ _ ⟨by rw[rs Ω],f⟩
end
section
variable{w:x5}{B:Nat}{sv:x4}{k:Int}{co:Λ}{s:ak}
end
def ip:List (Λ)->List (Λ)
 |[]=>[[]]
 |d::a=>d.flatMap λv=>(ip a).map (v:: ·)
theorem sb:∀{a:List (Λ)}{t:Λ},t∈ip a↔t.length=a.length/\∀(p:Nat)d v,a[p]?=σ d->t[p]?=σ v->v∈d
 |[],t=>by
  simp only[ip,b9];exact⟨λh=>by subst h;exact⟨rfl,λp d v h=>by simp at h⟩,λh=>Z5 h.1⟩
 |d::a,t=>by
  simp only[ip,List.mem_flatMap,j5];constructor
  .rintro⟨v,j,bs,q,rfl⟩;obtain⟨h1,e⟩:=sb.1 q;refine⟨by simp[h1],λp f u ac hu=>?_⟩;cases p with
   |zero=>simp at ac hu;subst ac hu;exact j
   |succ p=>exact e p f u (by simpa using ac) (by simpa using hu)
  .rintro⟨h1,e⟩;cases t with
   |nil=>simp at h1
   |cons v bs=>exact⟨v,e 0 d v rfl rfl,bs,sb.2 ⟨by simpa using h1,λp f u ac hu=>e (p+1) f u (by simpa using ac) (by simpa using hu)⟩,rfl⟩
def oh:List (Int->Bool)->Λ->Bool
 |q::a,v::t=>q v&&oh a t
 |_,_=>v2
theorem E6:∀(j:List (Λ))(a:List (Int->Bool)),a.length=j.length->ip ((j.zip a).map λp=>p.1.filter p.2)=(ip j).filter (oh a)
 |[],[],_=>rfl
 |d::j,q::a,h=>by
  have r:=E6 j a (by simpa using h);simp only[List.zip_cons_cons,T3,ip];rw[r];clear r h;induction d with
  |nil=>rfl
  |cons v d s=>
   rw[V6,List.filter_append,<-s];have e:((ip j).map (v:: ·)).filter (oh (q::a))=if q v then((ip j).filter (oh a)).map (v:: ·)else[]:=by
    rw[List.filter_map];by_cases f:q v=v2
    .rw[ms f];congr 1;apply List.filter_congr;intro t _;show(q v&&oh a t)=_;rw[f,Q4]
    .rw[rc f];rw[List.filter_eq_nil_iff.2 λt _=>by show¬(q v&&oh a t)=v2;simp[f]];rfl
   rw[e];by_cases f:q v=v2
   .rw[ms f,List.filter_cons_of_pos f,V6]
   .rw[rc f,List.filter_cons_of_neg f];rfl
def iq(k:Int):Λ:=(X9 k.toNat).map λv:Nat=>(v:Int)
theorem uT:∀(s:Λ),bo s=ip (s.map iq)
 |[]=>rfl
 |k::s=>by
  simp only[bo,T3,ip,iq,List.flatMap_map,<-uT s]
theorem sd{v:Int}:v∈iq k↔0<=v/\v<k:=by
 unfold iq;rw[j5];constructor
 .rintro⟨n,a,rfl⟩;have:=S2.1 a;omega
 .intro h;exact⟨v.toNat,S2.2 Ω,Ω⟩
def dS(f:Int->Int)(L:List (Λ))(aj cs:Λ):Λ:=((bo aj).zip cs).map λp=>if p.1∈L then f p.2 else p.2
theorem py(f:Int->Int)(L:List (Λ))(aj cs:Λ)(h:cs.length<=(bo aj).length):(dS f L aj cs).length=cs.length:=by
 unfold dS;rw[r8,List.length_zip];omega
theorem qF{f:Int->Int}{L:List (Λ)}{i:Nat}(a:(bo aj)[i]?=σ t)(e:cs[i]?=σ c):(dS f L aj cs)[i]?=σ (if t∈L then f c else c):=by
 unfold dS;have h:((bo aj).zip cs)[i]?=σ (t,c):=List.getElem?_zip_eq_some.2 ⟨a,e⟩;rw[u4,h];rfl
theorem Qs{f:Int->Int}{L:List (Λ)}{i:Nat}(J:dP aj)(q:cs.length<=(bo aj).length)(p:(bo aj)[i]?=σ t)(r:cs[i]?=σ c)(x:t∉L):(dS f L aj cs)[i]?=σ c/\(dS f L aj cs).set i (f c)=dS f (L++[t]) aj cs:=by
 have h1:=qF (f:=f) (L:=L) p r;rw[rc x]at h1;refine⟨h1,?_⟩;apply X0;intro j;rw[Y7];by_cases s:i=j
 .subst s;rw[ms rfl,ms (x6.1 h1).1,qF p r,ms Ξ]
 .rw[rc s];cases a:cs[j]? with
  |none=>
   have:=List.getElem?_eq_none_iff.1 a;rw[Y5 (by rw[py _ _ _ _ q];exact this),Y5 (by rw[py _ _ _ _ q];exact this)]
  |some A=>
   obtain⟨u,hu⟩:∃u,(bo aj)[j]?=σ u:=⟨_,x8 (by have:=(x6.1 a).1;omega)⟩;rw[qF hu a,qF hu a];have y:u≠t:=λhe=>by
    subst he;have z:=kw J p;have w:=kw J hu;rw[z]at w;have:=Z4 w;omega
   have:u∈L++[t]↔u∈L:=by simp[y]
   by_cases e:u∈L
   .rw[ms e,ms (this.2 e)]
   .rw[rc e,rc λh=>e (this.1 h)]
def k9(s:ak)(i v:Nat)(c:Int):ak:=match s.d6[i]? with
 |some x=>{s with d6:=s.d6.set i {x with un:=x.un.set v c}}
 |none=>s
def la(s:ak)(j m:Nat)(c:Int):ak:=match s.d9[j]? with
 |some f=>{s with d9:=s.d9.set j {f with cs:=f.cs.set m c}}
 |none=>s
theorem se{i:Nat}(h:∀x∈l,0<=x/\x<=k)(e:0<=c/\c<=k):∀x∈l.set i c,0<=x/\x<=k:=λx a=>by
 rcases W8 a with a|rfl
 .exact h x a
 .exact e
def oi(w:x5)(ad ae:Nat)(A R:ah)(n:aH)(s':ak)(t:az)(v:x4)(I:x5):Prop:=v=Δ 0/\af (eG w) w I/\∃aM p x,Grow A w aM I/\bE I ad ae aM R n s' (t.set p x)
theorem oi.W{U:x5}{A R:ah}{n:aH}{s':ak}{t:az}(a:Ext w U)(h:oi U ad ae A R n s' t v I):oi w ad ae A R n s' t v I:=by
 obtain⟨h1,e,aM,p,x,f,j⟩:=h;exact⟨h1,jf a e,aM,p,x,(Grow.W a).F f,j⟩
section
variable{w:x5}{ad ae:Nat}{A R:ah}{n:aH}{s:ak}{t:az}
theorem sf(h:bE w ad ae A R n s t)(f:y<0\/¬(0<=c/\c<=n.k)):al v8 AU [Γ ad,Δ y,Δ c] w λv I=>v=Δ (if y<0 then 1 else 3)/\Ext w I:=by
 refine aB func263 ?_;rw[dg eL.u];simp only[Y2,a6];rw[aS,am];refine⟨λe=>⟨by rw[ms e],Ext.refl _⟩,λe=>?_⟩;refine(oe h).Y ?_;rintro _ U _ ⟨rfl,j⟩;refine(kU (a:=c) (k:=n.k)).Y ?_;rintro _ aa _ ⟨rfl,p⟩;have q:=f.resolve_left e;rw[s2 (λh=>q h.2),bM,W6,bQ,rc e];exact⟨rfl,j.F p⟩
theorem yj{s':ak}{p:Nat}(h:bE w ad ae A R n s t)(f:Room t)(j:y=(p:Int))(ac:p<s.cells.length)(q:s.cells.set p c=s'.cells)(J:pr s s')(r:bd n.k n.co s')(x:0<=c/\c<=n.k):
  al v8 AU [Γ ad,Δ y,Δ c] w (oi w ad ae A R n s' t):=by
 refine aB func263 ?_;rw[dg eL.u];simp only[Y2,a6];refine cd Ω ?_;refine(oe h).Y ?_;rintro _ U _ ⟨rfl,z⟩;refine(kU (a:=c) (k:=n.k)).Y ?_;rintro _ aa _ ⟨rfl,B⟩;have e:=z.F B;rw[rs (show cG c n.k from⟨h.2.2.2.1.fs,x⟩),bM,X3,a6];obtain⟨I,K,M,N,bc,O,L,P,C,Q,S,V,W,X⟩:=(h.W e).1.parts;rw[aK cV.p 1 C rfl];refine(E2 (h.W e) j ac q J r f).Y ?_;rintro _ Y _ ⟨rfl,E,aM,G,H⟩;exact oi.W e ⟨rfl,E,aM,_,_,G,H⟩
theorem Qt(h:bE w ad ae A R n s t)(e:Room t):al v8 JS [Γ ad,Δ c] w λv I=>(¬(0<=c/\c<=n.k)->v=Δ 3/\Ext w I)/\((0<=c/\c<=n.k)->oi w ad ae A R n {s with zero:=c} t v I):=by
 refine aB func218 ?_;by_cases a:0<=c/\c<=n.k
 .refine (yj (p:=0) h e rfl (by unfold ak.cells j8;simp) (Pm s c) (Ej s c) ⟨h.2.2.2.1.fs,h.2.2.2.1.ed,a,h.2.2.2.1.d6,h.2.2.2.1.var,h.2.2.2.1.d9⟩ a).Y ?_;rintro v U _ f;exact⟨λh=>ro a h,λ_=>f⟩
 .refine (sf h (.inr a)).Y ?_;rintro v U _ ⟨rfl,j⟩;exact⟨λ_=>⟨rfl,j⟩,λh=>ro h a⟩
theorem E7{i v:Int}(h:bE w ad ae A R n s t)(B:Room t):al v8 JR [Γ ad,Δ i,Δ v,Δ c] w λr I=>
  (¬et n i v->r=Δ 1/\Ext w I)/\(et n i v->¬(0<=c/\c<=n.k)->r=Δ 3/\Ext w I)/\(et n i v->(0<=c/\c<=n.k)->oi w ad ae A R n (k9 s i.toNat v.toNat c) t r I):=by
 refine aB func217 ?_;refine(ye h).Y ?_;rintro _ U _ ⟨rfl,e⟩;by_cases a:et n i v
 .rw[ms a];by_cases j:0<=c/\c<=n.k
  .obtain⟨x,f,H,J,_⟩:=a.var h.2.2.2.1;have K:=h.2.2.2.1.d6;obtain⟨z,C⟩:∃z,n.co[i.toNat]?=σ z:=⟨_,x8 (by have:=a.1;have:=a.2.1;omega)⟩;obtain⟨_,E,hm⟩:=h.2.2.2.1.var i.toNat x z f C;have L:=uN f;have q:k9 s i.toNat v.toNat c={s with d6:=s.d6.set i.toNat {x with un:=x.un.set v.toNat c}}:=by unfold k9;rw[f]
   refine(yj (p:=gX s i.toNat+(2+v.toNat)) (s':=k9 s i.toNat v.toNat c) (h.W e) B Ω Ω ?_ ?_ ?_ j).Y ?_
   .rw[q];refine Ee f Ω ?_;rw[show 2+v.toNat=v.toNat+1+1 by omega];rfl
   .rw[q];exact Ek f Ξ
   .rw[q];exact h.2.2.2.1.uR f Ξ (se E j) hm
   .rintro r aa _ G;exact⟨λh=>ro a h,λ_ h=>ro j h,λ_ _=>G.W e⟩
  .refine (sf (h.W e) (.inr j)).Y ?_;rintro r aa _ ⟨rfl,y⟩;rw[rc Ω];exact⟨λh=>ro a h,λ_ _=>⟨rfl,e.F y⟩,λ_ h=>ro h j⟩
 .rw[rc a];refine(sf (h.W e) (.inl Ω)).Y ?_;rintro r aa _ ⟨rfl,y⟩;rw[ms Ω];exact⟨λ_=>⟨rfl,e.F y⟩,λh=>ro h a,λh=>ro h a⟩
theorem Qu(h:bE w ad ae A R n s t)(C:Room t)(E:aN .i64 w aT tl):al v8 JQ [Γ ad,Δ (j:Int),aT,Δ c] w λr I=>
  (io s j tl=ν->r=Δ 1/\Ext w I)/\((io s j tl).isSome=v2->¬(0<=c/\c<=n.k)->r=Δ 3/\Ext w I)/\
  ((io s j tl).isSome=v2->(0<=c/\c<=n.k)->∀f (m:Nat),s.d9[j]?=σ f->cp f.aj tl 0=σ (m:Int)->oi w ad ae A R n (la s j m c) t r I):=by
 refine aB func216 ?_;refine(EZ h E).Y ?_;rintro _ U _ ⟨rfl,e⟩;cases G:io s j tl with
 |none=>
  simp only;refine(sf (h.W e) (.inl Ω)).Y ?_;rintro r aa _ ⟨rfl,x⟩;rw[ms Ω];exact⟨λ_=>⟨rfl,e.F x⟩,λh=>by simp at h,λh=>by simp at h⟩
 |some p=>
  simp only;by_cases q:0<=c/\c<=n.k
  .obtain⟨K,f,a,L,m,hm,M,rfl⟩:=E0 h.2.2.2.1 G;have N:=EW a;have y:la s j m c={s with d9:=s.d9.set j {f with cs:=f.cs.set m c}}:=by unfold la;rw[a]
   obtain⟨H,_⟩:=h.2.2.2.1.d9 f (x7 a);refine(yj (p:=fq s j+(m+1)) (s':=la s j m c) (h.W e) C rfl Ω ?_ ?_ ?_ q).Y ?_
   .rw[y];exact Pn a Ω rfl
   .rw[y];exact Pw a Ξ rfl rfl
   .rw[y];exact h.2.2.2.1.E1 a rfl rfl Ξ (se H.jd q)
   .rintro r aa _ J;refine⟨(λh=>by cases h),λ_ h=>ro q h,λ_ _ O bP z B=>?_⟩;rw[a]at z;cases z;rw[hm]at B;have:bP=m:=by have:=Z4 B;omega
    subst this;exact J.W e
  .refine (sf (h.W e) (.inr q)).Y ?_;rintro r aa _ ⟨rfl,x⟩;rw[rc Ω];exact⟨(λh=>by cases h),λ_ _=>⟨rfl,e.F x⟩,λ_ h=>ro h q⟩
end
def eZ(of:Int->Int)(p:Int×Int)(v:Int):Int×Int:=if p.2= -1\/of v<p.1 then(of v,v)else p
def dZ(k:Int)(l:Λ)(of:Int->Int):Int×Int:=l.foldl (eZ of) (k,-1)
theorem mD{s:ak}{n:aH}{i:Int}{b m:Nat}{x:bn}(h:uP s n i b m)(e:0<=i)(f:s.d6[i.toNat]?=σ x):(gI b m).map (λv:Nat=>(v:Int))=aC x:=by
 obtain⟨_,_,j⟩:=h;obtain⟨rfl,p⟩:=j x e f;unfold gI aC;rw[List.filter_map];congr 1;refine List.filter_congr λq a=>?_;have a:=S2.1 a;rw[p,rs a,Q4];rfl
section
variable{w:x5}{ad ae:Nat}{A R:ah}{n:aH}{s:ak}{t:az}
def lb(n:aH)(s:ak)(i:Int):Bool:=decide (0<=i/\i<n.co.length)&& !dr s i.toNat
theorem Qv{i:Int}(h:bE w ad ae A R n s t):al v8 Jd [Γ ad,Δ i] w λv I=>v=Δ (if lb n s i=v2 then 0 else 1)/\Ext w I:=by
 refine aB func161 ?_;rw[dg eL.u];simp only[Y2,a6];refine aZ (λv U=>v= .bool (!lb n s i)/\Ext w U) ?_ ?_
 .rintro _ U ⟨rfl,a⟩;rw[b4];refine⟨λj=>⟨by rw[rc (by simpa using j)],a⟩,λj=>⟨by rw[ms (by simpa using j)],a⟩⟩
 intro ax p;refine(uO h).Y ?_;rintro _ U _ ⟨rfl,a⟩;rw[b4];refine⟨λe=>p _ _ ⟨?_,a⟩,λe=>?_⟩
 .rw[U9]at e;unfold lb;rw[e.2,X3,Bool.and_false];rfl
 refine(kC (i:=i) (h.W a)).Y ?_;rintro _ aa _ ⟨⟨b,m,rfl,G,y,B⟩,C⟩;refine(wV).Y ?_;rintro _ H _ ⟨rfl,E⟩;rw[bm];refine p _ _ ⟨?_,(a.F C).F E⟩;congr 1;have J:=h.2.2.2.1.d6;unfold lb;by_cases f:0<=i/\i<n.co.length
 .obtain⟨x,q⟩:=aD (l:=s.d6) (i:=i.toNat) Ω;obtain⟨z,r⟩:=aD (l:=n.co) (i:=i.toNat) Ω;have h1:=(h.2.2.2.1.var i.toNat x z q r).1;have K:=h.2.2.2.1.ed.2.2 z (x7 r);have hm:=(B x f.1 q).1;rw[rs f.1,Q4]at e;rw[rs f,e,s2 Ω];rfl
 .rw[s2 f,(y f).2];rfl
def E8(w:x5)(lS:Nat)(cap:Array x4)(l:Λ)(of:Int->Int):Prop:=∀(I:x5)(v:Int),Ext w I->v∈l->al v8 lS (Δ v::cap.toList) I λr a=>r=Δ (of v)/\Ext I a
theorem Qw{i:Int}{x:bn}{of:Int->Int}{lS:Nat}{cap:Array x4}(h:bE w ad ae A R n s t)(M:Laid w)(aL:0<=i)(f:s.d6[i.toNat]?=σ x)(aM:E8 w lS cap (aC x) of):
  al v8 Je [Γ ad,Δ i,.func (.func lS) #[] cap] w λr I=>Ext w I/\r= .tuple #[Δ (dZ n.k (aC x) of).1,Δ (dZ n.k (aC x) of).2]:=by
 refine jr func162 ?_;refine bp λaN U bd N E=>?_;have E:=E;refine(oe (h.W N)).Y ?_;rintro _ aa _ ⟨rfl,G⟩;refine bF av.i λO be bf an ao=>?_;refine bF ai.i λga bg bh P ap=>?_;have bi:=(N.F G).size;have z3:=an.size;have z4:=P.size;refine bt av.i rfl rfl (ao.W P) Φ λbj aq bk aO=>?_;have bl:=ao.lt;have bo:=ap.lt;refine bt ai.i rfl rfl (ap.V aq Ω) Φ λbq au br aP=>?_;have aQ:=aO.V au Ω;have aw:=((an.F P).then aq λr a he=>by have he:r=O:=he;omega).put au Ω;have ay:=(N.F G).F aw;refine(kC (i:=i) (h.W ay)).Y ?_;rintro _ bs _ ⟨⟨b,m,rfl,Q⟩,az⟩;refine(nW).Y ?_;rintro _ W _ ⟨aR,bc,rfl,bu,X⟩;have bw:=Q.1;have aA:=mD Q aL f;have B:=az.F aR;have y:=ay.F B;have bx:=y.size;have bz:=B.size;have bA:=E.lt;have bB:=az.size;have z12:=G.size;obtain⟨S,H⟩:∃S:ah,S=λr=>r=O\/r=ga:=⟨_,rfl⟩;have J:∀r,S r->w.heap.size<=r:=λr a=>by rw[H]at a;rcases a with rfl|rfl<;>omega
 have Y:∀r,S r->r≠aN/\r≠bc:=λr a=>by rw[H]at a;rcases a with rfl|rfl<;>omega
 let st:Nat->Int×Int:=λj=>((aC x).take j).foldl (eZ of) (n.k,-1);have aT:=E.W (G.F (aw.F B));refine lx.old ⟨_,v6,kl,#[Γ bc],_,_,_,_,λj I=>af S W I/\ag I O av [Δ (st j).1]/\ag I ga ai [Δ (st j).2],λ_ _ _=>False,rfl,(nV (g:=bc) Q.1).s,?_,
  λ_ _ f h=>⟨h.1.W f,h.2.W f⟩,λ_ _ _ f h=>⟨h.1.F (f.V S),h.2.1.W f,h.2.2.W f⟩,λ_ _ _ _ _ h=>h,⟨X,M.W y⟩,⟨af.refl _ _,aQ.W B,aP.W B⟩,?_,?_,λ_ _ h=>h.elim,λ_ _ _ h=>h.elim⟩
 .rintro _ _ _ _ ⟨_,_,_,_,rfl⟩;rfl
 .rintro _ j _ aU ⟨_,_⟩ ⟨bC,rfl,v,aV,aW⟩ ⟨z,K,L⟩;cases aW;intro aB p _ _;have aD:(aC x)[j]?=σ (v:Int):=by rw[<-aA,u4,aV];rfl
  have aF:st (j+1)=eZ of (st j) v:=by
   show((aC x).take (j+1)).foldl _ _=_;rw[r9,aD,S3];rfl
  have aX:=((y.then z λr a h=>by have:=J r h;omega)).F p;have aY:=(aT.V z λh=>(Y _ h).1 rfl).W p;rw[aE Ψ (aY.cell rfl)];refine al.Y (aM aB v aX (x7 aD)) ?_;rintro _ aG _ ⟨rfl,Z⟩;have ab:=p.F Z;have ac:=K.W ab;have aj:=L.W ab;refine aZ (λr ak=>r= .bool (decide ((st j).2= -1\/of v<(st j).1))/\Ext aG ak) ?_ ?_
  .rintro _ ak ⟨rfl,C⟩;have aH:=ab.F C;rw[am];refine⟨λa1=>?_,λa2=>?_⟩
   .refine bt av.i rfl rfl (ac.W C) Ξ λbD aI bG a6=>?_;refine bt ai.i rfl rfl ((aj.W C).V aI Ω) Ξ λa7 aJ bH a8=>?_;have ba:=a6.V aJ Ω;have q:af S W a7:=((z.F (aH.V S)).F (aI.Y λr _ h=>by rw[H];exact .inl h)).F (aJ.Y λr _ h=>by rw[H];exact .inr h);have e:st (j+1)=(of v,(v:Int)):=by rw[aF];unfold eZ;rw[ms a1]
    refine⟨⟨X.V q λh=>(Y _ h).2 rfl,(M.W (y.then q λr a h=>by have:=J r h;omega))⟩,⟨q,?_,?_⟩,λh=>by cases h⟩
    .rw[e];exact ba
    .rw[e];exact a8
   .have e:st (j+1)=st j:=by rw[aF];unfold eZ;rw[rc a2]
    have q:af S W ak:=z.F (aH.V S);refine⟨⟨X.V q λh=>(Y _ h).2 rfl,(M.W (y.then q λr a h=>by have:=J r h;omega))⟩,⟨q,?_,?_⟩,λh=>by cases h⟩
    .rw[e];exact ac.W C
    .rw[e];exact aj.W C
  .intro ax aK;rw[aE Ψ (aj.cell rfl),bm,am];refine⟨λh1=>aK _ _ ⟨by rw[rs (.inl h1)],Ext.refl _⟩,λh1=>?_⟩;rw[aE Ψ (ac.cell rfl),aS];refine aK _ _ ⟨?_,Ext.refl _⟩;congr 1;exact decide_eq_decide.2 ⟨.inr,λh=>h.resolve_left h1⟩
 .rintro k aU rfl ⟨z,K,L⟩;intro aB p _ _;have bb:st (gI b m).length=dZ n.k (aC x) of:=by
   show((aC x).take _).foldl _ _=_;rw[Z0 (by rw[<-aA,r8];exact o4 _)];rfl
  rw[bb]at K L;rw[aE Ψ ((K.W p).cell rfl),aE Ψ ((L.W p).cell rfl)];intro aG Z _;exact⟨((y.then z λr a h=>by have:=J r h;omega).F p).F Z,rfl⟩
end
theorem E9{x:bn}{v:Int}(h:v∈aC x):0<=v/\v<x.un.length:=by
 unfold aC at h;obtain⟨h,_⟩:=S9.1 h;obtain⟨q,a,rfl⟩:=j5.1 h;have:=S2.1 a;omega
theorem Qx{s:ak}{n:aH}{i v:Int}{b m:Nat}{x:bn}(h:uP s n i b m)(f:0<=i)(j:s.d6[i.toNat]?=σ x):(decide (0<=v/\v<m)&&b.testBit v.toNat)=decide (v∈aC x):=by
 obtain⟨_,_,p⟩:=h;obtain⟨rfl,q⟩:=p x f j;by_cases a:0<=v/\v<x.un.length
 .rw[rs a,Q4,q,rs (show v.toNat<x.un.length by omega),Q4,show((v.toNat:Nat):Int)=v by omega];have:=E4 a;cases e:dropped x.mask v with
  |false=>rw[rs (this.2 e)];rfl
  |true=>rw[s2 λh=>by rw[this.1 h]at e;cases e];rfl
 .rw[s2 a,s2 λh=>a (E9 h)];rfl
def yk(s:ak)(j:Nat)(tl:Λ):Int:=if(io s j tl).isSome then og s j tl else 0
def cv(n:aH)(s:ak)(i v:Int):Int:=if et n i v then ff s i.toNat v.toNat else 0
theorem pz{n:aH}{s:ak}{i v:Int}(a:bd n.k n.co s):0<=cv n s i v/\cv n s i v<=n.k:=by
 have hk:=a.fs;have p:=a.d6;unfold cv;split
 .rename_i h;obtain⟨x,e,f,_⟩:=h.var a;obtain⟨z,j⟩:∃z,n.co[i.toNat]?=σ z:=⟨_,x8 (by have:=(x6.1 e).1;omega)⟩;have:=(a.var i.toNat x z e j).2.1;unfold ff;rw[e];simp only;rw[u5,x8 f];exact this _ (Q9 f)
 .omega
section
variable{w:x5}{ad ae:Nat}{A R:ah}{n:aH}{s:ak}{t:az}
theorem Qy{K:x4->x5->Prop}{i v:Int}(h:bE w ad ae A R n s t)(f:∀e I,Ext w I->K (.tuple #[Δ (cv n s i v),Δ e]) I):al v8 wh [Γ ad,Δ i,Δ v] w K:=by
 refine(px h).Y ?_;rintro _ U _ ⟨rfl,a⟩;have:=f;unfold cv at this;split
 .rename_i J;rw[ms J]at this;exact this 0 U a
 .rename_i J;rw[rc J]at this;exact this 1 U a
theorem Qz{i:Int}(h:bE w ad ae A R n s t):al v8 Jf [Γ ad,Δ i] w λr I=>Ext w I/\∃cap,r= .func (.func AO) #[] cap/\∀l,E8 I AO cap l (cv n s i):=by
 refine aB func163 ?_;refine bp λg1 U z x a=>?_;refine bp λB aa C p f=>?_;rw[mb];have q:=x.F p;refine⟨q,_,rfl,λl I v j _=>?_⟩;refine aB func220 ?_;have a:=a;have f:=f;rw[aE Ψ (((a.W p).W j).cell rfl),aE Ψ ((f.W j).cell rfl)];refine Qy (h.W (q.F j)) λe E y=>?_;rw[bx,bz];exact⟨rfl,y⟩
theorem Fa{i:Int}(f:bd n.k n.co s)(h:lb n s i=v2):0<=i/\∃x,s.d6[i.toNat]?=σ x/\x.gone=0:=by
 unfold lb at h;rw[U9]at h;have h1:=ty h.1;have j:=f.d6;obtain⟨x,e⟩:=aD (l:=s.d6) (i:=i.toNat) Ω;have a:=h.2;unfold dr at a;rw[e]at a;exact⟨h1.1,x,e,by simpa using a⟩
theorem QA{i:Int}(h:bE w ad ae A R n s t)(p:Laid w):al v8 Av [Γ ad,Δ i] w λr I=>Ext w I/\(lb n s i=v6->r= .tuple #[Δ 0,Δ (-1),Δ 1])/\
  ∀x,lb n s i=v2->s.d6[i.toNat]?=σ x->r= .tuple #[Δ (dZ n.k (aC x) (cv n s i)).1,Δ (dZ n.k (aC x) (cv n s i)).2,Δ 0]:=by
 refine aB func100 ?_;refine(Qv h).Y ?_;rintro _ U _ ⟨rfl,a⟩;cases q:lb n s i with
 |false=>
  rw[rc Φ,bL,am];exact⟨λ_=>⟨a,λ_=>rfl,λ_ h=>by cases h⟩,λh=>ro Φ h⟩
 |true=>
  obtain⟨y,x,f,_⟩:=Fa h.2.2.2.1 q;rw[ms rfl,bL,am];refine⟨λh=>ro rfl h,λ_=>?_⟩;refine(Qz (h.W a)).Y ?_;rintro _ aa _ ⟨z,cap,rfl,B⟩;have e:=a.F z;refine(Qw (h.W e) (p.W e) y f (B _)).Y ?_;rintro _ E _ ⟨C,rfl⟩;rw[bx,bz];exact⟨e.F C,(λh=>by cases h),λG _ j=>by rw[f]at j;cases j;rfl⟩
theorem sg{f:cr}(h:bE w ad ae A R n s t)(a:s.d9[j]?=σ f):al v8 tc [Γ ad,Δ (j:Int)] w λr I=>Ext w I/\∃g,w.heap.size<=g/\aA .i64 ai I g r f.sc:=by
 have J:=(x6.1 a).1;refine aB func103 ?_;refine aZ (λv U=>v= .bool v6/\Ext w U) ?_ ?_
 .rintro _ U ⟨rfl,e⟩;rw[a6];obtain⟨K,M,N,O,bc,P,L,Q,B,S,V,W,x,q⟩:=(h.W e).1.parts;obtain⟨y,z⟩:∃y,L[j]?=σ y:=⟨_,x8 (by rw[q.1];omega)⟩;obtain⟨C,_,_⟩:=q.2 j y f z a;rw[aK cV.p 3 B rfl,cj rfl gb.u gd.i x (by rw[q.1];omega),aU gd.p rfl,aE Ψ (x.range z 0 _ rfl)];have X:f.sc.length<=6:=(h.2.2.2.1.d9 f (x7 a)).1.scope.2;refine(mh C.ls Ω).Y ?_;rintro v aa _ ⟨E,g,Y,hm⟩;have:=e.size;exact⟨e.F E,g,Ω,hm⟩
 intro ax G;rw[aS,am];refine⟨λZ=>Ω,λ_=>?_⟩;refine(sa h).Y ?_;rintro _ ab _ ⟨rfl,H⟩;rw[cP];exact G _ _ ⟨by rw[s2 Ω],H⟩
end
def bb(s:ak)(i:Int):Λ:=match s.d6[i.toNat]? with
 |some x=>aC x
 |none=>[]
def pA(s:ak)(sc:Λ)(pos:Int):Nat->Nat->Λ->List (Λ)
 |0,_,tl=>[tl]
 |m+1,p,tl=>if(p:Int)=pos then pA s sc pos m (p+1) tl else(bb s (sc.getD p 0)).flatMap λv=>pA s sc pos m (p+1) (tl.set p v)
section
variable{ad ae:Nat}{A R:ah}{n:aH}{s:ak}{t:az}
end
end Go.Proofs.YtnhkbjhpbbobaaaGreatDoor
