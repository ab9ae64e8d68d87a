/- own texts, made small by a tool (wip/ holds them as they were written): no statement of the seat. -/
import Derived.Test.YtjjhhcfgfdepdaaGreatDoorZd
set_option linter.unusedVariables false
set_option linter.unusedSimpArgs false
set_option linter.unnecessarySimpa false
open Array renaming getElem?_eq_some_iff→o9
open BitVec renaming ofInt→U3
open Bool renaming not_true→Z8,not_false→X3,eq_iff_iff→V5,and_eq_true→U2,true_and→T0
open Decidable renaming not_not→Y4
open Go renaming Value→x1,World→x3,TypeId→r9,IntKind→o4,Program→W0,FuncId→S6
open Go.Builtin renaming append_→b8
open Go.Instr renaming loadAt→u5,fieldAt→u6,storeAt→o7,indexAt→j5,extract→Z1,buildSlice→Z9
open Go.IntKind renaming i64→Y9
open Go.Proofs.Tryz renaming prog→x7
open Int renaming toNat_natCast→u9,eq_ofNat_of_zero_le→W5
open List renaming getElem?_eq_some_iff→x4,mem_of_getElem?→x5,getElem?_eq_getElem→x6,getElem?_map→x8,getD_eq_getElem?_getD→u4,length_map→u7,take_add_one→r8,replicate→p8,length_append→o5,take_length→o6,mem_map→o8,mem_singleton→n9,mem_append→l7,length_take→j0,take_of_length_le→j6,eq_nil_of_length_eq_zero→j9,getElem?_set_self→c7,map_append→c8,length_cons→b9,length_set→Z4,getElem?_eq_none→Z5,getElem?_append_left→Y0,getElem?_append_right→Y1,getElem?_take_of_lt→Y3,getElem?_set_ne→Y5,ext_getElem?→Y8,getElem?_set→X0,mem_iff_getElem?→X4,mem_or_eq_of_mem_set→X6,drop_eq_getElem_cons→X7,length_eq_one_iff→W6,range→W7,flatMap_cons→W9,mem_cons→V0,pairwise_iff_getElem→V2,map_set→U1,map_cons→U4,append_nil→U5,map_map→S1,mem_filter→S3,length→S9,getElem_mem→R5
open Nat renaming le_refl→p9,le_trans→Y7,zero_add→X1,zero_le→X2,mul_le_mul_right→X5,sub_self→V7,add_mul→V8,pow_le_pow_right→T3,add_assoc→S2,add_sub_cancel_left→S5,lt_of_lt_of_le→R3
open Option renaming toList_some→l9,map_some→Z2,isNone_some→Z3,map_eq_some_iff→Y2,getD_some→V4,isSome_some→T9,isSome_none→S0
open Option.some renaming inj→c9
set_option maxHeartbeats 16000000
open Option renaming some→σ,none→ν
variable {w w':x3}{B ab ad ga gs gt gtb gy j m pos:Nat}{szv:x1}{D S:Nat->Prop}{e:r9}{a c k v y:Int}{af cs l sc sizes t tl:Λ}{K:x1->x3->Prop}{L:List (Λ)}
namespace Go.Proofs.YtjjhhcfgfdepdaaGreatDoor
open Go Go.Vc Go.RowKit Go.Proofs Go.Proofs.Tryz
set_option maxRecDepth 100000
def M5 (w:x3) (f:bY) (v:x1) (w':x3):Prop:=Ext w w'/\ ∃go I,bd da 3 aZ w' go v I/\(∀h∈I,fx w' f.sizes h/\ ∀r,oS h r->w.heap.size<=r)/\I.map di=fp f/\ ∀r,leadsTo v r->w.heap.size<=r
def kZ (k:Int) (sc cs:Λ) (h:cF):cF:=if h.1=sc then (h.1,dQ k h.2 cs) else h
theorem M6 {N:Nat} {b0:Nat} {f:bY} (cT:nC w b0 f) (ak:eX N f):aj x7 FX [Γ b0] w (M5 w f):=by
 have hk:=ak.k;obtain⟨szv,gz,aS,gr,bm,b1,cU⟩:=id cT;obtain⟨b2,bn,cV,cW⟩:=id cU;refine aw func106 ?_;rw[aM dv.p 3 bm rfl,eY dn.u bn];refine bU.range b2.length (λi l J=>∃g L,Ext w J/\ki J w.heap.size g l f.sizes L/\L.map di=eB f i) bn.le
  ⟨0,[],Ext.refl _,⟨bd.nil _ _ _ _ _,λh aC=>(by cases aC),λi j x y bo=>(by simp at bo),λr U=>(fa U).elim⟩,rfl⟩ ?_ ?_
 rotate_left
 .rintro l J cX ⟨g,L,am,U,ao⟩;rw[<-cV,Cl] at ao;rw[aP,ai];refine⟨λh=>Ω,λ_=>M4 ak U ao λout w' go cY bo bp cZ ap c0 c1=>?_⟩;have c2:=am.size;exact⟨am.trans bo,go,cY,bp,λh aC=>⟨ap h aC,(U.2.1 h (cZ h aC)).2⟩,c0,λr U=>by have:=c1 r U;omega⟩
 rintro i l J cX hi ⟨g,L,am,U,ao⟩ c3;obtain⟨bq,b3⟩:=aF (l:=b2) hi;obtain⟨x,br⟩:=aF (l:=f.funs) (i:=i) Ω;have bt:=x5 br;have bw:=cW i bq x b3 br;have b4:=oL ak bt;obtain⟨c4,dY,dZ⟩:=Ck ak i;have b5:L.length=(eB f i).length:=by rw[<-ao,u7]
 have ea:=ak.kM;have b7:=bn.ext am;refine bB Ω ?_;refine aR (λl' V=>∃g L,Ext w V/\ki V w.heap.size g l' f.sizes L/\L.map di=eB f (i+1)) ?_ ?_
 .rintro l' V bx;rw[aL];exact c3 _ _ bx
 intro av b8;rw[dq rfl dn.u aY.i b7 hi,bI aY.p aY.i rfl (b7.range b3)];refine bN aY.i λan eb ec c5 c6=>?_;refine cc (vs:=eM bq) aY.i rfl rfl bw.one c6 λc7 db ed dc=>?_;have b9:Ext J c7:=c5.put db Ω;have ee:=b9.size;refine aR (λa1 aU=>∃X c,a1=Γ X/\Ext J aU/\ac aU X aZ (da c)/\c.sc=bj x.scope/\c.cs=(hy f.sizes f.k x).2/\fx aU f.sizes c/\J.heap.size<=X/\ ∀r,oS c r->J.heap.size<=r) ?_ ?_
 rotate_left
 .intro ef ca;intro dd cb _ _;have aX:=b9.trans cb;have a2:=am.trans aX;have de:=dc.ext cb;have cd:=bm.ext a2;have eg:=aX.size;rw[bI aY.p aY.i rfl (show dd.rangeAt an 0 (eM bq) from de.range),aM dv.p 2 cd rfl,aM dv.p 1 cd rfl];refine⟨?_,?_⟩
  .refine (CY (bw.ext a2) ak bt (b1.ext a2)).mono ?_;rintro _ eh _ ⟨bz,c,rfl,h1,bA,ap,ae⟩;refine bN aZ.i λX ei cg bC a6=>?_;refine⟨.inl (bz.trans bC),?_⟩;refine cc (vs:=da c) aZ.i rfl rfl ap.one a6 λej ch ek df=>?_;have em:=bz.size;refine ca _ _ ⟨X,c,rfl,(aX.trans bz).trans (bC.then ch λr U he=>by have he:r=X:=he;omega),df,h1,bA,?_,Ω,λr U=>by have:=ae r U;omega⟩;exact ml (ap.ext bC) ch λr U=>.inl ⟨_,_,by have U:r=X:=U;subst U;exact a6,Φ,Φ⟩
  .refine bN aZ.i λX en cg a7 a6=>?_;refine⟨.inl a7,?_⟩;have ci:=a2.trans a7;refine (CY (bw.ext ci) ak bt (b1.ext ci)).mono ?_;rintro _ eo _ ⟨cj,c,rfl,h1,bA,ap,ae⟩;have ck:=a6.ext cj;have ep:=a7.size;refine cc (vs:=da c) aZ.i rfl rfl ap.one ck λer cl es dg=>?_;refine ca _ _ ⟨X,c,rfl,aX.trans ((a7.trans cj).then cl λr U he=>by have he:r=X:=he;omega),dg,h1,bA,?_,Ω,λr U=>by have:=ae r U;omega⟩;exact ml ap cl λr U=>.inl ⟨_,_,by have U:r=X:=U;subst U;exact ck,Φ,Φ⟩
 rintro _ aU ⟨X,c,rfl,bD,dh,aH,a8,dj,cg,ae⟩;have cm:=U.ext bD;have dk:∀h∈L,∀r,leads h.aW r->r<J.heap.size:=λh aC r dl=>by
  obtain⟨⟨_,_,dm,cn⟩,_⟩:=U.2.1 h aC;have:=bR cn dl;omega
 have dp:∀ {j:Nat},decide (c.sc∈(L.take j).map (·.sc))=decide (bj x.scope∈((eB f i).take j).map (·.1)):=λ{j}=>by
  rw[aH,<-ao,<-List.map_take,S1];rfl
 have c2:=am.size;rw[eY cP.u cm.1];refine bU.range L.length (λj aS af=>∃W,aS= .bool (decide (c.sc∈(L.take j).map (·.sc)))/\Ext w af/\J.heap.size<=af.heap.size/\ki af w.heap.size g l f.sizes W/\W.map di=((eB f i).map (kZ f.k c.sc c.cs)).take j++(eB f i).drop j/\ac af X aZ (da c)/\fx af f.sizes c/\ ∀h∈W,∀r,leads h.aW r->r<J.heap.size) U.1.le
  ⟨L,Ξ,am.trans bD,bD.size,cm,by simpa using ao,dh,dj,dk⟩ ?_ ?_
 .rintro j _ af dr cp ⟨W,rfl,aI,ds,bb,ad,bE,bF,au⟩ dt;have du:W.length=L.length:=by
   have:=congrArg S9 ad;simp only[u7,o5,j0,List.length_drop] at this;omega
  obtain⟨h,aC⟩:=aF (l:=W) (i:=j) Ω;have bc:(eB f i)[j]? =σ (di h):=by
   have cq:(W.map di)[j]? =σ (di h):=by rw[x8,aC];rfl
   rw[ad,C1 (by rw[u7];omega)] at cq;exact cq
  have be:((eB f i).map (kZ f.k c.sc c.cs))[j]? =σ (kZ f.k c.sc c.cs (di h)):=by rw[x8,bc];rfl
  have dw:∃y,L[j]? =σ y/\y.sc=h.sc:=by
   refine⟨_,x6 cp,?_⟩;rw[<-ao,x8,x6 cp] at bc;exact congrArg Prod.fst (c9 bc)
  obtain⟨y,ab,dx⟩:=dw;have bG:(c.sc∈(L.take (j+1)).map (·.sc))↔c.sc∈(L.take j).map (·.sc)\/h.sc=c.sc:=by
   rw[r8,ab,l9,c8,l7,List.map_singleton,n9,dx];exact or_congr Iff.rfl ⟨λe=>e.symm,λe=>e.symm⟩
  have cr:fs f.sizes f.k (di h):=c4 _ (x5 bc);refine bB Ω ?_;refine aR (λaS ah=>∃W,aS= .bool (decide (c.sc∈(L.take (j+1)).map (·.sc)))/\Ext w ah/\J.heap.size<=ah.heap.size/\ki ah w.heap.size g l f.sizes W/\W.map di=((eB f i).map (kZ f.k c.sc c.cs)).take (j+1)++(eB f i).drop (j+1)/\ac ah X aZ (da c)/\fx ah f.sizes c/\ ∀h∈W,∀r,leads h.aW r->r<J.heap.size) ?_ ?_
  .rintro et ah bx;rw[aL];exact dt _ _ bx
  intro eu ct;intro dy aK _ _;have bf:=bb.ext aK;have cu:=bE.ext aK;have cw:=bF.ext aK;obtain⟨dz,ev⟩:=bf.2.1 h (x5 aC);obtain⟨⟨g1,h1⟩,_,dm,cn⟩:=id dz;obtain⟨⟨ew,dA⟩,_,ey,cA⟩:=id cw;rw[dq rfl cP.u aZ.i bf.1 Ω,aT aZ.p rfl,aA (v:=h.aJ) Ψ (bf.1.range aC 0 _ rfl),aD aZ.p 0 cu rfl];refine (IB h1.ls dA.ls).mono ?_;rintro _ ez _ ⟨rfl,az⟩;have cB:=bf.ext az;have bH:=cu.ext az;have cC:=cw.ext az;have cD:=(aI.trans aK).trans az;have z9:=(aK.trans az).size;rw[ai];refine⟨λbJ=>?_,λcE=>?_⟩
  rotate_left
  .refine ct _ _ ⟨W,?_,cD,Ω,cB,?_,bH,cC,au⟩
   .congr 1;exact decide_eq_decide.2 ⟨λh=>bG.2 (.inl h),λh=>(bG.1 h).resolve_right cE⟩
   .have e:kZ f.k c.sc c.cs (di h)=di h:=if_neg cE;rw[e] at be;rw[<-sQ Ω be,<-ad];symm;refine Y8 λp=>?_;rw[X0];by_cases aN:j=p
    .subst aN;rw[if_pos rfl,if_pos Θ,x8,aC];rfl
    .rw[if_neg aN]
  have dC:h.cs.length=c.cs.length:=by
   have dD:h.cs.length=_:=cr.len;have dE:c.cs.length=(aG (bS f.sizes (hy f.sizes f.k x).1)).toNat:=by rw[a8];exact b4.len
   rw[dD,dE,show (di h).1=h.sc from rfl,bJ,aH];rfl
  have eA:(dQ f.k h.cs c.cs).length=h.cs.length:=by unfold dQ;rw[List.length_zipWith];omega
  rw[aD aZ.p 2 bH rfl,aV aq.u (cA.ext az).ls];refine ce.range c.cs.length (λs ax=>Ext w ax/\J.heap.size<=ax.heap.size/\ki ax w.heap.size g l f.sizes (W.set j {h with cs:=(dQ f.k h.cs c.cs).take s++h.cs.drop s})/\ac ax X aZ (da c)/\fx ax f.sizes c) cA.ls.le
   ⟨cD,Ω,?_,bH,cC⟩ ?_ ?_
  .have e:W.set j {h with cs:=(dQ f.k h.cs c.cs).take 0++h.cs.drop 0}=W:=by
    refine Y8 λp=>?_;rw[X0];by_cases aN:j=p
    .subst aN;rw[if_pos rfl,if_pos Ω,aC];rfl
    .rw[if_neg aN]
   rw[e];exact cB
  .rintro s ax dF I ⟨bK,cF,bg,bL,bM⟩ dG;refine bB Ω ?_;intro eC aO _ _;have aB:=bg.ext aO;have cG:=bL.ext aO;have cH:=bM.ext aO;have cI:=bK.trans aO;have bh:(W.set j {h with cs:=(dQ f.k h.cs c.cs).take s++h.cs.drop s})[j]? =σ {h with cs:=(dQ f.k h.cs c.cs).take s++h.cs.drop s}:=by
    rw[X0,if_pos rfl,if_pos Ω]
   have cJ:j<(W.set j {h with cs:=(dQ f.k h.cs c.cs).take s++h.cs.drop s}).length:=by rw[Z4];omega
   obtain⟨⟨_,_,dH,bO⟩,dI⟩:=aB.2.1 _ (x5 bh);obtain⟨_,_,eD,dJ⟩:=id cH;obtain⟨a,bP⟩:=aF (l:=h.cs) (i:=s) Ω;obtain⟨b,aQ⟩:=aF (l:=c.cs) I;have dK:s<({h with cs:=(dQ f.k h.cs c.cs).take s++h.cs.drop s}:fd).cs.length:=by show s<((dQ f.k h.cs c.cs).take s++h.cs.drop s).length;rw[o5,j0,List.length_drop];omega
   have dL:((dQ f.k h.cs c.cs).take s++h.cs.drop s)[s]? =σ a:=by rw[C1 Ω];exact bP
   have bQ:(dQ f.k h.cs c.cs)[s]? =σ (min (a+b) f.k):=by
    unfold dQ;rw[List.getElem?_zipWith,bP,aQ]
   have eE:=cr.hA a (x5 bP);have eF:=b4.hA b (by rw[<-a8];exact x5 aQ);have dM:=bm.ext cI;rw[dq rfl cP.u aZ.i aB.1 cJ,aT aZ.p rfl,aA (v:=h.aW) Ψ (aB.1.range bh 2 _ rfl),dq rfl cP.u aZ.i aB.1 cJ,aT aZ.p rfl,aA (v:=h.aW) Ψ (aB.1.range bh 2 _ rfl),ba aq.u al.i Ψ bO.ls dL,aD aZ.p 2 cG rfl,ba aq.u al.i Ψ dJ.ls aQ,aM dv.p 1 dM rfl];refine (oC Ω Ω).mono ?_;rintro _ eH _ ⟨rfl,aE⟩;refine⟨.inl aE,?_⟩;have z12:=(aO.trans aE).size;refine M1 (h:={h with cs:=(dQ f.k h.cs c.cs).take s++h.cs.drop s}) (aB.ext aE) bh dK λeI bi cK bT=>?_;rw[aL];have dN:=cH.ext aE;have cL:=cG.ext aE;have eJ:=bi.size;refine dG _ ⟨(cI.trans aE).then bi λr U he=>by have:=dI r (.inl he);omega,Ω,?_,?_,?_⟩
   .rw[List.set_set] at bT;have e:=sQ (A:=dQ f.k h.cs c.cs) (B:=h.cs) (s:=s) Ω bQ;simp only[e] at bT;exact bT
   .exact cL.aa bi λI=>by
     obtain⟨eK,dO⟩:=cK _ I;exact absurd (eZ cL dO) Φ
   .refine ml dN bi λr U=>.inr (.inr ⟨cK r U,λdP=>?_⟩);have:=ae r (.inl dP);have:=au h (x5 aC) r U;omega
  .rintro ax dF ⟨bK,cF,bg,bL,bM⟩;refine b6 Ω ?_;have e:(dQ f.k h.cs c.cs).take c.cs.length++h.cs.drop c.cs.length=dQ f.k h.cs c.cs:=by
    rw[<-dC,List.drop_length,U5,j6 Ω]
   simp only[e] at bg;refine ct _ _ ⟨_,?_,bK,cF,bg,?_,bL,bM,λz Y r U=>?_⟩
   .congr 1;symm;exact decide_eq_true (bG.2 (.inr bJ))
   .have dR:kZ f.k c.sc c.cs (di h)=di {h with cs:=dQ f.k h.cs c.cs}:=if_pos bJ;rw[dR] at be;rw[U1,ad,sQ Ω be]
   .rcases X6 Y with Y|rfl
    .exact au z Y r U
    .exact au h (x5 aC) r U
 rintro _ af dr ⟨W,rfl,aI,ds,bb,ad,bE,bF,au⟩;refine b6 Ω ?_;rw[dp,b5,o6,bu,cz];have cM:=vU br;have bQ:((eB f i).map (kZ f.k c.sc c.cs)).take L.length++(eB f i).drop L.length=(eB f i).map (kZ f.k c.sc c.cs):=by
  rw[b5,List.drop_length,U5,j6 (by rw[u7];exact p9 _)]
 rw[bQ] at ad;have du:W.length=L.length:=by
  have:=congrArg S9 ad;rw[u7,u7] at this;omega
 refine⟨λbk=>?_,λbV=>?_⟩
 .have bk:bj x.scope∉(eB f i).map (·.1):=by simpa using bk
  have dS:(eB f i).map (kZ f.k c.sc c.cs)=eB f i:=by
   refine (List.map_congr_left λz Y=>?_).trans (List.map_id _);exact if_neg λhe=>bk (o8.2 ⟨z,Y,by rw[he,aH]⟩)
  rw[dS] at ad;rw[bI aZ.p aZ.i rfl (show af.rangeAt X 0 (da c) from bE.range)];refine hX (f:=da) (k:=3) (a:=c) cP.u aZ.i Ω rfl rfl λeL dH ah eN bl bO=>?_;have ay:=bb.ext bl;have cN:=bF.ext bl;refine iq (f:=da) (a:=c) cP.u aZ.i rfl ay.1 (by simpa using bO.sl) cN.one Ω Ω λeO dT dy bp dU bW=>?_;have cO:∀r,leadsTo l r-> ∃e c,ac ah r e c/\e≠ag/\e≠al:=λr U=>by
   obtain⟨rfl,c,aQ⟩:=dV ay.1 U;exact⟨_,c,aQ,Φ,Φ⟩
  have eP:=bl.size;have eQ:=aI.size;refine b8 _ _ ⟨dT,W++[c],(aI.trans bl).then bW λr U he=>by have:=ay.2.2.2 r he;omega,⟨bp,λz Y=>?_,λp q y z ab Y dW r bX bZ=>?_,λr U=>(dU r U).elim (ay.2.2.2 r) λh=>Ω⟩,?_⟩
  .rcases l7.1 Y with Y|Y
   .exact⟨ml (ay.2.1 z Y).1 bW λr U=>.inl (cO r U),(ay.2.1 z Y).2⟩
   .rw[n9.1 Y];exact⟨ml cN bW λr U=>.inl (cO r U),λr U=>by have:=ae r U;omega⟩
  .have cQ:∀ {p:Nat} {y:fd},(W++[c])[p]? =σ y->W[p]? =σ y\/(p=W.length/\y=c):=λ{p y} ab=>by
    rw[List.getElem?_append] at ab;split at ab
    .exact .inl ab
    .by_cases dX:p-W.length=0
     .rw[dX] at ab;cases ab;exact .inr ⟨Ω,rfl⟩
     .rw[Z5 Θ] at ab;cases ab
   rcases cQ ab with cR|⟨eR,rfl⟩<;>rcases cQ Y with cS|⟨eq,rfl⟩
   .exact ay.2.2.1 p q y z cR cS dW r bX bZ
   .have:=au y (x5 cR) r bX;have:=ae r (.inl bZ);omega
   .have:=au z (x5 cS) r bZ;have:=ae r (.inl bX);omega
   .omega
  .rw[c8,ad,cM,Cj λz Y he=>bk (o8.2 ⟨z,Y,he⟩)];show _++[(c.sc,c.cs)]=_;rw[aH,a8];rfl
 .have bV:bj x.scope∈(eB f i).map (·.1):=by simpa using bV
  refine b8 _ _ ⟨g,W,aI,bb,?_⟩;rw[ad,cM];unfold hU;rw[if_pos (show (hy f.sizes f.k x).1∈_ from bV)];refine List.map_congr_left λz _=>?_;unfold kZ;rw[aH,a8];rfl
def wv (w:x3) (B:Nat) (v:x1) (n:aQ):Prop:=∃szv gz I U aU J gr L,v= .agg #[Δ n.k,szv,Δ n.zero,I,J]/\ap .i64 ag w gz szv n.sizes/\ha w U I aU/\aU.map (·.l)=n.unary/\bd da 3 aZ w gr J L/\(∀h∈L,fx w n.sizes h)/\L.map di=n.funs/\(∀r,leads szv r->B<=r)/\ ∀h∈L,∀r,oS h r->B<=r
def z9:List x1:=[Δ 0,.slice ν 0 0,Δ 0,.slice ν 0 0,.slice ν 0 0]
def mm (w:x3) (C gt gs go:Nat) (szv aW:x1) (f:bY) (I:List fd) (w':x3):Prop:=Ext w w'/\C<=w'.heap.size/\ac w' gt du z9/\ap .i64 ag w' gs szv f.sizes/\bd da 3 aZ w' go aW I/\(∀r,leadsTo aW r->r<C)/\ ∀h∈I,fx w' f.sizes h
theorem mm.ext {V:x3} {C go:Nat} {aW:x1} {f:bY} {J:List fd} (h:mm w C gt gs go szv aW f J w') (I:Ext w' V):mm w C gt gs go szv aW f J V:=by
 obtain⟨h1,ac,U,W,X,Y,aa⟩:=h;have:=I.size;exact⟨h1.trans I,Ω,U.ext I,W.ext I,X.ext I,Y,λx ab=>(aa x ab).ext I⟩
def M7 (w w':x3) (C gt:Nat) (r:Nat):Prop:=w.heap.size<=r/\r≠gt/\((∃c,ac w' r du c)\/(∃c,ac w' r aq c)\/((∃c,ac w' r aZ c)/\C<=r))
theorem mm.aa {V:x3} {C go:Nat} {aW:x1} {f:bY} {ab:List fd} (h:mm w C gt gs go szv aW f ab w') (W:ae S w' V) (X:∀r,S r->M7 w w' C gt r):mm w C gt gs go szv aW f ab V:=by
 obtain⟨h1,an,ai,ad,Y,af,aj⟩:=h;have:=W.size;have ah:∀r,S r-> ∃e c,ac w' r e c/\e≠ag/\e≠al:=λr U=>by
  obtain⟨_,_,⟨c,J⟩|⟨c,J⟩|⟨⟨c,J⟩,_⟩⟩:=X r U
  .exact⟨_,c,J,Φ,Φ⟩
  .exact⟨_,c,J,Φ,Φ⟩
  .exact⟨_,c,J,Φ,Φ⟩
 refine⟨h1.then W λr U I=>by have:=(X r I).1;omega,Ω,ai.aa W λI=>(X _ I).2.1 rfl,bn ad W λr U I=>?_,Y.aa W λr U I=>?_,af,λx ak=>ml (aj x ak) W λr U=>.inl (ah r U)⟩
 .obtain⟨e,c,J,am,_⟩:=ah r I;exact b3 ad J (λhe=>am he.symm) U rfl
 .obtain⟨_,_,⟨c,J⟩|⟨c,J⟩|⟨_,ao⟩⟩:=X r I
  .exact cL Y J Φ U
  .exact cL Y J Φ U
  .have:=af r U;omega
def C5 (w:x3) (C U:Nat) (szv:x1) (k:Int) (n:aQ) (V:List fd) (w':x3):Prop:=∃I W aU J gr L,ac w' U du [Δ k,szv,Δ n.zero,I,J]/\ha w' W I aU/\aU.map (·.l)=n.unary/\(∀r,leadsTo I r->w.heap.size<=r)/\bd da 3 aZ w' gr J L/\(∀h∈L,h∈V)/\L.map di=n.funs/\ ∀r,leadsTo J r->C<=r
theorem C6 {N:Nat} {cl:Nat} {f:bY} (cm:nC w cl f) (ax:eX N f):aj x7 Fm [Γ cl] w λv w'=>Ext w w'/\wv w' w.heap.size v (cd f):=by
 have hk:=ax.k;have dW:=ax.sizes.2.1;obtain⟨dX,dY,dZ,ea,cn,cp,eb⟩:=id cm;refine aw func39 ?_;refine bN du.i λgt J ed bk bl=>?_;have bl:ac J gt du z9:=bl;rw[aM dv.p 1 (cn.ext bk) rfl,dc (cs:=#[Δ f.k,.slice ν 0 0,Δ 0,.slice ν 0 0,.slice ν 0 0]) Ψ];refine bN du.i λX V ee cq c2=>?_;refine cc (vs:=[Δ f.k,.slice ν 0 0,Δ 0,.slice ν 0 0,.slice ν 0 0]) du.i rfl rfl (by intro u hu;simp at hu;rcases hu with rfl|rfl|rfl|rfl<;>rfl) c2 λc3 cr ef c4=>?_;have bP:Ext w c3:=(bk.trans cq).then cr λr U he=>by have he:r=X:=he;have:=bk.size;omega
 have eg:=bl.lt;have ad:X≠gt:=Ω
 have c5:=(bl.ext cq).aa cr λhe=>by have he:gt=X:=he;omega
 rw[aM dv.p 2 (cn.ext bP) rfl,aV aq.u (cp.ext bP).ls];have eh:=bk.size;refine ce.range f.sizes.length (λi aB=>Ext w aB/\ac aB gt du z9/\ ∃szv gs Y ah aU,ac aB X du [Δ f.k,szv,Δ 0,Y,.slice ν 0 0]/\ap .i64 ag aB gs szv (f.sizes.take i)/\(∀r,leads szv r->w.heap.size<=r)/\ha aB ah Y aU/\aU.map (·.l)=(f.sizes.take i).map (λz=>p8 z.toNat 0)/\ ∀r,leadsTo Y r->w.heap.size<=r) Ω
  ⟨bP,c5,_,0,_,0,[],c4,ap.nil _ _ _ _,(λr U=>by obtain⟨a,n,c,c6,ei⟩:=U;cases c6),⟨bd.nil _ _ _ _ _,λx bQ=>(by cases bQ)⟩,rfl,λr U=>(fa U).elim⟩ ?_ ?_
 .rintro i aB c7 hi ⟨aE,bU,szv,gs,Y,ah,aU,a7,bm,bo,bV,a8,bp⟩ c9;obtain⟨z,ab⟩:=aF (l:=f.sizes) hi;have ej:=ax.sizes.2.2 z (x5 ab);have ek:aU.length=i:=by have:=congrArg S9 a8;simp only[u7,j0] at this;omega
  refine bB Ω ?_;rw[ba aq.u al.i Ψ (cp.ext aE).ls ab,aD du.p 1 a7 rfl];refine en (k:=.i64) am.u ag.i rfl λa5 em ct eo aQ dd=>?_;have bb:=bm.ext aQ;refine hc am.u ag.i rfl bb dd.ls Θ Θ λbW cu ep bq de cw=>?_;have bX:=a7.ext aQ;have cz:=bU.ext aQ;have cA:=bX.aa cw λhe=>b3 bb bX Φ he rfl;rw[aT du.p rfl];refine bz (g:=X) (o:=1) am.i bq.ls.cells.1 bq.ls.cells.2 cA Ξ λbr cB er bt=>?_;have bt:ac br X du [Δ f.k,bW,Δ 0,Y,.slice ν 0 0]:=bt;have bZ:ae (λr=>leads szv r\/r=X) ct br:=(cw.mono λr _ h=>.inl h).trans (cB.mono λr _ h=>.inr h);have df:ap .i64 ag br cu bW (f.sizes.take (i+1)):=by
   rw[r8,ab];exact bn bq cB λr U he=>by
    have he:r=X:=he;subst he;exact b3 bq cA Φ U rfl
  have aR:∀r,(leads szv r\/r=X)-> ∃e c,ac ct r e c/\e≠al/\e≠aq:=λr U=>by
   rcases U with U|rfl
   .obtain⟨rfl,_⟩:=bR bb U;obtain⟨_,⟨dg,_⟩|⟨cap,full,_,W,_⟩⟩:=bb
    .obtain⟨a,n,c,e,_⟩:=U;rw[dg] at e;cases e
    .exact⟨_,_,W,Φ,Φ⟩
   .exact⟨_,_,bX,Φ,Φ⟩
  have dh:=(bV.ext aQ).aa bZ aR;have z4:=aE.size;have z5:=aQ.size;have cC:Ext w br:=(aE.trans aQ).then bZ λr U he=>by
   rcases he with he|he
   .have:=bo r he;omega
   .omega
  have dj:=cz.aa bZ λI=>by
   rcases I with I|I
   .exact b3 bb cz Φ I rfl
   .omega
  intro es cD _ _;have dk:=bt.ext cD;rw[aD du.p 3 dk rfl];obtain⟨aH,rfl⟩:∃n:Nat,z=n:=⟨z.toNat,Ω⟩;refine iR (k:=.i64) aq.u al.i Ω Ω λbu dl et b0 dm=>?_;refine⟨.inl b0,?_⟩;have dn:ap .i64 al dl bu (.slice (σ ⟨bu,0,ν⟩) aH aH) (p8 aH 0):=ap.of (bT.full (k:=1) (n:=aH) dm Ξ (by simp[maxLen];omega));let a:kV:=⟨.slice (σ ⟨bu,0,ν⟩) aH aH,p8 aH 0⟩;refine hX (f:=nr) (a:=a) ec.u aq.i Ω rfl rfl λeu ev b1 ew b2 dp=>?_;refine⟨.inl (b0.trans b2),?_⟩;have aS:=(cD.trans b0).trans b2;have bc:=dh.ext aS;refine iq (f:=nr) (a:=a) ec.u aq.i rfl bc.1 (by simpa using dp.sl) (λu hu=>by rw[n9.1 (show u∈[a.v] from hu)];rfl) Ω Ω λb4 b5 ey ak b7 cE=>?_;have aX:∀ {r:Nat},leadsTo Y r-> ∃c,ac b1 r aq c:=λU=>by
   obtain⟨rfl,c,W⟩:=dV bc.1 U;exact⟨c,W⟩
  have b8:=bt.ext aS;have cF:=b8.aa cE λhe=>cL bc.1 b8 Φ he;rw[aT du.p rfl];refine bz ec.i (eC ak.sl).1 (eC ak.sl).2 cF Ξ λdr cG ez ds=>?_;rw[aL];have ay:ae (λr=>leadsTo Y r\/r=X) b1 dr:=(cE.mono λr _ h=>.inl h).trans (cG.mono λr _ h=>.inr h);have b9:∀r,(leadsTo Y r\/r=X)-> ∃e c,ac b1 r e c/\e≠al/\e≠ag:=λr U=>by
   rcases U with U|rfl
   .obtain⟨c,W⟩:=aX U;exact⟨_,c,W,Φ,Φ⟩
   .exact⟨_,_,b8,Φ,Φ⟩
  have cH:=df.ext aS;have eA:=cC.size;have eB:=aS.size;have cI:=dj.ext aS;refine c9 _ ⟨(cC.trans aS).then ay (λr U he=>?_),cI.aa ay (λI=>?_),bW,cu,b4,b5,aU++[a],ds,bn cH ay (λr U I=>?_),λr U=>?_,⟨ak.aa cG λr U he=>?_,λy an=>?_⟩,?_,λr U=>?_⟩
  .rcases he with he|rfl
   .have:=bp r he;omega
   .omega
  .rcases I with I|I
   .exact cL bc.1 cI Φ I
   .omega
  .obtain⟨e,c,W,_,ad⟩:=b9 r I;exact b3 cH W (λhe=>ad he.symm) U rfl
  .rcases de r U with h|h
   .exact bo r h
   .omega
  .have he:r=X:=he;subst he;exact cL ak cF Φ U
  .rcases l7.1 an with an|an
   .exact bc.qd ay (λr U=>by obtain⟨e,c,W,ad,_⟩:=b9 r U;exact⟨e,c,W,ad⟩) y an
   .rw[n9.1 an];have cJ:=dn.ext b2;exact⟨bu,bn cJ ay λr U I=>by
     obtain⟨e,c,W,ad,_⟩:=b9 r I;exact b3 cJ W (λhe=>ad he.symm) U rfl⟩
  .rw[c8,a8,r8,ab,l9,c8];rfl
  .rcases b7 r U with h|h
   .exact bp r h
   .omega
 rintro aB c7 ⟨aE,bU,szv,gs,Y,ah,aU,a7,bm,bo,bV,a8,bp⟩;refine b6 Ω ?_;rw[o6] at bm a8;refine (M6 (cm.ext aE) ax).mono ?_;rintro aW bw _ ⟨aY,go,ao,ak,cK,cM,eD⟩;have cN:ao.length=(fp f).length:=by rw[<-cM,u7]
 have eE:ao.length<=256:=by
  have h1:=(p2 ax).2.length_eq;have bx:=(kS ax).2.2;have eF:=List.length_filter_le fo (e9 f);have eH:=ax.kM;omega
 have z4:=aE.size;have eI:=aY.size;have eJ:=a7.lt;rw[eY cP.u ak];refine ce.range ao.length (λi aI=>mm w bw.heap.size gt gs go szv aW f ao aI/\C5 w bw.heap.size X szv f.k (dx f i) ao aI) ak.le
  ⟨⟨aE.trans aY,p9 _,bU.ext aY,bm.ext aY,ak,λr U=>by have:=ak.leads U;omega,λh aC=>(cK h aC).1⟩,Y,ah,aU,_,0,[],a7.ext aY,bV.ext aY,a8,bp,bd.nil _ _ _ _ _,λx bQ=>(by cases bQ),rfl,λr U=>(fa U).elim⟩ ?_ ?_
 rotate_left
 .rintro aI dt ⟨a1,Y,ah,aU,aJ,gr,L,bA,bC,aK,bf,bg,a2,aN,bh⟩;obtain⟨dw,eK,cO,ca,eL,eM,dy⟩:=id a1;have bD:=oO f ao.length;rw[cN,sI] at bD;rw[cN,sI] at bA aK aN;refine b6 Ω ?_;rw[bI du.p du.i rfl (show aI.rangeAt X 0 [Δ f.k,szv,Δ (cd f).zero,Y,aJ] from bA.range)];refine cc (vs:=[Δ f.k,szv,Δ (cd f).zero,Y,aJ]) du.i rfl rfl (λu hu=>?_) cO λeN bi eO dz=>?_
  .simp at hu;rcases hu with rfl|rfl|rfl|rfl|rfl
   .rfl
   .exact ca.ls.cells.2
   .rfl
   .exact (eC bC.1.sl).2
   .exact (eC bg.sl).2
  rw[fB du.p du.i rfl dz.range];have aR:∀r,r=gt-> ∃e c,ac aI r e c/\e≠al/\e≠aq/\e≠ag/\e≠aZ:=λr U=>by
   subst U;exact⟨_,_,cO,Φ,Φ,Φ,Φ⟩
  refine⟨dw.then bi λr U he=>by have he:r=gt:=he;omega,szv,gs,Y,ah,aU,aJ,gr,L,?_,?_,bC.aa bi (λr U=>?_),aK,bg.aa bi (λr U I=>?_),λh aC=>?_,aN,bo,λh aC r U=>by have:=(cK h (a2 h aC)).2 r U;omega⟩
  .rw[bD.1]
  .rw[bD.2.1];refine bn ca bi λr U I=>?_;obtain⟨e,c,W,_,_,ad,_⟩:=aR r I;exact b3 ca W (λhe=>ad he.symm) U rfl
  .obtain⟨e,c,W,h1,bx,_⟩:=aR r U;exact⟨e,c,W,h1,bx⟩
  .obtain⟨e,c,W,_,_,_,ad⟩:=aR r I;exact cL bg W (λhe=>ad he.symm) U
  .rw[bD.2.1];exact ml (dy h (a2 h aC)) bi λr U=>by
    obtain⟨e,c,W,h1,_,bx,_⟩:=aR r U;exact .inl ⟨e,c,W,bx,h1⟩
 rintro i aI dt hi ⟨a1,Y,ah,aU,aJ,gr,L,bA,bC,aK,bf,bg,a2,aN,bh⟩ dA;obtain⟨y,an⟩:=aF (l:=ao) hi;have bE:=x5 an;have cQ:(fp f)[i]? =σ (di y):=by rw[<-cM,x8,an];rfl
 have cb:fs f.sizes f.k (di y):=sk ax _ (x5 cQ);have cg:=vW cQ;obtain⟨eP,eQ,eR,eS⟩:=oO f i;refine bB Ω ?_;refine db (λch=>mm w bw.heap.size gt gs go szv aW f ao ch/\C5 w bw.heap.size X szv f.k (dx f (i+1)) ao ch) ?_ ?_
 .rintro ch h;rw[aL];exact dA _ h
 intro av ci;rw[dq rfl cP.u aZ.i a1.2.2.2.2.1 hi,bI aZ.p aZ.i rfl (a1.2.2.2.2.1.range an)];refine bN aZ.i λdC eU eV dD dE=>?_;refine cc (vs:=da y) aZ.i rfl rfl (a1.2.2.2.2.2.2 y bE).one dE λcR dF eW bF=>?_;have bG:Ext aI cR:=dD.put dF Ω;have bH:=a1.ext bG;have aO:=bA.ext bG;have cj:=bC.ext bG;have bJ:=bg.ext bG;obtain⟨e0,e1,cS,e2,e3,e4,cT⟩:=id bH;obtain⟨⟨e5,cU⟩,_,dG,cV⟩:=cT y bE;rw[aD aZ.p 0 bF rfl,aV am.u cU.ls];have e6:aU.length=f.sizes.length:=by have:=congrArg S9 aK;rw[u7] at this;omega
 have e7:L.length<=256:=by have:=congrArg S9 aN;rw[u7] at this;omega
 rw[be,ai];refine⟨λe8=>?_,λfb=>?_⟩
 .
  have aP:y.sc=[]:=j9 Ω;have af:dx f (i+1)={dx f i with zero:=y.cs.getD 0 0}:=by rw[cg];unfold iw;simp only[di,aP]
  have fc:y.cs.length=1:=by have:=cb.len;simpa[di,aP,bS,aG] using this
  have dH:y.cs[0]? =σ (y.cs.getD 0 0):=by rw[u4,x6 Ω];rfl
  rw[aD aZ.p 2 bF rfl,fP (y:=0) (i:=0) rfl aq.u al.i Ψ cV.ls dH,aT du.p rfl];refine bz al.i rfl rfl aO Ξ λdI au dJ dK=>?_;refine ci _ ⟨bH.aa au λr U=>?_,Y,ah,aU,aJ,gr,L,?_,cj.aa au (λr U=>?_),by rw[af];exact aK,bf,bJ.aa au (λr U I=>?_),a2,by rw[af];exact aN,bh⟩
  .have U:r=X:=U;subst U;exact⟨Ω,ad,.inl ⟨_,aO⟩⟩
  .rw[af];exact dK
  .have U:r=X:=U;subst U;exact⟨_,_,aO,Φ,Φ⟩
  .have I:r=X:=I;subst I;exact cL bJ aO Φ U
 rw[be,ai];refine⟨λh1=>?_,λfd=>?_⟩
 .
  obtain⟨v,aP⟩:∃v,y.sc=[v]:=W6.1 Ω;have fe:=cb.scope.1 v (by show v∈y.sc;rw[aP];exact .head _);have ff:=cb.vars v (by show v∈y.sc;rw[aP];exact .head _);have af:dx f (i+1)={dx f i with unary:=(dx f i).unary.set v.toNat y.cs}:=by rw[cg];unfold iw;simp only[di,aP]
  intro dL az _ _;have ck:=aO.ext az;have cW:=bF.ext az;have bj:=cj.ext az;have dM:=bH.ext az;have cX:=bJ.ext az;rw[aD du.p 3 ck rfl,aD aZ.p 0 cW rfl];refine rN (y:=0) (i:=0) rfl am.u ag.i (cU.ls.ext az) (show y.sc[0]? =σ v by rw[aP];rfl) λb o dN=>?_;rw[aA Ψ dN,aD aZ.p 2 cW rfl];obtain⟨u,hu⟩:=aF (l:=aU) (i:=v.toNat) Ω;rw[dq (i:=v.toNat) Ω ec.u aq.i bj.1 Ω];let a:kV:=⟨y.aW,y.cs⟩;have bK:=cV.ext az;refine oG (f:=nr) (j:=0) (a:=u) (a':=a) aq.i bK.ls.cells.1 bK.ls.cells.2 bj.1 hu rfl Ω λdI au dJ dO=>?_;have aX:∀ {r:Nat},leadsTo Y r-> ∃c,ac dL r aq c:=λU=>by
   obtain⟨rfl,c,W⟩:=dV bj.1 U;exact⟨c,W⟩
  refine ci _ ⟨dM.aa au λr U=>?_,Y,ah,aU.set v.toNat a,aJ,gr,L,?_,⟨dO,λz ab=>?_⟩,?_,bf,cX.aa au (λr U I=>?_),a2,by rw[af];exact aN,bh⟩
  .obtain⟨c,W⟩:=aX U;exact⟨bf r U,λhe=>(by subst he;exact absurd (eZ W (cS.ext az)) Φ),.inr (.inl ⟨c,W⟩)⟩
  .rw[af];exact ck.aa au λhe=>cL bj.1 ck Φ he
  .rcases X6 ab with ab|rfl
   .exact bj.qd au (λr U=>by obtain⟨c,W⟩:=aX U;exact⟨_,c,W,Φ⟩) z ab
   .exact⟨dG,bn bK au λr U I=>by
     obtain⟨c,W⟩:=aX I;exact b3 bK W Φ U rfl⟩
  .rw[af,U1,aK]
  .obtain⟨c,W⟩:=aX I;exact cL cX W Φ U
 .
  have af:dx f (i+1)={dx f i with funs:=(dx f i).funs++[di y]}:=by
   rw[cg];unfold iw;have cY:2<=(di y).1.length:=by show 2<=y.sc.length;omega
   generalize di y=g at cY ⊢;obtain⟨sc,cs⟩:=g
   match sc,cY with
   |_::_::_,_=>rfl
  rw[aD du.p 4 aO rfl,bI aZ.p aZ.i rfl (show cR.rangeAt dC 0 (da y) from bF.range)];refine hX (f:=da) (k:=3) (a:=y) cP.u aZ.i Ω rfl rfl λfg fh dP fi a6 dQ=>?_;have bL:=bJ.ext a6;have dR:=cj.ext a6;have bM:=aO.ext a6;have dS:=bH.ext a6;refine iq (f:=da) (a:=y) cP.u aZ.i rfl bL (by simpa using dQ.sl) (cT y bE).one Ω Ω λb4 b5 fj bO b7 cZ=>?_;have c0:=bM.aa cZ λhe=>cL bL bM Φ he;rw[aT du.p rfl];refine bz cP.i (eC bO.sl).1 (eC bO.sl).2 c0 Ξ λdT c1 fk dU=>?_;have ay:ae (λr=>leadsTo aJ r\/r=X) dP dT:=(cZ.mono λr _ h=>.inl h).trans (c1.mono λr _ h=>.inr h);have fm:=a6.size;refine ci _ ⟨dS.aa ay λr U=>?_,Y,ah,aU,b4,b5,L++[y],?_,dR.aa ay (λr U=>?_),by rw[af];exact aK,bf,bO.aa c1 (λr U I=>?_),λz ab=>?_,?_,λr U=>?_⟩
  .rcases U with U|rfl
   .obtain⟨rfl,c,W⟩:=dV bL U;have:=bh _ U;refine⟨Ω,λhe=>?_,.inr (.inr ⟨⟨c,W⟩,this⟩)⟩;subst he;exact absurd (eZ W (cS.ext a6)) Φ
   .exact⟨Ω,ad,.inl ⟨_,bM⟩⟩
  .rw[af];exact dU
  .rcases U with U|rfl
   .obtain⟨rfl,c,W⟩:=dV bL U;exact⟨_,c,W,Φ,Φ⟩
   .exact⟨_,_,bM,Φ,Φ⟩
  .have I:r=X:=I;subst I;exact cL bO c0 Φ U
  .rcases l7.1 ab with ab|ab
   .exact a2 z ab
   .rw[n9.1 ab];exact bE
  .rw[af,c8,aN];rfl
  .rcases b7 r U with h|h
   .exact bh r h
   .omega
def qk (w:x3) (S:Nat->Prop) (e:r9):Prop:=∀r,S r-> ∃c,ac w r e c
theorem wx {J:r9} {k:o4} {g:Nat} {v:x1} (h:ap k J w g v l) (U:ae S w w') (V:qk w S e) (W:J≠e):ap k J w' g v l:=bn h U λr X I=>by
 obtain⟨c,Y⟩:=V r I;exact b3 h Y W X rfl
theorem C7 {α:Type} {f:α->List x1} {k:Nat} {J:r9} {g:Nat} {v:x1} {L:List α} (h:bd f k J w g v L) (U:ae S w w') (V:qk w S e) (W:J≠e):bd f k J w' g v L:=h.aa U λr X I=>by
 obtain⟨c,Y⟩:=V r I;exact cL h Y W X
theorem wy {J:r9} {r:Nat} {c:List x1} (h:ac w r J c) (U:ae S w w') (V:qk w S e) (W:J≠e):ac w' r J c:=h.aa U λI=>by
 obtain⟨c,X⟩:=V r I;exact W (eZ h X)
theorem C8 {g:Nat} {c:List x1} (h:ac w g e c):qk w (λr=>r=g) e:=λr I=>by
 have I:r=g:=I;subst I;exact⟨c,h⟩
theorem M8 {k:o4} {g:Nat} {v:x1} (h:ap k e w g v l):qk w (λr=>leads v r) e:=λr I=>by
 have I:leads v r:=I;obtain⟨rfl,_⟩:=bR h I;obtain⟨_,⟨U,_⟩|⟨cap,full,_,V,_⟩⟩:=h
 .obtain⟨a,n,c,J,_⟩:=I;rw[U] at J;cases J
 .exact⟨_,V⟩
def aK (x:bP):Λ:=((W7 x.un.length).map λv:Nat=>(v:Int)).filter λv=>!dropped x.mask v
theorem wz {P:W0} {k:o4} {t:r9} {b:Nat} {z:x1} (I:P.underlying t=σ (.slice e)) (hi:aO P e 1 b z)
  (J:∀v g w',g=w.heap.size->Ext w w'->ap k e w' g v []->K v w'):ax P (Z9 t 0 #[]) w K:=
 jT I hi Ω (cs:=#[]) (by simp[Instr.fill]) λg w' U V W=>J _ g w' U V (ap.of (n:=0) (bT.full (by simpa using W) Ξ (by simp[maxLen])))
theorem M9 {v:x1} {n:aQ} (h:wv w B v n) {g:Nat} (V:ac w' g du v.cells.toList):∃szv gz I U aU J gr L,ac w' g du [Δ n.k,szv,Δ n.zero,I,J]/\ap .i64 ag w gz szv n.sizes/\ha w U I aU/\aU.map (·.l)=n.unary/\bd da 3 aZ w gr J L/\(∀h∈L,fx w n.sizes h)/\L.map di=n.funs/\(∀r,leads szv r->B<=r)/\ ∀h∈L,∀r,oS h r->B<=r:=by
 obtain⟨szv,gz,I,U,aU,J,gr,L,rfl,W,X,aa,Y,ab,ad⟩:=h;obtain⟨_,_,_,ae⟩:=df W.ls;obtain⟨_,_,_,_,_,af,_⟩:=X.1.sl;obtain⟨_,_,_,_,_,ah,_⟩:=Y.sl;refine⟨szv,gz,I,U,aU,J,gr,L,?_,W,X,aa,Y,ab,ad⟩;rw[ae,af,ah] at V ⊢;exact V
def z12:List x1:=[Δ 0,.slice ν 0 0,Δ 0,.slice ν 0 0,.slice ν 0 0,.slice ν 0 0,.slice ν 0 0,.slice ν 0 0]
end Go.Proofs.YtjjhhcfgfdepdaaGreatDoor
namespace Go.Vc
open Go Go.RowKit
section
variable {P:W0} {w:x3} {α:Type} [ak α] {S R:ah}
theorem C9 {k:Nat} {vs:List (List x1)} {i:Nat} {c:List x1} (h:∀x∈vs,x.length=k) (I:c.length=k) (hi:i<vs.length):over vs.flatten (i*k) c=(vs.set i c).flatten:=by
 have:=vu (f:=id) (k:=k) (L:=vs) (i:=i) (a:=c) h I hi;rw[List.flatMap_id,List.flatMap_id] at this;exact this
theorem Na {v:x1} {l:List α} {i:Nat} (h:bx S R w [v] l) (aw:i<l.length):∃g cap full V,v= .slice (σ ⟨g,0,ν⟩) l.length cap/\ac w g V full/\S g/\i*ak.n α+ak.n α<=full.length/\
  ∀ {A:ah} {cs:List x1} {a:α},bx A R w cs a->(∀r,r<w.heap.size->S r->¬A r/\¬R r)-> ∀w',ae (λr=>r=g) w w'->ac w' g V (over full (i*ak.n α) cs)->bx (λr=>S r\/A r) R w' [v] (l.set i a):=by
 obtain⟨vs,g,F,W,he,I,hm⟩:=iS h;obtain⟨ax,V,ay⟩:=hm rfl;obtain⟨aG,⟨rfl,aH⟩|⟨cap,full,rfl,ag,aj,az,al,aA⟩⟩:=id ay
 .omega
 have am:vs.length=l.length:=he.1;have aB:(i+1)*ak.n α<=l.length*ak.n α:=X5 _ aw;have aC:l.length*ak.n α<=full.length:=by rw[al];exact X5 _ aj
 rw[V8,Nat.one_mul] at aB;have Y:S g:=ax.resolve_left Ξ;refine⟨g,cap,full,V,rfl,ag,Y,Ω,λ{A cs a} an ab w' ao aD=>?_⟩;have ap:=ak.len an;have aq:¬A g:=(ab g ag.lt Y).1;have au:¬R g:=(ab g ag.lt Y).2;have aE:∀c∈vs.set i cs,c.length=ak.n α:=λc X=>by
  rcases X6 X with J|rfl
  .exact he.len c J
  .exact ap
 have av:bT w' g V (ak.n α) (.slice (σ ⟨g,0,ν⟩) l.length cap) (l.set i a).length (vs.set i cs).flatten:=by
  refine⟨by rw[pw aE,Z4,Z4,am],.inr ⟨cap,_,by rw[Z4],aD,by rw[Z4];exact aj,az,by rw[l0,al],?_⟩⟩;rw[Z4,r7 Ω aC,aA,C9 he.len ap Ω]
 refine⟨_,rfl,vs.set i cs,g,λj r=>if j=i then A r/\r<w.heap.size else F j r/\r<w.heap.size,⟨λj r U=>?_,λ_ j U=>?_,λ_ j q r aF h1 J=>?_⟩,⟨by simp[am],λj c a' X ad=>?_⟩,?_,λ_=>⟨.inr (.inl Y),V,av⟩⟩
 .split at U
  .exact .inr U.1
  .exact .inl (W.sub j r U.1)
 .split at U
  .exact aq U.1
  .exact W.top rfl j U.1
 .split at h1<;>split at J
  .omega
  .exact (ab r J.2 (W.sub q r J.1)).1 h1.1
  .exact (ab r h1.2 (W.sub j r h1.1)).1 J.1
  .exact W.gi rfl j q r aF h1.1 J.1
 .by_cases af:j=i
  .subst af;rw[c7 Ω] at X ad;cases X;cases ad;have ai:bx (λr=>if j=j then A r/\r<w.heap.size else F j r/\r<w.heap.size) R w cs a:=ak.mono an (λr U h=>by rw[if_pos rfl];exact⟨h,U⟩) λ_ _ h=>h;refine ak.aa ai ao λr U h1 J=>?_;have J:r=g:=J;subst J;rcases h1 with h1|h1
   .simp only[if_true] at h1;exact aq h1.1
   .exact au h1
  .rw[Y5 (Ne.symm af)] at X ad;have ai:bx (λr=>if j=i then A r/\r<w.heap.size else F j r/\r<w.heap.size) R w c a':=ak.mono (he.2 j c a' X ad) (λr U h=>by rw[if_neg af];exact⟨h,U⟩) λ_ _ h=>h;refine ak.aa ai ao λr U h1 J=>?_;have J:r=g:=J;subst J;rcases h1 with h1|h1
   .simp only[if_neg af] at h1;exact W.top rfl j h1.1
   .exact au h1
 .have:=od (S:=λr=>(S r\/A r)\/R r) av (.inr (.inl (.inl Y)));exact this
theorem Da {t:r9} {Y:o4} {i b:Nat} {z v x:x1} {l:List α} {a:α} {A:ah} {K:Unit->x3->Prop} (J:ak.n α=1) (aa:y=(i:Int)) (ab:P.underlying t=σ (.slice e)) (hi:aO P e 1 b z)
  (h:bx S R w [v] l) (V:i<l.length) (ac:x.cells= #[x]) (W:bx A R w [x] a) (ad:∀r,r<w.heap.size->S r->¬A r/\¬R r)
  (af:∀w',ae S w w'->bx (λr=>S r\/A r) R w' [v] (l.set i a)->K () w'):U P (j5 t v (.int Y y)) w λp=>ax P (o7 e p x) w K:=by
 subst aa;obtain⟨g,cap,full,an,rfl,ag,ai,aj,al⟩:=Na h V;rw[J] at aj;rw[fm ab hi V λ_=>rfl];refine bz (o:=0+i*1) hi ac (ak.one W x (.head _)) ag Ω λw' X _ am=>af w' (X.mono λr _ I=>by have I:r=g:=I;subst I;exact ai) (al W ad w' X ?_);rw[J,X1] at*;exact am
end
end Go.Vc
namespace Go.Proofs.YtjjhhcfgfdepdaaGreatDoor
open Go Go.Vc Go.RowKit Go.Proofs Go.Proofs.Tryz
set_option maxRecDepth 100000
abbrev iD:Type:=(Rd (Λ)×Rd (Λ)×Λ)×Bool
abbrev nD:Type:=Int×Rd (Λ)×Rd (Λ)
def hE (f:cJ):iD:=((f.sc,f.af,f.cs),decide (f.live≠0))
def Db (e:vZ):nD:=(e.v,e.sc,e.sG)
def ca (m:Bool) (A:Nat->ah) (R:ah) (w:x3) (cs:List x1) (k:Int) (sizes:Λ) (zero:Int) (D:List (Λ)) (G:List Bool) (aU:List (Λ)) (H:List iD) (E:List nD):Prop:=
 ∃szv I J U V W,cs=[Δ k,szv,Δ zero,I,J,U,V,W]/\Seen R w [szv] sizes/\
 ak.rep m (A 0) R w [I] D/\ak.rep m (A 1) R w [J] G/\ak.rep m (A 2) R w [U] aU/\ak.rep m (A 3) R w [V] H/\ak.rep m (A 4) R w [W] E/\
 (m=true->(∀i j r,i≠j->A i r->¬A j r)/\ ∀i r,A i r->¬R r)
abbrev h3 (m:Bool) (A:Nat->ah) (R:ah) (w:x3) (cs:List x1) (k:Int) (sizes:Λ) (s:au):Prop:=
 ca m A R w cs k sizes s.zero (s.vars.map aK) (s.vars.map λx=>decide (x.gone≠0)) (s.vars.map (·.un)) (s.funs.map hE) (s.gG.map Db)
def jB (w:x3) (v:x1) (k:Int) (sizes:Λ) (s:au):Prop:=∃cs,v= .agg cs.toArray/\h3 false (λ_ _=>False) dY w cs k sizes s
def h4 (A:Nat->ah) (i:Nat) (B:ah):Nat->ah:=λj=>if j=i then B else A j
section
variable {m:Bool} {A:Nat->ah} {R:ah} {w w':x3} {cs:List x1} {k zero:Int} {sizes:Λ} {D:List (Λ)} {G:List Bool} {aU:List (Λ)} {H:List iD} {E:List nD} {s:au}
theorem ca.len (h:ca m A R w cs k sizes zero D G aU H E):cs.length=8/\ ∀u∈cs,u.oneCell'=true:=by
 obtain⟨szv,X,Y,aa,ab,ac,rfl,h1,I,J,U,V,W,_⟩:=h;refine⟨rfl,λu hu=>?_⟩;simp only[V0,List.not_mem_nil,or_false] at hu;rcases hu with rfl|rfl|rfl|rfl|rfl|rfl|rfl|rfl
 .rfl
 .exact hp h1
 .rfl
 .exact hp I
 .exact hp J
 .exact hp U
 .exact hp V
 .exact hp W
theorem ca.aa {T:ah} (h:ca m A R w cs k sizes zero D G aU H E) (I:ae T w w') (U:∀r,r<w.heap.size->(∃i,A i r)\/R r->¬T r):ca m A R w' cs k sizes zero D G aU H E:=by
 obtain⟨szv,V,W,X,Y,ab,rfl,h1,ac,ad,af,ag,ai,aj⟩:=h;have aC:∀i r,r<w.heap.size->A i r\/R r->¬T r:=λi r J h=>U r J (h.imp (λh=>⟨i,h⟩) id);exact⟨szv,V,W,X,Y,ab,rfl,ak.aa h1 I λr J h=>U r J (h.elim False.elim .inr),ak.aa ac I (aC 0),ak.aa ad I (aC 1),ak.aa af I (aC 2),ak.aa ag I (aC 3),ak.aa ai I (aC 4),aj⟩
theorem ca.ext (h:ca m A R w cs k sizes zero D G aU H E) (I:Ext w w'):ca m A R w' cs k sizes zero D G aU H E:=h.aa (I.aa λ_=>False) λ_ _ _ h=>h
theorem h3.Nb (h:h3 m A R w cs k sizes s):jB w (.agg cs.toArray) k sizes s:=by
 obtain⟨szv,I,J,U,V,W,rfl,h1,X,Y,aa,ab,ac,ad⟩:=h;exact⟨_,rfl,szv,I,J,U,V,W,rfl,ho h1,ho X,ho Y,ho aa,ho ab,ho ac,λh=>by cases h⟩
theorem ca.old (h:ca true A R w cs k sizes zero D G aU H E):ca true (λi r=>A i r/\r<w.heap.size) R w cs k sizes zero D G aU H E:=by
 obtain⟨szv,U,V,W,X,Y,rfl,h1,I,aa,ab,ac,ad,J⟩:=h;obtain⟨J,ae⟩:=J rfl;have hm:∀i r,r<w.heap.size->A i r->A i r/\r<w.heap.size:=λi r af h=>⟨h,af⟩;exact⟨szv,U,V,W,X,Y,rfl,h1,ak.mono I (hm 0) λ_ _ h=>h,ak.mono aa (hm 1) λ_ _ h=>h,ak.mono ab (hm 2) λ_ _ h=>h,ak.mono ac (hm 3) λ_ _ h=>h,ak.mono ad (hm 4) λ_ _ h=>h,
  λ_=>⟨λi j r ag h1 I=>J i j r ag h1.1 I.1,λi r h=>ae i r h.1⟩⟩
theorem sR {i:Nat} {B:ah} (h:∀i j r,i≠j->A i r->¬A j r) (J:∀j r,j≠i->B r->¬A j r):∀p q r,p≠q->h4 A i B p r->¬h4 A i B q r:=λp q r U h1 I=>by
 unfold h4 at h1 I;split at h1<;>split at I
 .omega
 .exact J q r (by assumption) h1 I
 .exact J p r (by assumption) I h1
 .exact h p q r U h1 I
theorem sS {i:Nat} {B:ah} (h:∀i r,A i r->¬R r) (I:∀r,B r->¬R r):∀p r,h4 A i B p r->¬R r:=λp r h1=>by
 unfold h4 at h1;split at h1
 .exact I r h1
 .exact h p r h1
theorem ca.Dc {B:ah} {x:x1} {D':List (Λ)} (h:ca true A R w cs k sizes zero D G aU H E) {T:ah} (J:ae T w w') (V:∀r,T r->A 0 r\/(∀j,¬A j r)/\¬R r) (Y:bx B R w' [x] D') (ab:∀j r,j≠0->B r->¬A j r) (ac:∀r,B r->¬R r):ca true (h4 A 0 B) R w' (cs.set 3 x) k sizes zero D' G aU H E:=by
 obtain⟨szv,ap,ad,af,ag,ai,rfl,h1,I,aj,al,am,an,U⟩:=h;obtain⟨U,W⟩:=U rfl;have X:∀r,R r->¬T r:=λr h I=>(V r I).elim (λI=>W 0 r I h) λI=>I.2 h;have aC:∀j r,j≠0->r<w.heap.size->A j r\/R r->¬T r:=λj r ao _ h I=>h.elim (λh=>(V r I).elim (λI=>U j 0 r ao h I) λI=>I.1 j h) λh=>X r h I;refine⟨szv,x,ad,af,ag,ai,rfl,ak.aa h1 J λr _ h=>h.elim False.elim (X r),?_,?_,?_,?_,?_,λ_=>⟨sR U ab,sS W ac⟩⟩
 .exact Y
 .exact ak.aa aj J λr=>aC 1 r Ω
 .exact ak.aa al J λr=>aC 2 r Ω
 .exact ak.aa am J λr=>aC 3 r Ω
 .exact ak.aa an J λr=>aC 4 r Ω
theorem ca.Nc {B:ah} {x:x1} {V:List Bool} (h:ca true A R w cs k sizes zero D G aU H E) {T:ah} (J:ae T w w') (W:∀r,T r->A 1 r\/(∀j,¬A j r)/\¬R r) (ab:bx B R w' [x] V) (ac:∀j r,j≠1->B r->¬A j r) (ad:∀r,B r->¬R r):ca true (h4 A 1 B) R w' (cs.set 4 x) k sizes zero D V aU H E:=by
 obtain⟨szv,af,ap,ag,ai,aj,rfl,h1,I,aq,al,am,an,U⟩:=h;obtain⟨U,X⟩:=U rfl;have Y:∀r,R r->¬T r:=λr h I=>(W r I).elim (λI=>X 1 r I h) λI=>I.2 h;have aC:∀j r,j≠1->r<w.heap.size->A j r\/R r->¬T r:=λj r ao _ h I=>h.elim (λh=>(W r I).elim (λI=>U j 1 r ao h I) λI=>I.1 j h) λh=>Y r h I;refine⟨szv,af,x,ag,ai,aj,rfl,ak.aa h1 J λr _ h=>h.elim False.elim (Y r),?_,?_,?_,?_,?_,λ_=>⟨sR U ac,sS X ad⟩⟩
 .exact ak.aa I J λr=>aC 0 r Ω
 .exact ab
 .exact ak.aa al J λr=>aC 2 r Ω
 .exact ak.aa am J λr=>aC 3 r Ω
 .exact ak.aa an J λr=>aC 4 r Ω
theorem ca.kj {B:ah} {x:x1} {V:List (Λ)} (h:ca true A R w cs k sizes zero D G aU H E) {T:ah} (J:ae T w w') (W:∀r,T r->A 2 r\/(∀j,¬A j r)/\¬R r) (ab:bx B R w' [x] V) (ac:∀j r,j≠2->B r->¬A j r) (ad:∀r,B r->¬R r):ca true (h4 A 2 B) R w' (cs.set 5 x) k sizes zero D G V H E:=by
 obtain⟨szv,af,ag,ap,ai,aj,rfl,h1,I,al,aq,am,an,U⟩:=h;obtain⟨U,X⟩:=U rfl;have Y:∀r,R r->¬T r:=λr h I=>(W r I).elim (λI=>X 2 r I h) λI=>I.2 h;have aC:∀j r,j≠2->r<w.heap.size->A j r\/R r->¬T r:=λj r ao _ h I=>h.elim (λh=>(W r I).elim (λI=>U j 2 r ao h I) λI=>I.1 j h) λh=>Y r h I;refine⟨szv,af,ag,x,ai,aj,rfl,ak.aa h1 J λr _ h=>h.elim False.elim (Y r),?_,?_,?_,?_,?_,λ_=>⟨sR U ac,sS X ad⟩⟩
 .exact ak.aa I J λr=>aC 0 r Ω
 .exact ak.aa al J λr=>aC 1 r Ω
 .exact ab
 .exact ak.aa am J λr=>aC 3 r Ω
 .exact ak.aa an J λr=>aC 4 r Ω
theorem ca.kk {B:ah} {x:x1} {V:List iD} (h:ca true A R w cs k sizes zero D G aU H E) {T:ah} (J:ae T w w') (W:∀r,T r->A 3 r\/(∀j,¬A j r)/\¬R r) (ab:bx B R w' [x] V) (ac:∀j r,j≠3->B r->¬A j r) (ad:∀r,B r->¬R r):ca true (h4 A 3 B) R w' (cs.set 6 x) k sizes zero D G aU V E:=by
 obtain⟨szv,af,ag,ai,ap,aj,rfl,h1,I,al,am,aq,an,U⟩:=h;obtain⟨U,X⟩:=U rfl;have Y:∀r,R r->¬T r:=λr h I=>(W r I).elim (λI=>X 3 r I h) λI=>I.2 h;have aC:∀j r,j≠3->r<w.heap.size->A j r\/R r->¬T r:=λj r ao _ h I=>h.elim (λh=>(W r I).elim (λI=>U j 3 r ao h I) λI=>I.1 j h) λh=>Y r h I;refine⟨szv,af,ag,ai,x,aj,rfl,ak.aa h1 J λr _ h=>h.elim False.elim (Y r),?_,?_,?_,?_,?_,λ_=>⟨sR U ac,sS X ad⟩⟩
 .exact ak.aa I J λr=>aC 0 r Ω
 .exact ak.aa al J λr=>aC 1 r Ω
 .exact ak.aa am J λr=>aC 2 r Ω
 .exact ab
 .exact ak.aa an J λr=>aC 4 r Ω
theorem ca.Nd {z:Int} (h:ca m A R w cs k sizes zero D G aU H E):ca m A R w (cs.set 2 (Δ z)) k sizes z D G aU H E:=by
 obtain⟨szv,I,J,U,V,W,rfl,h1,X,Y,aa,ab,ac,ad⟩:=h;exact⟨szv,I,J,U,V,W,rfl,h1,X,Y,aa,ab,ac,ad⟩
end
theorem sT {α:Type} [ak α] {st t am:r9} {pl:List (Nat×Nat)} {c q b an:Nat} {z ao y v:x1} {box cs:List x1} {S A R:ah} {l:List α} {a:α} {K:x3->Prop}
  (ap:bG x7 st pl) (aq:pl[c]? =σ (c,q+1)) (au:x7.underlying t=σ (.slice e)) (av:aO x7 t 1 an ao) (hi:aO x7 e (ak.n α) b z) (aw:z.cells.size=ak.n α)
  (af:ac w gs st box) (ay:box[c]? =σ v) (h:bx S R w [v] l) (I:b5 w (ak.n α) y 1 cs) (az:bx A R w cs a) (aA:∀r,r<w.heap.size->S r->¬A r/\¬R r) (X:¬S gs/\¬A gs/\¬R gs) (aF:(l.length+1)*b<=140737488355328) (aG:l.length+1<=1000000)
  (aB:∀W w',ae (λr=>S r\/r=gs) w w'->ac w' gs st (box.set c W)->bx (λr=>S r\/A r\/w.heap.size<=r) R w' [W] (l++[a])->K w'):
  ax x7 (b8 #[t,t] am #[v,y]) w λW V=>U x7 (u6 st (Γ gs) c) V λaC=>ax x7 (o7 t aC W) V λ_ Y=>K Y:=by
 have aD:=(x4.1 ay).1;refine l4 (A:=A) au hi aw h I az (λr ag I J=>?_) Ω Ω λW V ab ai=>?_
 .have:=aA r ag I;exact J.elim this.1 this.2
 have aE:ac V gs st box:=af.aa ai X.1;rw[aT ap aq];refine bz (o:=0+c) av (oc ab) (hp ab) aE (by rw[X1];exact aD) λY aj aH al=>?_;refine aB W Y ((ai.mono λr _ h=>.inl h).trans (aj.mono λr _ h=>.inr h)) (by rw[X1] at al;exact al) (ak.aa ab aj λr ag J ad=>?_);have ad:r=gs:=ad;subst ad;have aI:=af.lt;rcases J with J|J
 .rcases J with J|J|J
  .exact X.1 J
  .exact X.2.1 J
  .omega
 .exact X.2.2 J
section
variable {A:Nat->ah} {B R:ah} {w:x3} {cs xs:List x1} {gs:Nat} {y v:x1} {k zero:Int} {sizes:Λ} {D:List (Λ)} {G:List Bool} {aU:List (Λ)} {H:List iD} {E:List nD} {K:x3->Prop}
theorem ca.Nf {a:Λ} {ap:r9} (h:ca true A R w cs k sizes zero D G aU H E) (ag:ac w gs a6 cs) (aa:cs[3]? =σ v) (W:∀j r,A j r->gs<r) (Y:∀r,R r->r<gs) (I:b5 w 1 y 1 xs) (aq:bx B R w xs a) (X:∀r,r<w.heap.size->B r->(∀j,¬A j r)/\gs<r) (aF:D.length<=1000)
  (au:∀aN b7 w',ae (λr=>gs<=r) w w'->ac w' gs a6 b7->ca true aN R w' b7 k sizes zero (D++[a]) G aU H E->(∀j r,aN j r->gs<r)->(∀j,j≠3->b7[j]? =cs[j]?)->K w'):
  ax x7 (b8 #[cO,cO] ap #[v,y]) w λah V=>U x7 (u6 a6 (Γ gs) 3) V λav=>ax x7 (o7 cO av ah) V λ_ ab=>K ab:=by
 have ai:=h.old;have aw:=ag.lt;obtain⟨szv,ay,aG,aH,aI,aj,az,h1,aA,aJ,aK,aL,aM,ad⟩:=id ai;obtain⟨ad,al⟩:=ad rfl;have aj:v=ay:=by rw[az] at aa;exact (c9 aa).symm
 subst aj;have aB:bx (λr=>B r/\r<w.heap.size) R w xs a:=ak.mono aq (λr J h=>⟨h,J⟩) λ_ _ h=>h;refine sT (pl:=_) (l:=D) a6.p rfl cO.u cO.i am.i rfl ag aa aA I aB (λr J an=>⟨λaC=>(X r J aC.1).1 0 an.1,al 0 r an⟩) ⟨λh=>by have:=W 0 gs h.1;omega,λh=>by have:=(X gs aw h.1).2;omega,λh=>by have:=Y gs h;omega⟩ Ω Ω λah ab ao aD aE=>?_;refine au _ _ ab (ao.mono λr _ h=>h.elim (λh=>by have:=W 0 r h.1;omega) λh=>Ω) aD (ai.Dc ao (λr J=>?_) aE (λj r af J=>?_) λr J=>?_) (λj r J=>?_) λj af=>?_
 .rcases J with J|rfl
  .exact .inl J
  .exact .inr ⟨λj h=>by have:=W j r h.1;omega,λh=>by have:=Y r h;omega⟩
 .rcases J with J|J|J
  .exact ad 0 j r (Ne.symm af) J
  .exact λh=>(X r J.2 J.1).1 j h.1
  .exact λh=>by have:=h.2;omega
 .rcases J with J|J|J
  .exact al 0 r J
  .exact λh=>by have:=(X r J.2 J.1).2;have:=Y r h;omega
  .exact λh=>by have:=Y r h;omega
 .unfold h4 at J;split at J
  .rcases J with J|J|J
   .exact W 0 r J.1
   .exact (X r J.2 J.1).2
   .omega
  .exact W j r J.1
 .rw[Y5 (Ne.symm af)]
theorem ca.Ng {a:Bool} {ao:r9} (h:ca true A R w cs k sizes zero D G aU H E) (ag:ac w gs a6 cs) (aa:cs[4]? =σ v) (W:∀j r,A j r->gs<r) (Y:∀r,R r->r<gs) (I:b5 w 1 y 1 xs) (ap:bx B R w xs a) (X:∀r,r<w.heap.size->B r->(∀j,¬A j r)/\gs<r) (aE:G.length<=1000)
  (aq:∀aN b7 w',ae (λr=>gs<=r) w w'->ac w' gs a6 b7->ca true aN R w' b7 k sizes zero D (G++[a]) aU H E->(∀j r,aN j r->gs<r)->(∀j,j≠4->b7[j]? =cs[j]?)->K w'):
  ax x7 (b8 #[jP,jP] ao #[v,y]) w λah V=>U x7 (u6 a6 (Γ gs) 4) V λau=>ax x7 (o7 jP au ah) V λ_ ab=>K ab:=by
 have ai:=h.old;have av:=ag.lt;obtain⟨szv,aF,aw,aG,aH,aj,ay,h1,aI,az,aJ,aK,aL,ad⟩:=id ai;obtain⟨ad,al⟩:=ad rfl;have aj:v=aw:=by rw[ay] at aa;exact (c9 aa).symm
 subst aj;have aA:bx (λr=>B r/\r<w.heap.size) R w xs a:=ak.mono ap (λr J h=>⟨h,J⟩) λ_ _ h=>h;refine sT (pl:=_) (l:=G) a6.p rfl jP.u jP.i eW.i rfl ag aa az I aA (λr J am=>⟨λaB=>(X r J aB.1).1 1 am.1,al 1 r am⟩) ⟨λh=>by have:=W 1 gs h.1;omega,λh=>by have:=(X gs av h.1).2;omega,λh=>by have:=Y gs h;omega⟩ Ω Ω λah ab an aC aD=>?_;refine aq _ _ ab (an.mono λr _ h=>h.elim (λh=>by have:=W 1 r h.1;omega) λh=>Ω) aC (ai.Nc an (λr J=>?_) aD (λj r af J=>?_) λr J=>?_) (λj r J=>?_) λj af=>?_
 .rcases J with J|rfl
  .exact .inl J
  .exact .inr ⟨λj h=>by have:=W j r h.1;omega,λh=>by have:=Y r h;omega⟩
 .rcases J with J|J|J
  .exact ad 1 j r (Ne.symm af) J
  .exact λh=>(X r J.2 J.1).1 j h.1
  .exact λh=>by have:=h.2;omega
 .rcases J with J|J|J
  .exact al 1 r J
  .exact λh=>by have:=(X r J.2 J.1).2;have:=Y r h;omega
  .exact λh=>by have:=Y r h;omega
 .unfold h4 at J;split at J
  .rcases J with J|J|J
   .exact W 1 r J.1
   .exact (X r J.2 J.1).2
   .omega
  .exact W j r J.1
 .rw[Y5 (Ne.symm af)]
theorem ca.Nh {a:Λ} {ao:r9} (h:ca true A R w cs k sizes zero D G aU H E) (ag:ac w gs a6 cs) (aa:cs[5]? =σ v) (W:∀j r,A j r->gs<r) (Y:∀r,R r->r<gs) (I:b5 w 1 y 1 xs) (ap:bx B R w xs a) (X:∀r,r<w.heap.size->B r->(∀j,¬A j r)/\gs<r) (aF:aU.length<=1000)
  (au:∀aN b7 w',ae (λr=>gs<=r) w w'->ac w' gs a6 b7->ca true aN R w' b7 k sizes zero D G (aU++[a]) H E->(∀j r,aN j r->gs<r)->(∀j,j≠5->b7[j]? =cs[j]?)->K w'):
  ax x7 (b8 #[ec,ec] ao #[v,y]) w λah V=>U x7 (u6 a6 (Γ gs) 5) V λav=>ax x7 (o7 ec av ah) V λ_ ab=>K ab:=by
 have ai:=h.old;have aw:=ag.lt;obtain⟨szv,aG,aH,ay,aI,aj,az,h1,aJ,aK,aA,aL,aM,ad⟩:=id ai;obtain⟨ad,al⟩:=ad rfl;have aj:v=ay:=by rw[az] at aa;exact (c9 aa).symm
 subst aj;have aB:bx (λr=>B r/\r<w.heap.size) R w xs a:=ak.mono ap (λr J h=>⟨h,J⟩) λ_ _ h=>h;refine sT (pl:=_) (l:=aU) a6.p rfl ec.u ec.i aq.i rfl ag aa aA I aB (λr J am=>⟨λaC=>(X r J aC.1).1 2 am.1,al 2 r am⟩) ⟨λh=>by have:=W 2 gs h.1;omega,λh=>by have:=(X gs aw h.1).2;omega,λh=>by have:=Y gs h;omega⟩ Ω Ω λah ab an aD aE=>?_;refine au _ _ ab (an.mono λr _ h=>h.elim (λh=>by have:=W 2 r h.1;omega) λh=>Ω) aD (ai.kj an (λr J=>?_) aE (λj r af J=>?_) λr J=>?_) (λj r J=>?_) λj af=>?_
 .rcases J with J|rfl
  .exact .inl J
  .exact .inr ⟨λj h=>by have:=W j r h.1;omega,λh=>by have:=Y r h;omega⟩
 .rcases J with J|J|J
  .exact ad 2 j r (Ne.symm af) J
  .exact λh=>(X r J.2 J.1).1 j h.1
  .exact λh=>by have:=h.2;omega
 .rcases J with J|J|J
  .exact al 2 r J
  .exact λh=>by have:=(X r J.2 J.1).2;have:=Y r h;omega
  .exact λh=>by have:=Y r h;omega
 .unfold h4 at J;split at J
  .rcases J with J|J|J
   .exact W 2 r J.1
   .exact (X r J.2 J.1).2
   .omega
  .exact W j r J.1
 .rw[Y5 (Ne.symm af)]
theorem ca.Ni {a:iD} {ao:r9} (h:ca true A R w cs k sizes zero D G aU H E) (ag:ac w gs a6 cs) (aa:cs[6]? =σ v) (W:∀j r,A j r->gs<r) (Y:∀r,R r->r<gs) (I:b5 w 4 y 1 xs) (ap:bx B R w xs a) (X:∀r,r<w.heap.size->B r->(∀j,¬A j r)/\gs<r) (aE:H.length<=1000)
  (aq:∀aN b7 w',ae (λr=>gs<=r) w w'->ac w' gs a6 b7->ca true aN R w' b7 k sizes zero D G aU (H++[a]) E->(∀j r,aN j r->gs<r)->(∀j,j≠6->b7[j]? =cs[j]?)->K w'):
  ax x7 (b8 #[e4,e4] ao #[v,y]) w λah V=>U x7 (u6 a6 (Γ gs) 6) V λau=>ax x7 (o7 e4 au ah) V λ_ ab=>K ab:=by
 have ai:=h.old;have av:=ag.lt;obtain⟨szv,aF,aG,aH,aw,aj,ay,h1,aI,aJ,aK,az,aL,ad⟩:=id ai;obtain⟨ad,al⟩:=ad rfl;have aj:v=aw:=by rw[ay] at aa;exact (c9 aa).symm
 subst aj;have aA:bx (λr=>B r/\r<w.heap.size) R w xs a:=ak.mono ap (λr J h=>⟨h,J⟩) λ_ _ h=>h;refine sT (pl:=_) (l:=H) a6.p rfl e4.u e4.i ed.i rfl ag aa az I aA (λr J am=>⟨λaB=>(X r J aB.1).1 3 am.1,al 3 r am⟩) ⟨λh=>by have:=W 3 gs h.1;omega,λh=>by have:=(X gs av h.1).2;omega,λh=>by have:=Y gs h;omega⟩ Ω Ω λah ab an aC aD=>?_;refine aq _ _ ab (an.mono λr _ h=>h.elim (λh=>by have:=W 3 r h.1;omega) λh=>Ω) aC (ai.kk an (λr J=>?_) aD (λj r af J=>?_) λr J=>?_) (λj r J=>?_) λj af=>?_
 .rcases J with J|rfl
  .exact .inl J
  .exact .inr ⟨λj h=>by have:=W j r h.1;omega,λh=>by have:=Y r h;omega⟩
 .rcases J with J|J|J
  .exact ad 3 j r (Ne.symm af) J
  .exact λh=>(X r J.2 J.1).1 j h.1
  .exact λh=>by have:=h.2;omega
 .rcases J with J|J|J
  .exact al 3 r J
  .exact λh=>by have:=(X r J.2 J.1).2;have:=Y r h;omega
  .exact λh=>by have:=Y r h;omega
 .unfold h4 at J;split at J
  .rcases J with J|J|J
   .exact W 3 r J.1
   .exact (X r J.2 J.1).2
   .omega
  .exact W j r J.1
 .rw[Y5 (Ne.symm af)]
end
theorem Nj (u:Λ):aK (newVar u)=(W7 u.length).map λv:Nat=>(v:Int):=by
 unfold aK newVar dropped;rw[List.filter_eq_self.2];intro a _;simp
theorem nE {R:ah} {v:x1} {g:Nat} (h:ap .i64 e w g v l):bx (λr=>leads v r) R w [v] l:=by
 have h1:=kG (R:=R) h;by_cases J:v= .slice ν 0 0
 .subst J;have:l=[]:=by
   obtain⟨U,⟨_,I⟩|⟨_,_,I,_⟩⟩:=h
   .exact j9 I
   .cases I
  subst this;exact gB
 .obtain⟨U,⟨I,_⟩|⟨cap,cs,I,_⟩⟩:=id h
  .exact absurd I J
  .refine ak.mono h1 (λr _ V=>?_) λ_ _ h=>h;rw[I];exact⟨_,_,_,rfl,V.symm⟩
theorem wA {R:ah} {v:x1} {g:Nat} (J:∀r c,B<=r->ac w r ag c->R r) (h:ap .i64 ag w g v l) (U:∀r,leads v r->B<=r):Seen R w [v] l:=ob (nE (R:=λ_=>False) h) λr W I=>by
 rcases I with I|I
 .obtain⟨c,V⟩:=M8 h r I;exact J r c (U r I) V
 .exact I.elim
theorem Nk {R:ah} {zero:Int} (h:Seen R w [szv] sizes):ca true (λ_ _=>False) R w [Δ k,szv,Δ zero,.slice ν 0 0,.slice ν 0 0,.slice ν 0 0,.slice ν 0 0,.slice ν 0 0] k sizes zero [] [] [] [] []:=
 ⟨_,_,_,_,_,_,rfl,h,gB,gB,gB,gB,gB,λ_=>⟨λ_ _ _ _ h=>h.elim,λ_ _ h=>h.elim⟩⟩
theorem ca.at {m:Bool} {A:Nat->ah} {R:ah} {cs:List x1} {zero:Int} {D:List (Λ)} {G:List Bool} {aU:List (Λ)} {H:List iD} {E:List nD} (h:ca m A R w cs k sizes zero D G aU H E) (c:Nat) (I:c<8):∃v,cs[c]? =σ v:=⟨_,x6 (by rw[h.len.1];exact I)⟩
def Nl (R:ah) (w:x3) (J gt gs:Nat) (n:aQ) (U:List x1) (i j:Nat) (I:x3):Prop:=Ext w I/\ac I J du U/\ac I gt a6 z12/\ ∃A cs,ac I gs a6 cs/\(∀q r,A q r->gs<r)/\
 ca true A R I cs n.k n.sizes n.zero ((n.unary.take i).map λu=>aK (newVar u)) (p8 i false) (n.unary.take i) ((n.funs.take j).map λg=>hE (kd n.sizes g)) []
theorem Dd {bY:x1} {n:aQ} {R:ah} (aU:∀r,R r->r<w.heap.size) (bo:∀r c,B<=r->ac w r ag c->R r) (cQ:wv w B bY n) (aH:jw n) (ev:n.funs.length<=256):aj x7 Fl [bY] w λv w'=>Ext w w'/\ ∃A cs,v= .agg cs.toArray/\h3 true A R w' cs n.k n.sizes (dd n)/\ ∀q r,A q r->w.heap.size<=r:=by
 have ew:=aH.sizes.2.1;have cR:=aH.kb;refine aw func38 ?_;refine bm λg1 J ey bp cS=>?_;obtain⟨szv,gz,cT,ez,bZ,cU,eA,br,aW,aX,cV,b0,bt,cW,b1,cX,b2⟩:=M9 cQ cS;refine bN a6.i λgt V eB aY a1=>?_;have a1:ac V gt a6 z12:=a1;have bu:=aW.ext aY;rw[aD du.p 0 bu rfl,aD du.p 1 bu rfl,aD du.p 2 bu rfl,
  dc (cs:=#[Δ n.k,szv,Δ n.zero,.slice ν 0 0,.slice ν 0 0,.slice ν 0 0,.slice ν 0 0,.slice ν 0 0]) (by obtain⟨_,_,_,e⟩:=df aX.ls;rw[e];kernel_rfl)]
 refine bN a6.i λgs eC eD a2 cY=>?_;have cZ:Seen R w [szv] n.sizes:=wA bo aX cX;have eE:=bp.size;have eF:=aY.size;have z3:=a2.size;have c0:=(bp.trans aY).trans a2;have b3:=Nk (k:=n.k) (zero:=n.zero) (bq cZ c0);refine cc (vs:=[Δ n.k,szv,Δ n.zero,.slice ν 0 0,.slice ν 0 0,.slice ν 0 0,.slice ν 0 0,.slice ν 0 0]) a6.i rfl rfl b3.len.2 cY λc1 bw eH c2=>?_;have eI:=a1.lt;have eJ:=aW.lt;have c3:gt≠gs:=Ω
 have bz:Ext J c1:=(aY.trans a2).put bw Ω;have b4:=bp.trans bz;have c4:=(a1.ext a2).aa bw λhe=>c3 he;have eK:w.heap.size<gs:=Ω
 rw[aD du.p 1 (aW.ext bz) rfl,aV am.u (aX.ext b4).ls];have c5:=b3.aa bw λr I h he=>by
  have he:r=gs:=he;rcases h with⟨_,h⟩|h
  .exact h
  .have:=aU r h;omega
 refine ce.range n.sizes.length (λi ao=>Nl R w g1 gt gs n [Δ n.k,szv,Δ n.zero,cT,cU] i 0 ao) Ω ⟨b4,aW.ext bz,c4,_,_,c2,(λ_ _ h=>h.elim),c5⟩ ?_ ?_
 .rintro i ao c6 hi ⟨au,bA,bC,A,cs,aI,bD,a7⟩ c7;obtain⟨z,bE⟩:=aF (l:=n.sizes) hi;obtain⟨u,hu⟩:=aF (l:=n.unary) (i:=i) Ω;have eL:=aH.sizes.2.2 z (x5 bE);obtain⟨eM,_⟩:=aH.unary i z u bE hu;refine bB Ω ?_;rw[ba am.u ag.i Ψ (aX.ext au).ls bE];obtain⟨b5,rfl⟩:∃m:Nat,z=m:=⟨z.toNat,Ω⟩;refine bU.range b5 (λj aM a8=>Ext ao a8/\ ∃g,ap .i64 ag a8 g aM ((W7 j).map λv:Nat=>(v:Int))/\ ∀r,leads aM r->ao.heap.size<=r) Ω
   ⟨Ext.refl _,0,ap.nil _ _ _ _,λr I=>by obtain⟨a,n,c,ad,av⟩:=I;cases ad⟩ ?_ ?_
  .rintro j aM a8 bF bG ⟨af,db,ax,bb⟩ bH;refine bB Ω ?_;refine en (k:=.i64) am.u ag.i rfl λeN eO de eP ab dg=>?_;refine hc am.u ag.i rfl (ax.ext ab) dg.ls Θ Θ λeQ dh dj dk dl ay=>?_;rw[aL];have dm:=af.size;have dn:=ab.size;refine bH _ _ ⟨(af.trans ab).then ay λr I he=>by have:=bb r he;omega,dh,?_,λr I=>(dl r I).elim (bb r) λh=>Ω⟩;rw[List.range_succ,c8];exact dk
  rintro aM a8 bF ⟨af,db,ax,bb⟩;refine b6 Ω ?_;have dp:(W7 b5).map (λv:Nat=>(v:Int))=aK (newVar u):=by rw[Nj];congr 2;omega
  rw[dp] at ax;have dm:=af.size;have eR:=au.size;have eS:=aI.lt;have aN:∀r,R r->r<gs:=λr I=>by have:=aU r I;omega
  have low:∀ {U W:x3} {b:Nat} {e:r9} {c:List x1},ae (λr=>gs<=r) U W->b<gs->ac U b e c->ac W b e c:=λai dr h=>h.aa ai λaz=>by have az:gs<=_:=az;omega
  have aO:∀ {U W:x3},Ext w U->ae (λr=>gs<=r) U W->Ext w W:=λbJ ai=>bJ.then ai λr I h=>by have h:gs<=r:=h;omega
  have b7:=a7.old.ext af;have ds:∀q r,(A q r/\r<ao.heap.size)->gs<r:=λq r h=>bD q r h.1;obtain⟨eU,b8⟩:=b7.at 3 Ω;rw[aD a6.p 3 (aI.ext af) b8];refine jm cO.u am.i Φ (a:=aK (newVar u)) (cs:=[aM]) ax.ls.cells.1 (nE (R:=R) ax) λeV de ab _ dt=>?_;have dn:=ab.size;have bc:=af.trans ab;refine ca.Nf (b7.ext ab) (aI.ext bc) b8 ds aN dt (bq (nE (R:=R) ax) ab) (λr I h=>?_) Θ λeX eZ dj ay b9 cb dv _=>?_
  .have:=bb r h;exact⟨λj h=>Ω,Ω⟩
  have e0:=ay.size;obtain⟨e1,cd⟩:=cb.at 4 Ω;rw[aD a6.p 4 b9 cd];refine jm (a:=false) (cs:=[.bool false]) (A:=λ_=>False) (R:=R) jP.u eW.i Φ rfl rfl λe2 e3 aB _ dw=>?_;refine ca.Ng (a:=false) (xs:=[.bool false]) (B:=λ_=>False) (cb.ext aB) (b9.ext aB) cd dv aN dw rfl (λr I h=>h.elim) Θ λdx e5 cg bd ch dy dz _=>?_;have z9:=aB.size;have e6:=bd.size;have dA:Ext w cg:=aO ((aO (au.trans bc) ay).trans aB) bd;have dC:=low bd Ω ((low ay Ω (bA.ext bc)).ext aB);have dD:=low bd Ω ((low ay Ω (bC.ext bc)).ext aB);intro bK aC _ _;have ci:=ch.ext aC;have cj:=dC.ext aC;have ck:=dA.trans aC;obtain⟨aE,be⟩:∃aE,bZ[i]? =σ aE:=⟨_,x6 (by have:=congrArg S9 b0;rw[u7] at this;omega)⟩;have dE:aE.l=u:=by
   have cl:(bZ.map (·.l))[i]? =σ aE.l:=by rw[x8,be];rfl
   rw[b0,hu] at cl;exact (c9 cl).symm
  have bL:=cV.ext ck;obtain⟨e7,cm⟩:=bL.2 aE (x5 be);rw[dE] at cm;have cn:=dy.old.ext aC;have dF:∀q r,(dx q r/\r<cg.heap.size)->gs<r:=λq r h=>dz q r h.1;obtain⟨e8,cp⟩:=cn.at 5 Ω;rw[aD a6.p 5 ci cp,aD du.p 3 cj rfl,dq rfl ec.u aq.i bL.1 (x4.1 be).1,aA (v:=aE.v) (o:=i*1) Ψ (bL.1.range be 0 _ rfl)];refine wz (k:=.i64) aq.u al.i λdG e9 fa fb bf cq=>?_;refine⟨.inl bf,?_⟩;refine hc aq.u al.i rfl cq (cm.ext bf).ls Θ Θ λcr fc dH bg dI dJ=>?_;rw[List.nil_append] at bg;have fd:=aC.size;have fe:=bf.size;have ct:∀r,leads dG r->bK.heap.size<=r:=λr I=>by have:=(bR cq I).1;omega
  have dK:∀r,leads cr r->bK.heap.size<=r:=λr I=>(dI r I).elim (ct r) λh=>Ω
  have bM:Ext bK dH:=bf.then dJ λr I he=>by have:=ct r he;omega
  refine⟨.inl bM,?_⟩;have ff:=bM.size;refine jm ec.u aq.i Φ (a:=u) (cs:=[cr]) bg.ls.cells.1 (nE (R:=R) bg) λfg fh bO _ dL=>?_;have fi:=bO.size;have aG:=bM.trans bO;refine⟨.inl aG,?_⟩;refine ca.Nh (cn.ext aG) (ci.ext aG) cp dF aN dL (bq (nE (R:=R) bg) bO) (λr I h=>?_) Θ λdM dN fj bP dO dP dQ _=>?_
  .have:=dK r h;have:=ch.lt;exact⟨λj h=>Ω,Ω⟩
  rw[aL];refine c7 _ ⟨aO (ck.trans aG) bP,low bP Ω (cj.ext aG),low bP Ω ((dD.ext aC).ext aG),dM,dN,dO,dQ,?_⟩;rw[r8,hu,l9,c8,U4,List.map_nil,List.replicate_succ'];exact dP
 rintro ao c6 ⟨au,bA,bC,A,cs,aI,bD,a7⟩;refine b6 Ω ?_;rw[j6 Ω] at a7;have fk:br.length=n.funs.length:=by rw[<-b1,u7]
 have dR:=bt.ext au;rw[aD du.p 4 bA rfl,eY cP.u dR];have aN:∀r,R r->r<gs:=λr I=>by have:=aU r I;omega
 have low:∀ {U W:x3} {b:Nat} {e:r9} {c:List x1},ae (λr=>gs<=r) U W->b<gs->ac U b e c->ac W b e c:=λai dr h=>h.aa ai λaz=>by have az:gs<=_:=az;omega
 have aO:∀ {U W:x3},Ext w U->ae (λr=>gs<=r) U W->Ext w W:=λbJ ai=>bJ.then ai λr I h=>by have h:gs<=r:=h;omega
 refine ce.range br.length (λj Y=>Ext w Y/\ac Y gt a6 z12/\ ∃A cs,ac Y gs a6 cs/\(∀q r,A q r->gs<r)/\
  ca true A R Y cs n.k n.sizes n.zero (n.unary.map λu=>aK (newVar u)) (p8 n.sizes.length false) n.unary ((n.funs.take j).map λg=>hE (kd n.sizes g)) []) bt.le ⟨au,bC,A,cs,aI,bD,a7⟩ ?_ ?_
 .rintro j Y bF bG ⟨ak,bQ,bS,bh,bi,bj,aP⟩ bH;obtain⟨y,aR⟩:=aF (l:=br) bG;have cu:n.funs[j]? =σ (di y):=by rw[<-b1,x8,aR];rfl
  have cw:=(aH.funs (di y) (x5 cu)).1;have fm:y.cs.length<=4096:=by
   have h1:y.cs.length=_:=cw.len;have az:=cw.small;omega
  have cz:=cW y (x5 aR);have cA:=cz.ext ak;have cB:=bt.ext ak;refine bB Ω ?_;rw[dq rfl cP.u aZ.i cB bG,bI aZ.p aZ.i rfl (cB.range aR)];refine bN aZ.i λfo fp fq dS dT=>?_;refine cc (vs:=da y) aZ.i rfl rfl cA.one dT λdU dV fs dW=>?_;have dX:Ext Y dU:=dS.put dV Ω;intro bT cC _ _;have an:=dX.trans cC;have cD:=bi.ext an;have bV:=dW.ext cC;have dY:=cA.ext an;obtain⟨⟨ft,cE⟩,⟨fu,cF⟩,fv,dZ⟩:=id dY;have cG:=aP.old.ext an;have ea:∀q r,(bS q r/\r<Y.heap.size)->gs<r:=λq r h=>bj q r h.1;obtain⟨fw,cH⟩:=cG.at 6 Ω;rw[aD a6.p 6 cD cH,aD aZ.p 0 bV rfl,aD aZ.p 1 bV rfl,aD aZ.p 2 bV rfl];refine wz (k:=.i64) aq.u al.i λv25 fx fy fz bk cI=>?_;refine⟨.inl bk,?_⟩;refine hc aq.u al.i rfl cI (dZ.ext bk).ls Θ Θ λX fA cJ bl eb ee=>?_;rw[List.nil_append] at bl;have fD:=an.size;have z25:=bk.size;have cK:∀r,leads v25 r->bT.heap.size<=r:=λr I=>by have:=(bR cI I).1;omega
  have ef:∀r,leads X r->bT.heap.size<=r:=λr I=>(eb r I).elim (cK r) λh=>Ω
  have bn:Ext bT cJ:=bk.then ee λr I he=>by have:=cK r he;omega
  refine⟨.inl bn,?_⟩;rw[dc (cs:=#[y.aJ,y.szv,X]) (by obtain⟨_,_,_,ad⟩:=df cE.ls;obtain⟨_,_,_,av⟩:=df cF.ls;obtain⟨_,_,_,aS⟩:=df bl.ls;rw[ad,av,aS];kernel_rfl),
   dc (cs:=#[y.aJ,y.szv,X,.bool true]) (by obtain⟨_,_,_,ad⟩:=df cE.ls;obtain⟨_,_,_,av⟩:=df cF.ls;obtain⟨_,_,_,aS⟩:=df bl.ls;rw[ad,av,aS];kernel_rfl)]
  have fE:=bn.size;have cL:=(ak.trans an).trans bn;obtain⟨⟨ga,eg⟩,⟨fF,eh⟩,_⟩:=id cz;have own:bx (α:=iD) (λr=>leads X r) R cJ [y.aJ,y.szv,X,.bool true] (hE (kd n.sizes (di y))):=by
   refine⟨[y.aJ,y.szv,X],[.bool true],λr=>leads X r,λ_=>False,rfl,λ_ h=>h,λ_ h=>h.elim,λ_ _ _ h=>h,⟨[y.aJ],[y.szv,X],λ_=>False,λr=>leads X r,rfl,λ_ h=>h.elim,λ_ h=>h,λ_ _ h=>h.elim,?_,[y.szv],[X],λ_=>False,λr=>leads X r,rfl,λ_ h=>h.elim,λ_ h=>h,λ_ _ h=>h.elim,?_,?_⟩,rfl⟩
   .exact bq (wA bo eg λr I=>b2 y (x5 aR) r (.inr (.inl I))) cL
   .exact bq (wA bo eh λr I=>b2 y (x5 aR) r (.inr (.inr I))) cL
   .exact nE bl
  refine jm e4.u ed.i Φ rfl own λfG fH bW _ ei=>?_;have fI:=bW.size;have aT:=bn.trans bW;refine⟨.inl aT,?_⟩;refine ca.Ni (cG.ext aT) (cD.ext aT) cH ea aN ei (bq own bW) (λr I h=>?_) Θ λej ek fJ cM em eo ep _=>?_
  .have:=ef r h;have:=bi.lt;exact⟨λj h=>Ω,Ω⟩
  rw[aL];refine bH _ ⟨aO (ak.trans (an.trans aT)) cM,low cM Ω (bQ.ext (an.trans aT)),ej,ek,em,ep,?_⟩;rw[r8,cu,l9,c8,U4,List.map_nil];exact eo
 rintro Y bF ⟨ak,bQ,bS,bh,bi,bj,aP⟩;rw[j6 Ω] at aP;refine b6 Ω ?_;obtain⟨bX,er⟩:=aP.len;rw[bI a6.p a6.i bX (show Y.rangeAt gs 0 bh from bi.range)];refine cc (vs:=bh) a6.i bX rfl er bQ λfK cN fL es=>?_;rw[fB a6.p a6.i bX es.range];have et:=aP.aa cN λr I h he=>by
  have he:r=gt:=he;rcases h with⟨q,h⟩|h
  .have:=bj q r h;omega
  .have:=aU r h;omega
 have fM:=ak.size;refine⟨ak.then cN λr I he=>by have he:r=gt:=he;omega,bS,bh,rfl,?_,λq r h=>by have:=bj q r h;omega⟩;have ad:(dd n).vars.map aK=n.unary.map λu=>aK (newVar u):=by show (n.unary.map newVar).map aK=_;rw[S1];rfl
 have av:(dd n).vars.map (λx=>decide (x.gone≠0))=p8 n.sizes.length false:=by
  show (n.unary.map newVar).map _=_;rw[S1,<-cR];exact List.map_const' ..
 have aS:(dd n).vars.map (·.un)=n.unary:=by show (n.unary.map newVar).map _=_;rw[S1];exact List.map_id _
 have eu:(dd n).funs.map hE=n.funs.map λg=>hE (kd n.sizes g):=by show (n.funs.map (kd n.sizes)).map hE=_;rw[S1];rfl
 unfold h3;rw[ad,av,aS,eu];exact et
section
variable {P:W0} {w:x3} {t:r9} {cx cy:Bool} {a b:Nat} {K:x1->Prop}
theorem Nn (I:a<2 ^ 62) (J:b<2 ^ 62):U P (aE .or t cx cy (Δ a) (Δ b)) w K=K (Δ ((a ||| b:Nat):Int)):=U.of λw' _=>by
 have e:(U3 64 (a:Int) ||| U3 64 (b:Int)).toNat=a ||| b:=by
  rw[l8,l8,BitVec.toNat_or,BitVec.toNat_ofNat,BitVec.toNat_ofNat,Nat.mod_eq_of_lt Ω,Nat.mod_eq_of_lt Ω]
 have W:a ||| b<2 ^ 62:=Nat.or_lt_two_pow I J;have hw:Y9.wrap ((a ||| b:Nat):Int)=((a ||| b:Nat):Int):=wrap_i64 Ω Ω;have V:(U3 Y9.bits (a:Int) ||| U3 Y9.bits (b:Int)).toNat=a ||| b:=e;simp only[aE,eqGuard,binOp,Op.intBits,V,hw];rfl
theorem De (V:a<2 ^ 62) (I:b<2 ^ 62):U P (aE .and t cx cy (Δ a) (Δ b)) w K=K (Δ ((a &&& b:Nat):Int)):=U.of λw' _=>by
 have e:(U3 64 (a:Int) &&& U3 64 (b:Int)).toNat=a &&& b:=by
  rw[l8,l8,BitVec.toNat_and,BitVec.toNat_ofNat,BitVec.toNat_ofNat,Nat.mod_eq_of_lt Ω,Nat.mod_eq_of_lt Ω]
 have W:a &&& b<2 ^ 62:=Nat.and_lt_two_pow _ I;have hw:Y9.wrap ((a &&& b:Nat):Int)=((a &&& b:Nat):Int):=wrap_i64 Ω Ω;have J:(U3 Y9.bits (a:Int) &&& U3 Y9.bits (b:Int)).toNat=a &&& b:=e;simp only[aE,eqGuard,binOp,Op.intBits,J,hw];rfl
theorem No {k:o4} {n:Nat} (I:n<62):U P (aE .shl t cx cy (Δ 1) (.int k (n:Int))) w K=K (Δ ((2 ^ n:Nat):Int)):=by
 rw[y8 Ω];have e:min ((n:Int).toNat) Y9.bits=n:=Nat.min_eq_left (by show n<=64;omega);have J:2 ^ n<2 ^ 62:=Nat.pow_lt_pow_right Ω I;rw[e,Int.one_mul,show ((2:Int) ^ n)=((2 ^ n:Nat):Int) by simp];generalize 2 ^ n=q at J ⊢;rw[wrap_i64 Ω Ω]
end
theorem Df (a n:Nat):(a / 2 ^ n &&& 1=1)↔a.testBit n=true:=by
 rw[Nat.and_one_is_mod,Nat.testBit_eq_decide_div_mod_eq,decide_eq_true_eq]
theorem Dg {b n:Nat} (Y:lA b n):aj x7 FE [iV b n,Δ v] w λr w'=>r= .bool (decide (0<=v/\v<n)&&b.testBit v.toNat)/\Ext w w':=by
 refine aw func65 ?_;refine bm λg J ad U W=>?_;refine aR (λr V=>r= .bool (decide (0<=v/\v<n)&&b.testBit v.toNat)/\Ext w V) (λ_ _ h=>h) λav X=>?_;rw[bI b1.p b1.i rfl W.range];refine Af.mono ?_;rintro _ ae _ ⟨rfl,I⟩;rw[ai];refine⟨λh=>?_,λh=>X _ _ ⟨by rw[decide_eq_false h];rfl,U.trans I⟩⟩;obtain⟨aa,af⟩:=Y;obtain⟨s,rfl⟩:∃s:Nat,v=s:=⟨v.toNat,Ω⟩;have ab:=W.ext I;have ag:(2:Nat) ^ n<=2 ^ 32:=T3 Ω aa;have ac:b / 2 ^ s<2 ^ 64:=Nat.lt_of_le_of_lt (Nat.div_le_self _ _) Ω;rw[aD b1.p 0 ab rfl,kL Ω,show (1:Int)=((1:Nat):Int) from rfl,u64_and ac Ω,be];refine X _ _ ⟨?_,U.trans I⟩;congr 1;rw[decide_eq_true h,T0,V5,decide_eq_true_eq,u9,<-Df];omega
theorem Np (m v:Nat):dropped (m:Int) (v:Int)=m.testBit v:=by unfold dropped;rw[u9,u9]
def bJ (w:x3) (ab ad:Nat) (A R:ah) (n:aQ) (s:au) (t:ay):Prop:=StateM w ab ad A R n s t/\t.bL=s.cells/\mh t/\bH n.k n.sizes s/\jw n
theorem bJ.ext {A R:ah} {n:aQ} {s:au} {t:ay} (h:bJ w ab ad A R n s t) (I:Ext w w'):bJ w' ab ad A R n s t:=⟨h.1.ext I,h.2⟩
theorem StateM.parts {A R:ah} {n:aQ} {s:au} {t:ay} (h:StateM w ab ad A R n s t):∃I J U V a1 W L X,ac w ab cB [Γ I,Γ ad,J,U,V]/\fH w I n/\dh w ad X t/\ap .i64 ag w a1 J (h2 s)/\bd lH 3 ek w W U L/\ke R w L s:=by
 obtain⟨I,J,U,V,_,a1,W,ge,L,E,X,w0,Y,⟨aa,ae,al⟩,⟨af,am,an,ao⟩,ai,⟨aj,ak⟩,aq,av⟩:=h;exact⟨I,J,U,V,a1,W,L,X,Y,aa.ext ae,af,ai,aj,ak⟩
theorem sU {s:au} {i:Nat} (h:i<s.vars.length):(h2 s)[i]? =σ (fu s i:Int):=by
 unfold h2;rw[x8,List.getElem?_range h];rfl
theorem sV {s:au} {t:ay} (J:t.bL=s.cells) (I:mh t):s.cells.length<=100000000:=by
 rw[<-J];unfold ay.bL;rw[u7];exact I.1
theorem sW {s:au} {i:Nat} {x:bP} (h:s.vars[i]? =σ x):fu s i+x.un.length+2<=s.cells.length:=by
 have h1:=qf h (j:=x.un.length+1) Ω;have I:(hb x)[x.un.length+1]? ≠ν:=by
  rw[Ne,List.getElem?_eq_none_iff];show ¬(x.un.length+1+1<=x.un.length+1);omega
 rw[<-h1] at I;have:=(x4.1 (Option.ne_none_iff_exists'.1 I).choose_spec).1;omega
theorem Dh {s:au} {f:cJ} (h:s.funs[j]? =σ f):e0 s j+f.cs.length+1<=s.cells.length:=by
 have h1:=v7 h (j:=f.cs.length) Ω;have I:(hB f)[f.cs.length]? ≠ν:=by
  rw[Ne,List.getElem?_eq_none_iff];show ¬(f.cs.length+1<=f.cs.length);omega
 rw[<-h1] at I;have:=(x4.1 (Option.ne_none_iff_exists'.1 I).choose_spec).1;omega
section
variable {w:x3} {ab ad:Nat} {A R:ah} {n:aQ} {s:au} {t:ay}
theorem Di (h:bJ w ab ad A R n s t):aj x7 Gi [Γ ab] w λv w'=>(∃I,v=Γ I/\fH w' I n)/\Ext w w':=by
 obtain⟨I,V,W,X,a1,Y,L,aa,J,U,ac,ae,af,ag⟩:=h.1.parts;refine aw func128 ?_;rw[cV dH.u];simp only[Z3,aS];rw[aM cB.p 0 J rfl];exact⟨⟨I,rfl,U⟩,Ext.refl _⟩
theorem Dj (h:bJ w ab ad A R n s t):aj x7 FC [Γ ab] w λv w'=>v=Δ (n.sizes.length:Int)/\Ext w w':=by
 refine aw func63 ?_;refine (Di h).mono ?_;rintro _ J _ ⟨⟨X,rfl,I⟩,U⟩;refine (wa I).mono ?_;rintro _ V _ ⟨rfl,W⟩;exact⟨rfl,U.trans W⟩
theorem k0 (h:bJ w ab ad A R n s t):aj x7 yG [Γ ab] w λv w'=>v=Δ n.k/\Ext w w':=by
 refine aw func57 ?_;refine (Di h).mono ?_;rintro _ J _ ⟨⟨X,rfl,I⟩,U⟩;refine (Ml I).mono ?_;rintro _ V _ ⟨rfl,W⟩;exact⟨rfl,U.trans W⟩
theorem wB {i:Int} (h:bJ w ab ad A R n s t):aj x7 F5 [Γ ab,Δ i] w λv w'=>v= .bool (decide (0<=i/\i<n.sizes.length))/\Ext w w':=by
 refine aw func112 ?_;refine aR (λv J=>v= .bool (decide (0<=i/\i<n.sizes.length))/\Ext w J) (λ_ _ h=>h) λav I=>?_;rw[cK,ai];refine⟨λU=>?_,λU=>I _ _ ⟨by rw[decide_eq_false Ω],Ext.refl _⟩⟩;refine (Dj h).mono ?_;rintro _ J _ ⟨rfl,V⟩;rw[aP];refine I _ _ ⟨?_,V⟩;congr 1;exact decide_eq_decide.2 ⟨λh=>⟨U,h⟩,λh=>h.2⟩
theorem ql (h:bJ w ab ad A R n s t):aj x7 Fo [Γ ab] w λv w'=>v=Δ s.zero/\Ext w w':=by
 obtain⟨W,X,Y,aa,a1,ac,L,ae,I,af,U,ag,ah,ai⟩:=h.1.parts;refine aw func41 ?_;rw[cV dH.u];simp only[Z3,aS];rw[aM cB.p 1 I rfl];refine (nw (i:=0) U rfl (show t.bL[0]? =σ s.zero by rw[h.2.1];exact Mg s)).mono ?_;rintro _ J _ ⟨rfl,V⟩;exact⟨rfl,V⟩
theorem wC (h:bJ w ab ad A R n s t):aj x7 Gm [Γ ab] w λv w'=>v=Δ (s.funs.length:Int)/\Ext w w':=by
 obtain⟨V,W,X,Y,a1,aa,L,ac,I,ae,af,ag,J,U⟩:=h.1.parts;refine aw func132 ?_;rw[cV dH.u];simp only[Z3,aS];rw[aM cB.p 3 I rfl,eY e5.u J];exact⟨by rw[U.1],Ext.refl _⟩
def k1 (s:au) (i:Nat):Bool:=match s.vars[i]? with
 |some x=>decide (x.gone≠0)
 |none=>false
theorem wD {i:Int} (h:bJ w ab ad A R n s t):aj x7 FD [Γ ab,Δ i] w λv w'=>v= .bool (decide (0<=i)&&k1 s i.toNat)/\Ext w w':=by
 refine aw func64 ?_;refine aR (λv J=>v= .bool (decide (0<=i)&&k1 s i.toNat)/\Ext w J) (λ_ _ h=>h) λav U=>?_;intro V W _ _;refine (wB (h.ext W)).mono ?_;rintro _ an _ ⟨rfl,aa⟩;have I:=W.trans aa;have ao:=h.2.2.2.1.vars;rw[ai];refine⟨λac=>?_,λap=>U _ _ ⟨?_,I⟩⟩
 .obtain⟨aq,au,ax,ay,a1,az,L,aA,X,aB,ae,af,aC,aD⟩:=(h.ext I).1.parts;obtain⟨x,Y⟩:=aF (l:=s.vars) (i:=i.toNat) Ω;rw[aM cB.p 1 X rfl,aM cB.p 2 X rfl,fP (y:=i) (i:=i.toNat) Ω am.u ag.i Ψ af.ls (sU Ω)];have ah:t.bL[fu s i.toNat+0]? =σ x.gone:=by rw[h.2.1,qf Y Ω];rfl
  refine (nw (i:=fu s i.toNat) ae rfl ah).mono ?_;rintro _ aE _ ⟨rfl,ak⟩;rw[bh];refine U _ _ ⟨?_,I.trans ak⟩;rw[decide_eq_true ac.1,T0];unfold k1;rw[Y]
 .by_cases al:0<=i
  .unfold k1;rw[Z5 Ω,Bool.and_false]
  .rw[decide_eq_false al];rfl
def fy (n:aQ) (i v:Int):Prop:=0<=i/\i<n.sizes.length/\0<=v/\v<n.sizes.getD i.toNat 0
instance (n:aQ) (i v:Int):Decidable (fy n i v):=inferInstanceAs (Decidable (_/\_))
theorem fy.var {i:Int} (V:fy n i v) (I:bH n.k n.sizes s):∃x,s.vars[i.toNat]? =σ x/\v.toNat<x.un.length/\x.un.length<=32/\n.sizes.getD i.toNat 0=x.un.length:=by
 obtain⟨h1,X,Y,W⟩:=V;have aa:=I.vars;obtain⟨x,U⟩:=aF (l:=s.vars) (i:=i.toNat) Ω;obtain⟨z,J⟩:=aF (l:=n.sizes) (i:=i.toNat) Ω;have ab:=I.gp.2.2 z (x5 J);have ac:=(I.var i.toNat x z U J).1;rw[u4,J,V4] at W ⊢;exact⟨x,U,Ω,Ω,Ω⟩
theorem wE {i:Int} (h:bJ w ab ad A R n s t):aj x7 FK [Γ ab,Δ i,Δ v] w λr w'=>r=Δ (if fy n i v then ((fu s i.toNat+2+v.toNat:Nat):Int) else-1)/\Ext w w':=by
 have aE:=h.2.2.2.1.vars;refine aw func76 ?_;refine aR (λr J=>r= .bool (decide (¬fy n i v))/\Ext w J) ?_ ?_
 .rintro _ J ⟨rfl,Y⟩;rw[ai];refine⟨λah=>⟨by rw[if_neg ah],Y⟩,λW=>?_⟩;have W:=Y4.1 W;obtain⟨x,ak,aF,aG,_⟩:=W.var h.2.2.2.1;obtain⟨al,an,ao,ap,a1,aq,L,au,I,ac,ax,ae,ay,az⟩:=(h.ext Y).1.parts;have af:=sW ak;have aH:=sV h.2.1 h.2.2.1;obtain⟨h1,aI,aJ,aK⟩:=id W;rw[aM cB.p 2 I rfl,fP (y:=i) (i:=i.toNat) Ω am.u ag.i Ψ ae.ls (sU Ω),aL,wrap_i64 Ω Ω,aL,wrap_i64 Ω Ω,if_pos W];refine⟨?_,Y⟩;congr 1;omega
 .intro av aa;refine (wB h).mono ?_;rintro _ V _ ⟨rfl,X⟩;rw[bu,cz];refine⟨λI=>?_,λI=>?_⟩
  .have I:¬(0<=i/\i<n.sizes.length):=λaA=>by rw[decide_eq_true aA] at I;cases I
   exact aa _ _ ⟨by rw[decide_eq_true];exact λU=>I ⟨U.1,U.2.1⟩,X⟩
  have I:0<=i/\i<n.sizes.length:=by simpa using I
  rw[aP,ai];refine⟨λaB=>aa _ _ ⟨by rw[decide_eq_true];exact λU=>by have:=U.2.2.1;omega,X⟩,λaB=>?_⟩;obtain⟨al,an,ao,ap,a1,aq,L,au,aC,ac,ax,ae,ay,az⟩:=(h.ext X).1.parts;rw[aM cB.p 0 aC rfl];refine (Cx ac h.2.2.2.2).mono ?_;rintro _ aN _ ⟨aD,rfl⟩;rw[if_pos I.1,cK];refine aa _ _ ⟨?_,X.trans aD⟩;congr 1;refine decide_eq_decide.2 ⟨λh U=>?_,λh=>?_⟩
  .have:=U.2.2.2;omega
  .refine Int.not_lt.1 λaf=>h ⟨I.1,I.2,Ω,af⟩
def gK (s:au) (i v:Nat):Int:=match s.vars[i]? with
 |some x=>x.un.getD v 0
 |none=>0
theorem mn {i:Int} (h:bJ w ab ad A R n s t):aj x7 Fg [Γ ab,Δ i,Δ v] w λr w'=>r=(if fy n i v then .tuple #[Δ (gK s i.toNat v.toNat),Δ 0] else .tuple #[Δ 0,Δ 1])/\Ext w w':=by
 refine aw func32 ?_;rw[cV dH.u];simp only[Z3,aS];refine (wE h).mono ?_;rintro _ J _ ⟨rfl,U⟩;by_cases I:fy n i v
 .rw[if_pos I,if_pos I];refine b6 Ω ?_;obtain⟨x,W,X,af,_⟩:=I.var h.2.2.2.1;obtain⟨ag,ah,ak,al,a1,am,L,an,Y,ao,aa,ap,aq,au⟩:=(h.ext U).1.parts;rw[aM cB.p 1 Y rfl];have ac:t.bL[fu s i.toNat+2+v.toNat]? =σ (x.un.getD v.toNat 0):=by
   rw[h.2.1,S2,qf W Ω,show 2+v.toNat=v.toNat+1+1 by omega];show x.un[v.toNat]? =_;rw[u4,x6 X];rfl
  refine (nw (i:=fu s i.toNat+2+v.toNat) aa rfl ac).mono ?_;rintro _ V _ ⟨rfl,ae⟩;refine⟨?_,U.trans ae⟩;unfold gK;rw[W]
 .rw[if_neg I,if_neg I,aP,ai];exact⟨λ_=>⟨rfl,U⟩,λh=>Ω⟩
def fX (s:au) (j:Nat):Bool:=match s.funs[j]? with
 |some f=>decide (f.live≠0)
 |none=>false
theorem wF {j:Int} (h:bJ w ab ad A R n s t):aj x7 FF [Γ ab,Δ j] w λv w'=>v= .bool (decide (0<=j)&&fX s j.toNat)/\Ext w w':=by
 refine aw func67 ?_;refine aR (λv J=>v= .bool (decide (0<=j)&&fX s j.toNat)/\Ext w J) (λ_ _ h=>h) λav I=>?_;intro V U _ _;rw[cK,ai];refine⟨λW=>?_,λW=>I _ _ ⟨by rw[decide_eq_false W];rfl,U⟩⟩;refine (wC (h.ext U)).mono ?_;rintro _ an _ ⟨rfl,ag⟩;have X:=U.trans ag;rw[aP,ai];refine⟨λao=>?_,λap=>I _ _ ⟨?_,X⟩⟩
 .obtain⟨aq,au,ax,ay,a1,az,L,aB,ac,aC,ah,aD,ae,Y⟩:=(h.ext X).1.parts;obtain⟨f,aa⟩:=aF (l:=s.funs) (i:=j.toNat) Ω;obtain⟨y,af⟩:∃y,L[j.toNat]? =σ y:=⟨_,x6 (by rw[Y.1];omega)⟩;obtain⟨_,_,ak⟩:=Y.2 j.toNat y f af aa;rw[aM cB.p 1 ac rfl,aM cB.p 3 ac rfl,dq (i:=j.toNat) Ω e5.u ek.i ae (by rw[Y.1];omega),aT ek.p rfl,aA (v:=Δ (y.at_:Int)) Ψ (ae.range af 2 _ rfl)];have al:t.bL[e0 s j.toNat+0]? =σ f.live:=by rw[h.2.1,v7 aa Ω];rfl
  refine (nw (i:=e0 s j.toNat) ah (by rw[ak]) al).mono ?_;rintro _ aE _ ⟨rfl,am⟩;rw[bh];refine I _ _ ⟨?_,X.trans am⟩;rw[decide_eq_true W,T0];unfold fX;rw[aa]
 .unfold fX;rw[Z5 Ω,Bool.and_false]
end
def sX (s:au) (n:aQ) (i:Int) (b m:Nat):Prop:=lA b m/\(¬(0<=i/\i<n.sizes.length)->b=0/\m=0)/\ ∀x,0<=i->s.vars[i.toNat]? =σ x->m=x.un.length/\ ∀j:Nat,b.testBit j=(decide (j<x.un.length)&& !dropped x.mask (j:Int))
section
variable {w:x3} {ab ad:Nat} {A R:ah} {n:aQ} {s:au} {t:ay}
theorem lK {i:Int} (h:bJ w ab ad A R n s t):aj x7 Fq [Γ ab,Δ i] w λv w'=>(∃b m,v=iV b m/\sX s n i b m)/\Ext w w':=by
 have bO:=h.2.2.2.1.vars;refine aw func44 ?_;refine bN b1.i λW J bP aJ aq=>?_;have aq:ac J W b1 [.int .u64 0,Δ 0]:=aq;refine (wB (h.ext aJ)).mono ?_;rintro _ V _ ⟨rfl,aK⟩;have au:=aq.ext aK;have ax:=aJ.trans aK;rw[bu,cz];refine⟨λI=>?_,λI=>?_⟩
 .have I:¬(0<=i/\i<n.sizes.length):=λba=>by rw[decide_eq_true ba] at I;cases I
  rw[dc (cs:=#[.int .u64 0,Δ 0]) Ψ];refine cc (vs:=[.int .u64 0,Δ 0]) b1.i rfl rfl (by intro u hu;simp at hu;rcases hu with rfl|rfl<;>rfl) au λbQ bb bR bc=>?_;rw[fB b1.p b1.i rfl bc.range];refine⟨⟨0,0,rfl,⟨Ω,Ξ⟩,λ_=>⟨rfl,rfl⟩,λx aN bd=>?_⟩,ax.put bb Ω⟩;have:=(x4.1 bd).1;exact absurd ⟨aN,Ω⟩ I
 have I:0<=i/\i<n.sizes.length:=by simpa using I
 obtain⟨x,ae⟩:=aF (l:=s.vars) (i:=i.toNat) Ω;obtain⟨z,ay⟩:=aF (l:=n.sizes) (i:=i.toNat) Ω;have bh:=h.2.2.2.1.gp.2.2 z (x5 ay);obtain⟨bS,_,bT,bU⟩:=h.2.2.2.1.var i.toNat x z ae ay;obtain⟨bi,bj,bk,bl,a1,bm,L,bn,af,aO,_⟩:=(h.ext ax).1.parts;rw[aM cB.p 0 af rfl];refine (Cx aO h.2.2.2.2).mono ?_;rintro _ bV _ ⟨az,rfl⟩;rw[if_pos I.1,u4,ay,V4];refine IN.mono ?_;rintro _ bW _ ⟨aA,rfl⟩;rw[if_pos bh];obtain⟨m,rfl⟩:∃m:Nat,z=m:=⟨z.toNat,Ω⟩;rw[bf,bg,u9];have aP:=(ax.trans az).trans aA;refine bN b1.i λU bX bY aQ bo=>?_;refine cc (vs:=[.int .u64 ((2 ^ m-1:Nat):Int),Δ (m:Int)]) b1.i rfl rfl (by intro u hu;simp at hu;rcases hu with rfl|rfl<;>rfl) bo λaR aS bZ bp=>?_;have z5:=aP.size;have aT:Ext w aR:=(aP.trans aQ).put aS Ω;have b0:=(((au.ext az).ext aA)).lt;have bq:ac aR W b1 [.int .u64 0,Δ 0]:=(((au.ext az).ext aA).ext aQ).aa aS λhe=>by have he:W=U:=he;omega
 intro b2 aB _ _;have aU:=aT.trans aB;obtain⟨bi,bj,bk,bl,a1,bm,L,bn,af,aO,br,bt,_⟩:=(h.ext aU).1.parts;have b3:=sW ae;have b4:=sV h.2.1 h.2.2.1;rw[aM cB.p 1 af rfl,aM cB.p 2 af rfl,fP (y:=i) (i:=i.toNat) Ω am.u ag.i Ψ bt.ls (sU Ω),aL,wrap_i64 Ω Ω];have bw:t.bL[fu s i.toNat+1]? =σ x.mask:=by rw[h.2.1,qf ae Ω];rfl
 refine (nw (i:=fu s i.toNat+1) br Ω bw).mono ?_;rintro _ bx _ ⟨rfl,aC⟩;have aV:=(bp.ext aB).ext aC;have bz:=(bq.ext aB).ext aC;obtain⟨mk,aW⟩:∃mk:Nat,x.mask=mk:=⟨x.mask.toNat,Ω⟩;rw[bI b1.p b1.i rfl (show bx.rangeAt U 0 [.int .u64 ((2 ^ m-1:Nat):Int),Δ (m:Int)] from aV.range)];refine (Ag (b:=2 ^ m-1) (n:=m)).mono ?_;rintro _ b5 _ ⟨rfl,aD⟩;have bA:=aU.trans aC;have bC:W≠U:=Ω
 have b7:=aT.size;have b8:w.heap.size<=U:=Ω
 have b9:w.heap.size<=W:=Ω
 refine ce.range m (λq X=>Ext w X/\ac X W b1 [.int .u64 0,Δ 0]/\ ∃b:Nat,ac X U b1 [.int .u64 (b:Int),Δ (m:Int)]/\lA b m/\ ∀j:Nat,b.testBit j=(decide (j<m)&& !(decide (j<q)&&mk.testBit j))) Ω
  ⟨bA.trans aD,bz.ext aD,_,aV.ext aD,⟨Ω,by have:=Nat.two_pow_pos m;omega⟩,λj=>by rw[Ae];simp⟩ ?_ ?_
 .rintro q X bD ca ⟨ah,ak,b,Y,al,an⟩ bE;refine bB Ω ?_;refine db (λao=>Ext w ao/\ac ao W b1 [.int .u64 0,Δ 0]/\ ∃b:Nat,ac ao U b1 [.int .u64 (b:Int),Δ (m:Int)]/\lA b m/\ ∀j:Nat,b.testBit j=(decide (j<m)&& !(decide (j<q+1)&&mk.testBit j))) ?_ ?_
  .rintro ao bF;rw[aL];exact bE _ bF
  intro av aX;have bG:mk / 2 ^ q<2 ^ 62:=Nat.lt_of_le_of_lt (Nat.div_le_self _ _) Ω;rw[aW,Bi Ω,show (1:Int)=((1:Nat):Int) from rfl,De bG Ω,be,ai];have aY:(((mk / 2 ^ q &&& 1:Nat):Int)=((1:Nat):Int))↔mk.testBit q=true:=by rw[<-Df];omega
  refine⟨λaE=>?_,λaG=>?_⟩
  .have aE:=aY.1 aE;rw[bI b1.p b1.i rfl (show X.rangeAt U 0 [.int .u64 (b:Int),Δ (m:Int)] from Y.range)];refine (IQ (v:=(q:Int)) al).mono ?_;rintro _ cb _ ⟨rfl,aH⟩;rw[if_pos ⟨Ω,Ω⟩,u9];refine cc (vs:=[.int .u64 ((jp b (2 ^ q):Nat):Int),Δ (m:Int)]) b1.i rfl rfl (by intro u hu;simp at hu;rcases hu with rfl|rfl<;>rfl) (Y.ext aH) λcd aZ cg bH=>?_;have a2:∀j:Nat,(jp b (2 ^ q)).testBit j=(decide (j<m)&& !(decide (j<q+1)&&mk.testBit j)):=λj=>by
    rw[z1,an,Nat.testBit_two_pow];by_cases a6:j<m
    .by_cases ap:j=q
     .subst ap;simp[aE]
     .have aI:decide (j<q+1)=decide (j<q):=decide_eq_decide.2 ⟨λh=>Ω,λh=>Ω⟩;rw[aI,decide_eq_true a6,decide_eq_true (show j<64 by omega),decide_eq_false (show ¬q=j from λh=>ap h.symm)];simp
    .simp[a6]
   refine aX _ ⟨(ah.trans aH).then aZ λr ch he=>by have he:r=U:=he;omega,(ak.ext aH).aa aZ λhe=>bC he,_,bH,⟨Ω,IG λj a7=>by rw[a2,decide_eq_false Ω];rfl⟩,a2⟩
  .have aG:mk.testBit q=false:=by simpa using λh=>aG (aY.2 h)
   refine aX _ ⟨ah,ak,b,Y,al,λj=>?_⟩;rw[an];by_cases ap:j=q
   .subst ap;simp[aG]
   .have aI:decide (j<q+1)=decide (j<q):=decide_eq_decide.2 ⟨λh=>Ω,λh=>Ω⟩;rw[aI]
 .rintro X bD ⟨ah,ak,b,Y,al,an⟩;refine b6 Ω ?_;rw[bI b1.p b1.i rfl (show X.rangeAt U 0 [.int .u64 (b:Int),Δ (m:Int)] from Y.range)];refine cc (vs:=[.int .u64 (b:Int),Δ (m:Int)]) b1.i rfl rfl (by intro u hu;simp at hu;rcases hu with rfl|rfl<;>rfl) ak λci bK cj bM=>?_;rw[fB b1.p b1.i rfl bM.range];refine⟨⟨b,m,rfl,al,λh=>absurd I h,λy aN a8=>?_⟩,ah.put bK Ω⟩;rw[ae] at a8;cases a8;refine⟨Ω,λj=>?_⟩;rw[an,aW,Np,show x.un.length=m by omega];by_cases a7:j<m<;>simp[a7]
theorem Dk {f:cJ} (U:bH k sizes s) (W:f∈s.funs):bX f.af/\f.cs.length=(aG f.af).toNat/\aG f.af<=4096:=by
 obtain⟨J,I,_⟩:=U.funs f W;rw[I];refine⟨⟨?_,np U.gp.2.2 λv V=>⟨(J.scope.1 v V).1,J.vars v V⟩⟩,J.len,J.small⟩;have:=J.scope.2;simp[bS];exact this
def fI (s:au) (j:Nat) (tl:Λ):Option Nat:=match s.funs[j]? with
 |some f=>if f.live≠0 then (cC f.af tl 0).map λm=>e0 s j+1+m.toNat else ν
 |none=>ν
def hF (s:au) (j:Nat) (tl:Λ):Int:=match s.funs[j]? with
 |some f=>bl f.af f.cs tl
 |none=>0
theorem Dl {aI:x1} (h:bJ w ab ad A R n s t) (an:aB .i64 w aI tl):aj x7 FJ [Γ ab,Δ (j:Int),aI] w λv w'=>v=Δ (match fI s j tl with|some p=>(p:Int)|none=>-1)/\Ext w w':=by
 refine aw func75 ?_;refine (wF h).mono ?_;rintro _ J _ ⟨rfl,aa⟩;rw[decide_eq_true Ω,T0,u9,bu,cz];refine⟨λI=>⟨?_,aa⟩,λI=>?_⟩
 .have I:fX s j=false:=by simpa using I
  have:fI s j tl=ν:=by
   unfold fI;unfold fX at I;cases U:s.funs[j]? with
   |none=>rfl
   |some f=>
    rw[U] at I;have I:f.live=0:=by simpa using I
    simp[I]
  rw[this]
 have I:fX s j=true:=by simpa using I
 obtain⟨f,U,ao⟩:∃f,s.funs[j]? =σ f/\f.live≠0:=by
  unfold fX at I;cases U:s.funs[j]? with
  |none=>rw[U] at I;cases I
  |some f=>rw[U] at I;exact⟨f,rfl,by simpa using I⟩
 obtain⟨ak,aG,aH⟩:=Dk h.2.2.2.1 (x5 U);obtain⟨ap,aq,au,av,a1,al,L,ax,ac,ay,az,aC,X,Y⟩:=(h.ext aa).1.parts;obtain⟨y,W⟩:∃y,L[j]? =σ y:=⟨_,x6 (by rw[Y.1];exact (x4.1 U).1)⟩;have ae:=(x4.1 W).1;obtain⟨_,aD,am⟩:=Y.2 j y f W U;have aE:J.rangeAt al (j*3+1) [y.szv]:=λq v ag=>by
  match q,ag with
  |0,ag=>cases ag;exact X.range W 1 _ rfl
 rw[aM cB.p 3 ac rfl,dq rfl e5.u ek.i X ae,aT ek.p rfl,bI (cs:=[y.szv]) bt.p bt.i rfl aE];refine (zu aD.ls (an.ext aa) ak).mono ?_;rintro _ V _ ⟨rfl,aF⟩;have ah:=aa.trans aF;unfold kI fI;rw[U];simp only[if_pos ao];cases hi:cC f.af tl 0 with
 |none=>
  simp only[Option.map_none];rw[bf,bg,bh,ai];exact⟨λ_=>⟨trivial,ah⟩,λh=>absurd (show (3:Int)≠0 by decide) h⟩
 |some m=>
  simp only[Z2];rw[bf,bg,bh,ai];refine⟨λh=>absurd rfl h,λ_=>?_⟩;have aJ:=m4 ak.2 hi;have aK:=Dh U;have aN:=sV h.2.1 h.2.2.1;obtain⟨ap,aq,au,av,a1,al,L,ax,ac,ay,az,aC,X,Y⟩:=(h.ext ah).1.parts;obtain⟨y,W⟩:∃y,L[j]? =σ y:=⟨_,x6 (by rw[Y.1];exact (x4.1 U).1)⟩;have ae:=(x4.1 W).1;obtain⟨_,_,am⟩:=Y.2 j y f W U;rw[aM cB.p 3 ac rfl,dq rfl e5.u ek.i X ae,aT ek.p rfl,aA (v:=Δ (y.at_:Int)) Ψ (X.range W 2 _ rfl),am,aL,wrap_i64 Ω Ω,aL,wrap_i64 Ω Ω];refine⟨?_,ah⟩;congr 1;omega
theorem wG {p:Nat} (J:bH k sizes s) (h:fI s j tl=σ p):s.cells[p]? =σ (hF s j tl)/\ ∃f,s.funs[j]? =σ f/\f.live≠0/\ ∃m:Nat,cC f.af tl 0=σ (m:Int)/\m<f.cs.length/\p=e0 s j+(m+1):=by
 unfold fI at h;cases I:s.funs[j]? with
 |none=>rw[I] at h;cases h
 |some f=>
  rw[I] at h;simp only at h;split at h
  .rename_i U;obtain⟨m,hm,rfl⟩:=Y2.1 h;obtain⟨V,W,X⟩:=Dk J (x5 I);have Y:=m4 V.2 hm;obtain⟨q,rfl⟩:∃q:Nat,m=q:=⟨m.toNat,Ω⟩;refine⟨?_,f,rfl,U,q,hm,Ω,Ω⟩;rw[show e0 s j+1+(q:Int).toNat=e0 s j+(q+1) by omega,v7 I Ω];unfold hF bl;rw[I];simp only[hm];show f.cs[q]? =_;rw[u9,u4,x6 Ω];rfl
  .cases h
theorem oT {aI:x1} (h:bJ w ab ad A R n s t) (U:aB .i64 w aI tl):aj x7 Ff [Γ ab,Δ (j:Int),aI] w λv w'=>v=(if (fI s j tl).isSome then .tuple #[Δ (hF s j tl),Δ 0] else .tuple #[Δ 0,Δ 1])/\Ext w w':=by
 refine aw func31 ?_;rw[cV dH.u];simp only[Z3,aS];refine (Dl h U).mono ?_;rintro _ J _ ⟨rfl,I⟩;cases W:fI s j tl with
 |none=>
  simp only;rw[aP,ai];exact⟨λ_=>⟨rfl,I⟩,λh=>Ω⟩
 |some p=>
  simp only;refine b6 Ω ?_;obtain⟨ac,ae,af,ag,a1,ah,L,ak,X,al,Y,am,an,ao⟩:=(h.ext I).1.parts;rw[aM cB.p 1 X rfl];refine (nw (i:=p) Y rfl (by rw[h.2.1];exact (wG h.2.2.2.1 W).1)).mono ?_;rintro _ V _ ⟨rfl,aa⟩;exact⟨rfl,I.trans aa⟩
end
theorem eD.parts {I:Nat} {J U X:x1} {A R:ah} {n:aQ} {s:au} {t:ay} (h:eD w ab ad I J U X A R n s t):∃a1 V L W,ac w ab cB [Γ I,Γ ad,J,U,X]/\fH w I n/\dh w ad W t/\ap .i64 ag w a1 J (h2 s)/\bd lH 3 ek w V U L/\ke R w L s:=by
 obtain⟨_,a1,V,ge,L,E,W,w0,Y,⟨aa,ae,al⟩,⟨af,am,an,ao⟩,ai,⟨aj,ak⟩,aq,av⟩:=h;exact⟨a1,V,L,W,Y,aa.ext ae,af,ai,aj,ak⟩
theorem wH {b:Int} (I:0<=a/\a<=k) (U:0<=b/\b<=k) (hk:1<=k/\k<=2147483648):aj x7 ur [Δ a,Δ b,Δ k] w λv w'=>v= .tuple #[Δ (min (a+b) k),Δ 0]/\Ext w w':=by
 refine AM.mono ?_;rintro _ J _ ⟨rfl,V⟩;refine⟨?_,V⟩;unfold pN;rw[if_pos ⟨⟨hk,I.1,I.2⟩,hk,U.1,U.2⟩]
theorem Nq {s:au} {p:Nat} (I:bH k sizes s) (h:fI s j tl=σ p):0<=hF s j tl/\hF s j tl<=k:=by
 obtain⟨_,f,J,_,m,hm,U,_⟩:=wG I h;obtain⟨V,_,_⟩:=I.funs f (x5 J);unfold hF bl;rw[J];simp only[hm];rw[u9,u4,x6 U,V4];exact V.hA _ (R5 U)
theorem Dm {A R:ah} {n:aQ} {s:au} {t:ay} {bb:x1} {a:Λ} (h:bJ w ab ad A R n s t) (aG:aB .i64 w bb a):aj x7 E9 [Γ ab,bb] w λv w'=>((hC s a->v= .tuple #[Δ (dW n.k s a),Δ 0])/\(¬hC s a->v= .tuple #[Δ 0,Δ 3]))/\Ext w w':=by
 have ak:=h.2.2.2.1;have dc:=ak.vars;have hk:=ak.fc;refine aw func21 ?_;rw[cV dH.u];simp only[Z3,aS];rw[aV am.u aG];refine (Dj h).mono ?_;rintro _ J _ ⟨rfl,a8⟩;rw[bh,ai];refine⟨λdd=>⟨⟨λaz=>absurd az.1 Ω,λ_=>by trivial⟩,a8⟩,λde=>?_⟩;have ca:a.length=s.vars.length:=Ω
 refine (ql (h.ext a8)).mono ?_;rintro _ V _ ⟨rfl,cb⟩;have bD:=a8.trans cb;rw[aV am.u (aG.ext bD)];obtain⟨W,aO⟩:∃W,W=s.vars.zip a:=⟨_,rfl⟩;have df:W.length=a.length:=by rw[aO,List.length_zip];omega
 refine nS.range a.length (λi t4 t5 ac aT al=>Ext w al/\ ∃I:Int,ac=Δ I/\I=(W.take i).foldl (kc n.k) s.zero/\(0<=I/\I<=n.k)/\aT= .bool ((W.take i).all eK)/\ ∀p<i,∀x v,s.vars[p]? =σ x->a[p]? =σ v->x.gone≠0\/(0<=v/\v<x.un.length)) aG.le
  ⟨bD,s.zero,rfl,rfl,ak.zero,rfl,λp ae=>Ω⟩ ?_ ?_
 .rintro i t4 t5 _ _ al cd hi ⟨Y,I,rfl,aU,aW,rfl,bc⟩ cg;obtain⟨x,an⟩:=aF (l:=s.vars) (i:=i) Ω;obtain⟨v,ao⟩:=aF (l:=a) hi;obtain⟨z,bd⟩:=aF (l:=n.sizes) (i:=i) Ω;have dg:=ak.gp.2.2 z (x5 bd);obtain⟨dh,ch,_⟩:=ak.var i x z an bd;have ci:W[i]? =σ (x,v):=by rw[aO,List.getElem?_zip_eq_some];exact⟨an,ao⟩
  have bE:W.take (i+1)=W.take i++[(x,v)]:=by rw[r8,ci];rfl
  have aH:(W.take (i+1)).foldl (kc n.k) s.zero=kc n.k I (x,v):=by rw[bE,List.foldl_append,<-aU];rfl
  have be:(W.take (i+1)).all eK=((W.take i).all eK&&eK (x,v)):=by rw[bE,List.all_append];simp
  have bF:(x.gone≠0\/(0<=v/\v<x.un.length))-> ∀p<i+1,∀x v,s.vars[p]? =σ x->a[p]? =σ v->x.gone≠0\/(0<=v/\v<x.un.length):=λaC p ae y u aA hu=>by
   by_cases cj:p=i
   .subst cj;rw[an] at aA;rw[ao] at hu;cases aA;cases hu;exact aC
   .exact bc p Ω y u aA hu
  refine bB Ω ?_;refine uW (λt4 t5 ac aT al=>Ext w al/\ ∃I:Int,ac=Δ I/\I=(W.take (i+1)).foldl (kc n.k) s.zero/\(0<=I/\I<=n.k)/\aT= .bool ((W.take (i+1)).all eK)/\ ∀p<i+1,∀x v,s.vars[p]? =σ x->a[p]? =σ v->x.gone≠0\/(0<=v/\v<x.un.length)) ?_ ?_
  .rintro t4 t5 ac aT di bi;rw[aL];exact cg _ _ _ _ _ bi
  intro av aI;rw[ba am.u ag.i Ψ (aG.ext Y) ao];refine (wD (i:=(i:Int)) (h.ext Y)).mono ?_;rintro _ dj _ ⟨rfl,bG⟩;have ck:k1 s i=decide (x.gone≠0):=by unfold k1;rw[an]
  rw[decide_eq_true Ω,T0,u9,ck,ai];refine⟨λbj=>aI _ _ _ _ _ ⟨Y.trans bG,I,rfl,?_,aW,?_,bF (.inl bj)⟩,λbk=>?_⟩
  .rw[aH];unfold kc;rw[if_pos bj]
  .rw[be];unfold eK;rw[decide_eq_true bj,Bool.true_or,Bool.and_true]
  have bH:=Y.trans bG;refine (mn (i:=(i:Int)) (v:=v) (h.ext bH)).mono ?_;rintro _ dk _ ⟨rfl,cl⟩;have aX:=bH.trans cl;have bK:n.sizes.getD (i:Int).toNat 0=z:=by rw[u9,u4,bd];rfl
  by_cases aY:fy n (i:Int) v
  .have bL:=id aY;unfold fy at bL;rw[bK] at bL;rw[if_pos aY,bf,bg,bh,ai];refine⟨λh=>absurd rfl h,λ_=>?_⟩;have cm:gK s (i:Int).toNat v.toNat=x.un.getD v.toNat 0:=by unfold gK;rw[u9,an]
   have cn:0<=x.un.getD v.toNat 0/\x.un.getD v.toNat 0<=n.k:=by
    rw[u4,x6 (show v.toNat<x.un.length by omega),V4];exact ch _ (R5 _)
   rw[cm];refine aR (λcp bM=>Ext w bM/\cp= .bool ((W.take (i+1)).all eK)) ?_ ?_
   .rintro _ bM ⟨bO,rfl⟩;refine (k0 (h.ext bO)).mono ?_;rintro _ dl _ ⟨rfl,cq⟩;refine (wH aW cn hk).mono ?_;rintro _ dm _ ⟨rfl,cr⟩;rw[bf,bg];refine aI _ _ _ _ _ ⟨(bO.trans cq).trans cr,_,rfl,?_,⟨Ω,Ω⟩,rfl,bF (.inr ⟨Ω,Ω⟩)⟩;rw[aH];unfold kc;rw[if_neg bk]
   .intro dn bP;rw[cz];have ct:eK (x,v)= !dropped x.mask v:=by unfold eK;rw[decide_eq_false bk,Bool.false_or]
    refine⟨λcu=>?_,λaf=>bP _ _ ⟨aX,by rw[be,af];rfl⟩⟩;refine (lK (i:=(i:Int)) (h.ext aX)).mono ?_;rintro _ dp _ ⟨⟨b,m,rfl,cw,_,cA⟩,cC⟩;refine (Dg cw).mono ?_;rintro _ dr _ ⟨rfl,cD⟩;refine bP _ _ ⟨(aX.trans cC).trans cD,?_⟩;obtain⟨hm,cE⟩:=cA x Ω (by rw[u9];exact an);rw[be,cu,ct,T0,decide_eq_true (show 0<=v/\v<(m:Int) by omega),T0,cE,decide_eq_true Ω,T0];congr 2
  .rw[if_neg aY,bf,bg,bh,ai];refine⟨λ_=>⟨⟨λaz=>?_,λ_=>by trivial⟩,aX⟩,λh=>absurd (show (1:Int)≠0 by decide) h⟩;rcases az.2 i x v an ao with bm|bm
   .exact absurd bm bk
   .exact absurd ⟨Ω,Ω,bm.1,by rw[bK];omega⟩ aY
 rintro t4 t5 _ _ al cd ⟨Y,I,rfl,aU,aW,rfl,bc⟩;have az:hC s a:=⟨ca,λi x v bn ao=>bc i (x4.1 ao).1 x v bn ao⟩;rw[j6 Ω] at aU;rw[j6 Ω];refine b6 Ω ?_;rw[bu,cz];refine⟨λaq=>?_,λaq=>?_⟩
 .have aq:W.all eK=false:=by simpa using aq
  refine (k0 (h.ext Y)).mono ?_;rintro _ ds _ ⟨rfl,cF⟩;refine⟨⟨λ_=>?_,λbo=>absurd az bo⟩,Y.trans cF⟩;unfold dW;rw[<-aO,aq];rfl
 have aq:W.all eK=true:=by simpa using aq
 have cG:dW n.k s a=s.funs.foldl (i7 n.k a) I:=by
  unfold dW;rw[<-aO,aq,if_pos rfl,<-aU]
 obtain⟨⟨dt,du,dv,dw,cH⟩,dx⟩:=id h;have bp:∀ {w':x3},Ext w w'->bJ w' ab ad A R n s t:=λbn=>h.ext bn;obtain⟨a1,dy,L,dz,cI,dA,dC,dD,bq,bQ⟩:=(cH.ext Y).parts;rw[aM cB.p 3 cI rfl,eY e5.u bq];have dE:=bQ.1;refine bU.range L.length (λj ac aJ=>Ext al aJ/\ ∃X:Int,ac=Δ X/\X=(s.funs.take j).foldl (i7 n.k a) I/\0<=X/\X<=n.k) bq.le
  ⟨Ext.refl _,I,rfl,rfl,aW⟩ ?_ ?_
 rotate_left
 .rintro _ aJ cJ ⟨ax,X,rfl,aZ,_⟩;rw[j6 Ω] at aZ;rw[aP,ai];refine⟨λh=>Ω,λ_=>⟨⟨λ_=>by rw[cG,aZ],λbo=>absurd az bo⟩,Y.trans ax⟩⟩
 rintro j _ aJ cJ bR ⟨ax,X,rfl,aZ,bS⟩ cK;obtain⟨y,aA⟩:=aF (l:=L) bR;obtain⟨f,af⟩:=aF (l:=s.funs) (i:=j) Ω;have cL:ke R aJ L s:=bQ.aa (ax.aa λ_=>False) λ_ _ _ h=>h;obtain⟨a2,br,dF⟩:=cL.2 j y f aA af;have a2:=a2.ls;have br:=br.ls;obtain⟨bt,dG,dI⟩:=ak.funs f (x5 af);have dJ:f.sc.length<=6:=bt.scope.2;have aH:(s.funs.take (j+1)).foldl (i7 n.k a) I=i7 n.k a X f:=by
  rw[r8,af,l9,List.foldl_append,<-aZ];rfl
 have cM:=Y.trans ax;have bV:=bq.ext ax;refine bB Ω ?_;refine aR (λac bW=>Ext al bW/\ ∃X:Int,ac=Δ X/\X=(s.funs.take (j+1)).foldl (i7 n.k a) I/\0<=X/\X<=n.k) ?_ ?_
 .rintro ac bW bi;rw[aL];exact cK _ _ bi
 intro av aI;rw[dq rfl e5.u ek.i bV bR,bI ek.p ek.i rfl (bV.range aA)];refine bN ek.i λdK dL dM cN cO=>?_;refine cc (vs:=lH y) ek.i rfl rfl (λu hu=>?_) cO λcP cQ dN cR=>?_
 .simp[lH] at hu;rcases hu with rfl|rfl|rfl
  .exact a2.cells.2
  .exact br.cells.2
  .rfl
 have bX:Ext aJ cP:=cN.put cQ Ω;have bY:=cM.trans bX;refine (wF (j:=(j:Int)) (bp bY)).mono ?_;rintro _ cS _ ⟨rfl,bw⟩;have bZ:=bY.trans bw;have bx:=bX.trans bw;have cT:fX s j=decide (f.live≠0):=by unfold fX;rw[af]
 rw[decide_eq_true Ω,T0,u9,cT,ai];refine⟨λb0=>?_,λcU=>aI _ _ ⟨ax.trans bx,X,rfl,by rw[aH];unfold i7;rw[if_neg cU],bS⟩⟩;have b1:=cR.ext bw;have bz:=a2.ext bx;rw[aD ek.p 0 b1 rfl,aV am.u bz];refine iR (k:=.i64) am.u ag.i Ω Ω λaK cW dO bA cX=>?_;have cY:ap .i64 ag cW aK (.slice (σ ⟨aK,0,ν⟩) f.sc.length f.sc.length) (p8 f.sc.length 0):=ap.of (bT.full (k:=1) (n:=f.sc.length) cX Ξ (by simp[maxLen];omega));rw[aD ek.p 0 (b1.ext bA) rfl,aV am.u (bz.ext bA)];have dP:(iZ a f.sc).length=f.sc.length:=by unfold iZ;rw[u7]
 refine ce.range f.sc.length (λq a6=>Ext cS a6/\ap .i64 ag a6 aK (.slice (σ ⟨aK,0,ν⟩) f.sc.length f.sc.length) ((iZ a f.sc).take q++(p8 f.sc.length (0:Int)).drop q)) Ω
  ⟨bA,by simpa using cY⟩ ?_ ?_
 .rintro q a6 cZ b2 ⟨aE,aN⟩ c0;obtain⟨u,hu⟩:=aF (l:=f.sc) b2;have dQ:=bt.vars u (x5 hu);have dR:=bt.scope.1 u (x5 hu);have c1:a[u.toNat]? =σ (a.getD u.toNat 0):=by rw[u4,x6 Ω];rfl
  have c2:(iZ a f.sc)[q]? =σ (a.getD u.toNat 0):=by unfold iZ;rw[x8,hu];rfl
  refine bB Ω ?_;rw[ba am.u ag.i Ψ (bz.ext aE) hu,fP (y:=u) (i:=u.toNat) Ω am.u ag.i Ψ (aG.ext (bZ.trans aE)) c1,hs rfl am.u ag.i aN (by rw[o5,j0,List.length_drop,List.length_replicate];omega)];refine ht ag.i aN (by rw[o5,j0,List.length_drop,List.length_replicate];omega) λdS c3 dT b3=>?_;rw[aL];refine c0 _ ⟨aE.then c3 λr dU he=>by have he:r=aK:=he;omega,?_⟩;rw[sQ (by rw[List.length_replicate];exact b2) c2] at b3;exact b3
 rintro a6 cZ ⟨aE,aN⟩;rw[List.drop_of_length_le Ξ,U5,j6 Ω] at aN;refine b6 Ω ?_;have b4:=bZ.trans aE;refine (oT (j:=j) (bp b4) aN.ls).mono ?_;rintro _ bC _ ⟨rfl,b5⟩;have c4:i7 n.k a X f=min (X+hF s j (iZ a f.sc)) n.k:=by
  unfold i7 hF;rw[if_pos b0,af]
 have b7:∀c e:Int,(0<=c/\c<=n.k)->c=hF s j (iZ a f.sc)->(U x7 (Z1 (.tuple #[Δ c,Δ e]) 0) bC λc5=>
   U x7 (Z1 (.tuple #[Δ c,Δ e]) 1) bC λdV=>
   aj x7 yG [Γ ab] bC λc6 b8=>
   aj x7 ur [Δ X,c5,c6] b8 λb9 a7=>
   U x7 (Z1 b9 0) a7 λc7=>
   U x7 (Z1 b9 1) a7 λdX=>
   av c7 a7):=λc e c8 c9=>by
  rw[bf,bg];refine (k0 (bp (b4.trans b5))).mono ?_;rintro _ b8 _ ⟨rfl,da⟩;refine (wH bS c8 hk).mono ?_;rintro _ a7 _ ⟨rfl,db⟩;rw[bf,bg];refine aI _ _ ⟨((((ax.trans bx).trans aE).trans b5).trans da).trans db,_,rfl,by rw[aH,c4,c9],Ω,Ω⟩
 cases ae:fI s j (iZ a f.sc) with
 |some p=>exact b7 _ _ (Nq ak ae) rfl
 |none=>
  refine b7 0 1 ⟨Ω,Ω⟩ ?_;unfold fI at ae;rw[af] at ae;simp only[if_pos b0] at ae;have ae:=Option.map_eq_none_iff.1 ae;unfold hF bl;rw[af];simp only[ae]
def Room (t:ay):Prop:=t.marks=[]\/t.olds.length<100000000
def eU (s:au) (i v:Nat):au:=match s.vars[i]? with
 |some x=>{s with vars:=s.vars.set i {x with mask:=((x.mask.toNat ||| 2 ^ v:Nat):Int)}}
 |none=>s
theorem bH.sY {s:au} {i:Nat} {x y:bP} (h:bH k sizes s) (J:s.vars[i]? =σ x) (W:y.un.length=x.un.length) (X:∀c∈y.un,0<=c/\c<=k) (hm:0<=y.mask/\y.mask<4294967296):bH k sizes {s with vars:=s.vars.set i y}:=
 ⟨h.fc,h.gp,h.zero,by show (s.vars.set i y).length=_;rw[Z4];exact h.vars,λp z q I U=>by
  have I:(s.vars.set i y)[p]? =σ z:=I;rw[X0] at I;by_cases V:i=p
  .subst V;rw[if_pos rfl,if_pos (x4.1 J).1] at I;cases I;exact⟨W.trans (h.var i x q J U).1,X,hm⟩
  .rw[if_neg V] at I;exact h.var p z q I U,h.funs⟩
theorem bH.Dn {s:au} {f g:cJ} (h:bH k sizes s) (J:s.funs[j]? =σ f) (h1:g.sc=f.sc) (U:g.af=f.af) (V:g.cs.length=f.cs.length) (W:∀c∈g.cs,0<=c/\c<=k):bH k sizes {s with funs:=s.funs.set j g}:=
 ⟨h.fc,h.gp,h.zero,h.vars,h.var,λx I=>by
  rcases X6 I with I|rfl
  .exact h.funs x I
  .obtain⟨⟨X,Y,aa,ab,ac,ag⟩,ad,ae⟩:=h.funs f (x5 J);refine⟨⟨?_,?_,?_,?_,?_,W⟩,?_,?_⟩
   .show iY x.sc;rw[h1];exact X
   .show x.sc.Pairwise _;rw[h1];exact Y
   .show ∀v∈x.sc,_;rw[h1];exact aa
   .show x.cs.length=(aG (bS sizes x.sc)).toNat;rw[h1,V];exact ab
   .show aG (bS sizes x.sc)<=_;rw[h1];exact ac
   .rw[h1,U];exact ad
   .rw[h1];exact ae⟩
theorem Nr {r:Nat} {c:List x1} (I:ac w r e c) (he:¬(e=fk\/e=ey\/e=kC\/e=fN\/e=cB\/e=ek\/e=uD)):¬eE w r:=by
 rintro (⟨W,X,J,U⟩|V)
 .rw[eZ I J] at he;exact he U
 .exact V _ I rfl
section
variable {w:x3} {ab ad:Nat} {A R:ah} {n:aQ} {s:au} {t:ay}
theorem mh.set (h:mh t) (I:Room t) (p:Nat) (x:Int):mh (t.set p x):=by
 refine⟨by rw[ay.CC];exact h.1,?_,by rw[ay.wb];exact h.2.2⟩;rcases I with I|I
 .rw[ay.wc I];exact h.2.1
 .have:=ay.CD t p x;omega
theorem Do {s':au} {p:Nat} {x:Int} (h:bJ w ab ad A R n s t) (aa:y=(p:Int)) (U:p<s.cells.length) (ac:s.cells.set p x=s'.cells) (I:nx s s') (af:bH n.k n.sizes s') (ag:Room t):
  aj x7 yN [Γ ad,Δ y,Δ x] w λr w'=>r=Δ 0/\ae (eE w) w w'/\ ∃aN,Grow A w aN w'/\bJ w' ab ad aN R n s' (t.set p x):=by
 obtain⟨ah,X,Y,_,ai⟩:=id h;obtain⟨ak,al,am⟩:=ah.qh;have an:p<t.cells.length:=by rw[<-X] at U;unfold ay.bL at U;rw[u7] at U;exact U
 refine (sK al.min aa an Y).mono ?_;rintro _ J _ ⟨rfl,ao,V,ap⟩;obtain⟨aN,aq,av⟩:=am (λr=>ak r\/ao r) J _ ⟨V.1.mono λr _ h=>h.1,λr W=>W.elim .inl λh=>(V.2.1 r h).imp (λh=>h.1) id,λr W=>.inl W⟩ (ap.mono λr h=>.inr h);exact⟨rfl,V.1.mono λr _ h=>.inl h.2,aN,aq,av.same I,by rw[ay.pA,X,ac],Y.set ag p x,af,ai⟩
theorem Dp {i:Int} (h:bJ w ab ad A R n s t) (al:Room t):aj x7 Fx [Γ ab,Δ i,Δ v] w λr w'=>(¬fy n i v->r=Δ 1/\Ext w w')/\
  (fy n i v->r=Δ 0/\ae (eE w) w w'/\ ∃aN x,Grow A w aN w'/\bJ w' ab ad aN R n (eU s i.toNat v.toNat) (t.set (fu s i.toNat+1) x)):=by
 refine aw func58 ?_;rw[cV dH.u];simp only[Z3,aS];refine (wE h).mono ?_;rintro _ J _ ⟨rfl,W⟩;by_cases U:fy n i v
 rotate_left
 .rw[if_neg U,aP,ai];exact⟨λ_=>⟨λ_=>⟨by trivial,W⟩,λh=>absurd h U⟩,λh=>Ω⟩
 rw[if_pos U];refine b6 Ω ?_;obtain⟨x,I,an,aD,aE⟩:=U.var h.2.2.2.1;obtain⟨h1,aG,aH,aI⟩:=id U;have aJ:=h.2.2.2.1.vars;obtain⟨z,ao⟩:=aF (l:=n.sizes) (i:=i.toNat) Ω;obtain⟨_,ap,aK,aO⟩:=h.2.2.2.1.var i.toNat x z I ao;have aQ:=sW I;have aR:=sV h.2.1 h.2.2.1;obtain⟨aT,aU,aV,aW,aq⟩:=(h.ext W).1;obtain⟨a1,aX,L,aY,ac,aZ,au,av,a2,a6⟩:=aq.parts;rw[aM cB.p 2 ac rfl,fP (y:=i) (i:=i.toNat) Ω am.u ag.i Ψ av.ls (sU Ω),aL,wrap_i64 Ω Ω];intro V X _ _;have ax:=W.trans X;have af:=ac.ext X;have ay:=au.ext X;obtain⟨q,rfl⟩:∃q:Nat,v=q:=⟨v.toNat,Ω⟩;obtain⟨mk,ah⟩:∃mk:Nat,x.mask=mk:=⟨x.mask.toNat,Ω⟩;rw[u9] at an;rw[aM cB.p 1 af rfl,aM cB.p 1 af rfl,No Ω];have az:t.bL[fu s i.toNat+1]? =σ x.mask:=by rw[h.2.1,qf I Ω];rfl
 refine (nw (i:=fu s i.toNat+1) ay Ω az).mono ?_;rintro _ a7 _ ⟨rfl,ak⟩;refine⟨.inl ak,?_⟩;have a8:(2:Nat) ^ q<=2 ^ 31:=T3 Ω Ω;rw[ah,Nn Ω Ω];have Y:=ax.trans ak;have ba:mk ||| 2 ^ q<2 ^ 32:=Nat.or_lt_two_pow Ω Ω;have aa:eU s i.toNat (q:Int).toNat={s with vars:=s.vars.set i.toNat {x with mask:=((mk ||| 2 ^ q:Nat):Int)}}:=by
  unfold eU;rw[I];simp only[ah,u9]
 refine (Do (p:=fu s i.toNat+1) (s':=eU s i.toNat (q:Int).toNat) (h.ext Y) Ω Ω ?_ ?_ ?_ al).mono ?_
 .rw[aa,Cu I Ω];rfl
 .rw[aa];exact CA I rfl
 .rw[aa];exact h.2.2.2.1.sY I rfl ap ⟨by simp only;omega,by simp only;omega⟩
 rintro _ bb _ ⟨rfl,aA,aN,aB,aC⟩;exact⟨λh=>absurd U h,λ_=>⟨rfl,jy Y aA,aN,_,(Grow.ext Y).trans aB,aC⟩⟩
end
theorem sZ {W:x1} (h:aB .i64 w W l):aj x7 Fb [W,Δ v] w λr w'=>r= .bool (decide (v∈l))/\Ext w w':=by
 refine aw func23 ?_;rw[aV am.u h];refine bU.range l.length (λi _ J=>Ext w J/\v∉l.take i) h.le ⟨Ext.refl _,Ξ⟩ ?_ ?_
 .rintro i _ J k hi ⟨I,U⟩ hk;obtain⟨x,V⟩:=aF (l:=l) hi;refine bB Ω ?_;rw[ba am.u ag.i Ψ (h.ext I) V,be,ai];refine⟨λhe=>⟨by rw[decide_eq_true];rw[<-he];exact x5 V,I⟩,λX=>?_⟩;rw[aL];refine hk _ _ ⟨I,λhm=>?_⟩;rw[r8,V,l9,l7,n9] at hm;rcases hm with hm|hm
  .exact U hm
  .exact X hm.symm
 .rintro _ J k ⟨I,U⟩;rw[o6] at U;rw[aP,ai];exact⟨λh=>Ω,λ_=>⟨by rw[decide_eq_false U],I⟩⟩
theorem Ns {x:bP} (h:0<=v/\v<x.un.length):v∈aK x↔dropped x.mask v=false:=by
 unfold aK;rw[S3,o8];constructor
 .rintro⟨_,I⟩;simpa using I
 .intro I;exact⟨⟨v.toNat,List.mem_range.2 Ω,Ω⟩,by simp[I]⟩
def dj (s:au):Prop:=∀f∈s.funs,f.live≠0-> ∀v∈f.sc,∀x,s.vars[v.toNat]? =σ x->x.gone=0
theorem fH.put {g Y:Nat} {c:List x1} {n:aQ} (h:fH w Y n) (I:ac w g a6 c) (J:ae (λr=>r=g) w w'):fH w' Y n:=by
 have V:=C8 I;have ab:∀r,r=g-> ∃e c,ac w r e c/\e≠gR/\e≠cR/\e≠ag/\e≠al/\e≠aq:=λr U=>by
  subst U;exact⟨_,c,I,Φ,Φ,Φ,Φ,Φ⟩
 obtain⟨ad,af,ah,ai,gr,aU,L,nm,szv,gz,fv2,h1,aj,ak,am,an,ao,ap⟩:=h;refine⟨ad,af,ah,ai,gr,aU,L,nm,szv,gz,fv2,wy h1 J V Φ,wy aj J V Φ,wx ak J V Φ,am.aa J λr U=>?_,an,ao.aa J λr U=>?_,ap⟩
 .obtain⟨e,c,I,_,_,_,W,X⟩:=ab r U;exact⟨e,c,I,W,X⟩
 .obtain⟨e,c,I,W,X,au,av,_⟩:=ab r U;exact⟨e,c,I,W,X,au,av⟩
theorem StateM.put {g:Nat} {A R:ah} {n:aQ} {s:au} {t:ay} {c:List x1} (h:StateM w ab ad A R n s t) (W:ac w g a6 c) (U:ae (λr=>r=g) w w') (aq:¬A g):∃R',(∀r,R' r->R r/\r≠g)/\StateM w' ab ad A R' n s t:=by
 obtain⟨av,aw,ax,az,⟨h1,aA,aB,aC⟩,a1,aD,ge,L,E,aE,w0,aF,⟨ak,Y,aG⟩,⟨aH,al,aI,aJ⟩,aK,⟨aL,am⟩,aM,an⟩:=h;obtain⟨ck,ao⟩:=Cn;have z:=U.size;have V:=C8 W;have X:∀r,(w0.heap.setIfInBounds g ck)[r]? =if g=r then (if g<w0.heap.size then σ ck else ν) else w0.heap[r]?:=λr=>Array.getElem?_setIfInBounds;have aN:∀r,A r->r≠g:=λr J he=>aq (he▸J);have int:∀ {v:x1} {l:Λ},iy R w v l->iy (λr=>R r/\r≠g) w' v l:=λ⟨⟨aO,hm⟩,aP⟩=>⟨⟨aO,wx hm U V Φ⟩,λr J=>⟨aP r J,b3 hm W Φ J⟩⟩;refine⟨λr=>R r/\r≠g,λr h=>h,av,aw,ax,az,⟨h1,λr J aR=>aA r J aR.1,λr J=>by have:=aB r J.1;omega,λr J=>by have:=aC r J;omega⟩,a1,aD,ge,L,E,aE,{w0 with heap:=w0.heap.setIfInBounds g ck},wy aF U V Φ,⟨?_,?_,?_⟩,
  ⟨aH.aa U λr J=>aN r (al r J),al,aI,aJ⟩,wx aK U V Φ,⟨C7 aL U V Φ,am.1,λj x f af aS=>?_⟩,C7 aM U V Φ,an.1,λj x e af he=>?_⟩
 .by_cases I:∃o,w0.heap[g]? =σ o/\ff o=true
  .obtain⟨o,ap,aT⟩:=I;have aU:ac w0 g a6 c:=by
    unfold ac at W ⊢;have:=Y.aX g o ap aT;rw[W] at this;rw[ap,this]
   refine ak.put aU ⟨Ξ,λr o J I aV=>?_⟩;show (w0.heap.setIfInBounds g ck)[r]? =σ o;rw[X,if_neg λhe=>aV he.symm];exact J
  .refine ak.ext ⟨Ξ,λr o J aW=>?_⟩;show (w0.heap.setIfInBounds g ck)[r]? =σ o;rw[X,if_neg λhe=>I ⟨o,by rw[he];exact J,aW⟩];exact J
 .refine⟨by show (w0.heap.setIfInBounds g ck).size<=_;rw[Array.size_setIfInBounds];exact Y7 Y.size z,λr o J I=>?_⟩;have J:(w0.heap.setIfInBounds g ck)[r]? =σ o:=J;rw[X] at J;by_cases he:g=r
  .rw[if_pos he] at J;split at J
   .cases J;rw[ao] at I;cases I
   .cases J
  .rw[if_neg he] at J;exact U.aX r o (Y.aX r o J I) I λh=>he h.symm
 .intro r o J I;have J:(w0.heap.setIfInBounds g ck)[r]? =σ o:=J;rw[X] at J;by_cases he:g=r
  .rw[if_pos he] at J;split at J
   .cases J;rw[ao] at I;cases I
   .cases J
  .rw[if_neg he] at J;exact⟨aG r o J I,λh=>he h.symm⟩
 .obtain⟨ag,ai,aj⟩:=am.2 j x f af aS;exact⟨int ag,int ai,aj⟩
 .obtain⟨ag,ai,aj⟩:=an.2 j x e af he;exact⟨ag,int ai,int aj⟩
theorem Nt {pl:Λ} {f:bY} (W:pl.length<=60000) (h:fS pl=σ f):∃N,N<=60000/\eX N f/\f.name≠[]/\ ∀b∈f.name,bE b=true:=by
 unfold fS at h;rw[if_neg Ω] at h;cases I:hr ⟨(lex pl).1,0,false,[]⟩ with
 |none=>rw[I] at h;cases h
 |some q=>
  obtain⟨X,s⟩:=q;rw[I] at h;simp only at h;split at h
  .rename_i aC;cases h;obtain⟨h1,U⟩:=AG rfl I aC.2.2;have Y:=py pl.length pl (p9 _);obtain⟨J,V,_⟩:=rI pl.length pl (p9 _) f.name U;exact⟨_,by show (lex pl).1.length<=60000;omega,h1,J,V⟩
  .cases h
theorem Nu:aj x7 yA [.pointer ν] w λv w'=>v= .pointer ν/\Ext w w':=by
 refine aw func37 ?_;rw[cV lX.u];simp only[Option.isNone_none,bA];exact⟨by trivial,Ext.refl _⟩
theorem Nv {v:x1} (h:aB .u8 w v l) (af:l.length<=100000):aj x7 Fh [v] w λU w'=>Ext w w'/\ ∃g,ap .u8 cE w' g U l:=by
 have I:=h;obtain⟨ag,b,o,base,cap,rfl,ah,hm,Y,aa⟩:=h;refine aw func33 ?_;rw[rz cH.u,cz];refine⟨λab=>⟨Ext.refl _,0,?_⟩,λ_=>?_⟩
 .have:l=[]:=by
   cases base with
   |none=>
        by_cases I:0<l.length
        .have:=Y I;cases this
        .exact j9 Ω
   |some a=>cases ab
  subst this;exact ap.nil _ _ _ _
 .refine wz (k:=.u8) cH.u cE.i λai g1 J ak W X=>?_;refine hc cH.u cE.i rfl X (I.ext W) Θ Θ λU ac V ad al ae=>?_;exact⟨W.then ae (λr aa he=>by have:=(bR X he).1;omega),ac,by simpa using ad⟩
def Nw (sv:x1):Prop:=∃cs:List x1,sv= .agg cs.toArray/\cs.length=8/\ ∀u∈cs,u.oneCell'=true
theorem Dq:Nw (.agg z12.toArray):=⟨z12,rfl,rfl,by intro u hu;simp[z12] at hu;rcases hu with rfl|rfl|rfl|rfl<;>rfl⟩
theorem wI {N:Nat} {f:bY} (I:eX N f):(cd f).funs.length<=256:=by
 have h1:=(p2 I).2.length_eq;have U:=(kS I).2.2;have V:=List.length_filter_le fo (e9 f);have W:=I.kM;have J:=(oO f (fp f).length).2.2.2;rw[sI] at J;omega
theorem Nx {n:aQ} {t:ay} (J:jw n) (U:n.funs.length<=256) (V:t.bL=(dd n).cells) (I:Plain t):mh t:=by
 have h1:=sO J U n.unary.length n.funs.length;rw[wj,<-V] at h1;unfold ay.bL at h1;rw[u7] at h1;refine⟨Ω,?_,?_⟩
 .rw[I.2.1];exact X2 _
 .rw[I.1];exact X2 _
def s3 (B:Nat) (w:x3) (I:x1) (cs:List x1) (f:bY):Prop:=∃ab ad A R t N A9 aH,eX N f/\I=Γ ab/\bJ w ab ad A R (cd f) (dd (cd f)) t/\Plain t/\(∀r,A r->B<=r)/\
 h3 true A9 aH w cs (cd f).k (cd f).sizes (dd (cd f))/\(∀q r,A9 q r->¬A r/\¬R r/\B<=r)/\(∀r,aH r->¬eE w r/\r<w.heap.size/\B<=r)/\ ∀r,R r->B<=r
def Ny (w:x3) (q:Λ) (v:x1) (w':x3):Prop:=Ext w w'/\ ∃I cs ok,v= .tuple #[I,.agg cs.toArray,.bool ok]/\(cs.length=8/\ ∀u∈cs,u.oneCell'=true)/\((ok=false/\I= .pointer ν)\/(ok=true/\ ∃f,fS q=σ f/\s3 w.heap.size w' I cs f))/\ ∀f,fS q=σ f->lF f.funs<=16384->ok=true
section
variable {w:x3} {ab ad:Nat} {A R:ah} {n:aQ} {s:au} {t:ay}
theorem Nz {j:Int} (h:bJ w ab ad A R n s t) (W:¬(0<=j/\j<s.funs.length)):aj x7 rn [Γ ab,Δ j] w λr w'=>r= .slice ν 0 0/\Ext w w':=by
 refine aw func120 ?_;refine aR (λv J=>v= .bool true/\Ext w J) ?_ ?_
 .rintro _ J ⟨rfl,U⟩;rw[bA];exact⟨rfl,U⟩
 intro av I;rw[aP,ai];refine⟨λ_=>I _ _ ⟨rfl,Ext.refl _⟩,λX=>?_⟩;refine (wC h).mono ?_;rintro _ Y _ ⟨rfl,V⟩;rw[cK];exact I _ _ ⟨by rw[decide_eq_true Ω],V⟩
end
section
variable {w:x3} {B:Nat} {sv:x1} {k:Int} {sizes:Λ} {s:au}
end
def h5:List (Λ)->List (Λ)
 |[]=>[[]]
 |d::I=>d.flatMap λv=>(h5 I).map (v:: ·)
theorem qm:∀ {J:List (Λ)} {t:Λ},t∈h5 J↔t.length=J.length/\ ∀ (p:Nat) d v,J[p]? =σ d->t[p]? =σ v->v∈d
 |[],t=>by
  simp only[h5,n9];exact⟨λh=>by subst h;exact⟨rfl,λp d v h=>by simp at h⟩,λh=>j9 h.1⟩
 |d::J,t=>by
  simp only[h5,List.mem_flatMap,o8];constructor
  .rintro⟨v,W,bp,X,rfl⟩;obtain⟨h1,U⟩:=qm.1 X;refine⟨by simp[h1],λp V u I hu=>?_⟩;cases p with
   |zero=>simp at I hu;subst I hu;exact W
   |succ p=>exact U p V u (by simpa using I) (by simpa using hu)
  .rintro⟨h1,U⟩;cases t with
   |nil=>simp at h1
   |cons v bp=>exact⟨v,U 0 d v rfl rfl,bp,qm.2 ⟨by simpa using h1,λp V u I hu=>U (p+1) V u (by simpa using I) (by simpa using hu)⟩,rfl⟩
def mo:List (Int->Bool)->Λ->Bool
 |q::I,v::t=>q v&&mo I t
 |_,_=>true
theorem Dr:∀ (U:List (Λ)) (I:List (Int->Bool)),I.length=U.length->h5 ((U.zip I).map λp=>p.1.filter p.2)=(h5 U).filter (mo I)
 |[],[],_=>rfl
 |d::U,q::I,h=>by
  have V:=Dr U I (by simpa using h);simp only[List.zip_cons_cons,U4,h5];rw[V];clear V h;induction d with
  |nil=>rfl
  |cons v d W=>
   rw[W9,List.filter_append,<-W];have e:((h5 U).map (v:: ·)).filter (mo (q::I))=if q v then ((h5 U).filter (mo I)).map (v:: ·) else[]:=by
    rw[List.filter_map];by_cases J:q v=true
    .rw[if_pos J];congr 1;apply List.filter_congr;intro t _;show (q v&&mo I t)=_;rw[J,T0]
    .rw[if_neg J];rw[List.filter_eq_nil_iff.2 λt _=>by show ¬(q v&&mo I t)=true;simp[J]];rfl
   rw[e];by_cases J:q v=true
   .rw[if_pos J,List.filter_cons_of_pos J,W9]
   .rw[if_neg J,List.filter_cons_of_neg J];rfl
def gL (k:Int):Λ:=(W7 k.toNat).map λv:Nat=>(v:Int)
theorem s4:∀ (s:Λ),bi s=h5 (s.map gL)
 |[]=>rfl
 |k::s=>by
  simp only[bi,U4,h5,gL,List.flatMap_map,<-s4 s]
theorem qn:v∈gL k↔0<=v/\v<k:=by
 unfold gL;rw[o8];constructor
 .rintro⟨n,I,rfl⟩;have:=List.mem_range.1 I;omega
 .intro h;exact⟨v.toNat,List.mem_range.2 Ω,Ω⟩
def dr (f:Int->Int) (L:List (Λ)) (af cs:Λ):Λ:=((bi af).zip cs).map λp=>if p.1∈L then f p.2 else p.2
theorem nF (f:Int->Int) (L:List (Λ)) (af cs:Λ) (h:cs.length<=(bi af).length):(dr f L af cs).length=cs.length:=by
 unfold dr;rw[u7,List.length_zip];omega
theorem oU {f:Int->Int} {i:Nat} (I:(bi af)[i]? =σ t) (J:cs[i]? =σ c):(dr f L af cs)[i]? =σ (if t∈L then f c else c):=by
 unfold dr;have U:((bi af).zip cs)[i]? =σ (t,c):=List.getElem?_zip_eq_some.2 ⟨I,J⟩;rw[x8,U];rfl
theorem NA {f:Int->Int} {i:Nat} (I:dz af) (W:cs.length<=(bi af).length) (V:(bi af)[i]? =σ t) (X:cs[i]? =σ c) (ab:t∉L):(dr f L af cs)[i]? =σ c/\(dr f L af cs).set i (f c)=dr f (L++[t]) af cs:=by
 have h1:=oU (f:=f) (L:=L) V X;rw[if_neg ab] at h1;refine⟨h1,?_⟩;apply Y8;intro j;rw[X0];by_cases Y:i=j
 .subst Y;rw[if_pos rfl,if_pos (x4.1 h1).1,oU V X,if_pos Ξ]
 .rw[if_neg Y];cases J:cs[j]? with
  |none=>
   have:=List.getElem?_eq_none_iff.1 J;rw[Z5 (by rw[nF _ _ _ _ W];exact this),Z5 (by rw[nF _ _ _ _ W];exact this)]
  |some ae=>
   obtain⟨u,hu⟩:∃u,(bi af)[j]? =σ u:=⟨_,x6 (by have:=(x4.1 J).1;omega)⟩;rw[oU hu J,oU hu J];have ac:u≠t:=λhe=>by
    subst he;have ad:=iW I V;have aa:=iW I hu;rw[ad] at aa;have:=c9 aa;omega
   have:u∈L++[t]↔u∈L:=by simp[ac]
   by_cases U:u∈L
   .rw[if_pos U,if_pos (this.2 U)]
   .rw[if_neg U,if_neg λh=>U (this.1 h)]
def kj (s:au) (i v:Nat) (c:Int):au:=match s.vars[i]? with
 |some x=>{s with vars:=s.vars.set i {x with un:=x.un.set v c}}
 |none=>s
def kk (s:au) (j m:Nat) (c:Int):au:=match s.funs[j]? with
 |some f=>{s with funs:=s.funs.set j {f with cs:=f.cs.set m c}}
 |none=>s
theorem qo {i:Nat} (h:∀x∈l,0<=x/\x<=k) (J:0<=c/\c<=k):∀x∈l.set i c,0<=x/\x<=k:=λx I=>by
 rcases X6 I with I|rfl
 .exact h x I
 .exact J
def mp (w:x3) (ab ad:Nat) (A R:ah) (n:aQ) (s':au) (t:ay) (v:x1) (w':x3):Prop:=v=Δ 0/\ae (eE w) w w'/\ ∃aN p x,Grow A w aN w'/\bJ w' ab ad aN R n s' (t.set p x)
theorem mp.ext {J:x3} {A R:ah} {n:aQ} {s':au} {t:ay} {v:x1} (I:Ext w J) (h:mp J ab ad A R n s' t v w'):mp w ab ad A R n s' t v w':=by
 obtain⟨h1,U,aN,p,x,V,W⟩:=h;exact⟨h1,jy I U,aN,p,x,(Grow.ext I).trans V,W⟩
section
variable {w:x3} {ab ad:Nat} {A R:ah} {n:aQ} {s:au} {t:ay}
theorem qp (h:bJ w ab ad A R n s t) (U:y<0\/¬(0<=c/\c<=n.k)):aj x7 yY [Γ ab,Δ y,Δ c] w λv w'=>v=Δ (if y<0 then 1 else 3)/\Ext w w':=by
 refine aw func181 ?_;rw[cV dH.u];simp only[Z3,aS];rw[aP,ai];refine⟨λI=>⟨by rw[if_pos I],Ext.refl _⟩,λI=>?_⟩;refine (k0 h).mono ?_;rintro _ J _ ⟨rfl,W⟩;refine (jn (a:=c) (k:=n.k)).mono ?_;rintro _ V _ ⟨rfl,X⟩;have Y:=U.resolve_left I;rw[decide_eq_false (λh=>Y h.2),bu,X3,bA,if_neg I];exact⟨rfl,W.trans X⟩
theorem wJ {s':au} {p:Nat} (h:bJ w ab ad A R n s t) (W:Room t) (X:y=(p:Int)) (Y:p<s.cells.length) (aa:s.cells.set p c=s'.cells) (I:nx s s') (ac:bH n.k n.sizes s') (ae:0<=c/\c<=n.k):
  aj x7 yY [Γ ab,Δ y,Δ c] w (mp w ab ad A R n s' t):=by
 refine aw func181 ?_;rw[cV dH.u];simp only[Z3,aS];refine b6 Ω ?_;refine (k0 h).mono ?_;rintro _ J _ ⟨rfl,af⟩;refine (jn (a:=c) (k:=n.k)).mono ?_;rintro _ V _ ⟨rfl,ag⟩;have U:=af.trans ag;rw[decide_eq_true (show cn c n.k from⟨h.2.2.2.1.fc,ae⟩),bu,Z8,aS];obtain⟨am,an,ao,ap,a1,aq,L,av,ah,ax,ay,az,aA,aB⟩:=(h.ext U).1.parts;rw[aM cB.p 1 ah rfl];refine (Do (h.ext U) X Y aa I ac W).mono ?_;rintro _ aC _ ⟨rfl,ai,aN,ak,al⟩;exact mp.ext U ⟨rfl,ai,aN,_,_,ak,al⟩
theorem NB (h:bJ w ab ad A R n s t) (U:Room t):aj x7 Gg [Γ ab,Δ c] w λv w'=>(¬(0<=c/\c<=n.k)->v=Δ 3/\Ext w w')/\((0<=c/\c<=n.k)->mp w ab ad A R n {s with zero:=c} t v w'):=by
 refine aw func126 ?_;by_cases I:0<=c/\c<=n.k
 .refine (wJ (p:=0) h U rfl (by unfold au.cells ix;simp) (Mh s c) (Cz s c) ⟨h.2.2.2.1.fc,h.2.2.2.1.gp,I,h.2.2.2.1.vars,h.2.2.2.1.var,h.2.2.2.1.funs⟩ I).mono ?_;rintro v J _ V;exact⟨λh=>absurd I h,λ_=>V⟩
 .refine (qp h (.inr I)).mono ?_;rintro v J _ ⟨rfl,W⟩;exact⟨λ_=>⟨rfl,W⟩,λh=>absurd h I⟩
theorem Ds {i:Int} (h:bJ w ab ad A R n s t) (ac:Room t):aj x7 Gf [Γ ab,Δ i,Δ v,Δ c] w λr w'=>
  (¬fy n i v->r=Δ 1/\Ext w w')/\(fy n i v->¬(0<=c/\c<=n.k)->r=Δ 3/\Ext w w')/\(fy n i v->(0<=c/\c<=n.k)->mp w ab ad A R n (kj s i.toNat v.toNat c) t r w'):=by
 refine aw func125 ?_;refine (wE h).mono ?_;rintro _ J _ ⟨rfl,U⟩;by_cases I:fy n i v
 .rw[if_pos I];by_cases X:0<=c/\c<=n.k
  .obtain⟨x,W,ah,ai,_⟩:=I.var h.2.2.2.1;have ak:=h.2.2.2.1.vars;obtain⟨z,ae⟩:∃z,n.sizes[i.toNat]? =σ z:=⟨_,x6 (by have:=I.1;have:=I.2.1;omega)⟩;obtain⟨_,af,hm⟩:=h.2.2.2.1.var i.toNat x z W ae;have al:=sW W;have Y:kj s i.toNat v.toNat c={s with vars:=s.vars.set i.toNat {x with un:=x.un.set v.toNat c}}:=by unfold kj;rw[W]
   refine (wJ (p:=fu s i.toNat+(2+v.toNat)) (s':=kj s i.toNat v.toNat c) (h.ext U) ac Ω Ω ?_ ?_ ?_ X).mono ?_
   .rw[Y];refine Cu W Ω ?_;rw[show 2+v.toNat=v.toNat+1+1 by omega];rfl
   .rw[Y];exact CA W Ξ
   .rw[Y];exact h.2.2.2.1.sY W Ξ (qo af X) hm
   .rintro r V _ ag;exact⟨λh=>absurd I h,λ_ h=>absurd X h,λ_ _=>ag.ext U⟩
  .refine (qp (h.ext U) (.inr X)).mono ?_;rintro r V _ ⟨rfl,aa⟩;rw[if_neg Ω];exact⟨λh=>absurd I h,λ_ _=>⟨rfl,U.trans aa⟩,λ_ h=>absurd h X⟩
 .rw[if_neg I];refine (qp (h.ext U) (.inl Ω)).mono ?_;rintro r V _ ⟨rfl,aa⟩;rw[if_pos Ω];exact⟨λ_=>⟨rfl,U.trans aa⟩,λh=>absurd h I,λh=>absurd h I⟩
theorem NC {aI:x1} (h:bJ w ab ad A R n s t) (ae:Room t) (ag:aB .i64 w aI tl):aj x7 Ge [Γ ab,Δ (j:Int),aI,Δ c] w λr w'=>
  (fI s j tl=ν->r=Δ 1/\Ext w w')/\((fI s j tl).isSome=true->¬(0<=c/\c<=n.k)->r=Δ 3/\Ext w w')/\
  ((fI s j tl).isSome=true->(0<=c/\c<=n.k)-> ∀f (m:Nat),s.funs[j]? =σ f->cC f.af tl 0=σ (m:Int)->mp w ab ad A R n (kk s j m c) t r w'):=by
 refine aw func124 ?_;refine (Dl h ag).mono ?_;rintro _ J _ ⟨rfl,U⟩;cases ah:fI s j tl with
 |none=>
  simp only;refine (qp (h.ext U) (.inl Ω)).mono ?_;rintro r V _ ⟨rfl,X⟩;rw[if_pos Ω];exact⟨λ_=>⟨rfl,U.trans X⟩,λh=>by simp at h,λh=>by simp at h⟩
 |some p=>
  simp only;by_cases W:0<=c/\c<=n.k
  .obtain⟨al,f,I,am,m,hm,an,rfl⟩:=wG h.2.2.2.1 ah;have ao:=Dh I;have Y:kk s j m c={s with funs:=s.funs.set j {f with cs:=f.cs.set m c}}:=by unfold kk;rw[I]
   obtain⟨ai,_⟩:=h.2.2.2.1.funs f (x5 I);refine (wJ (p:=e0 s j+(m+1)) (s':=kk s j m c) (h.ext U) ae rfl Ω ?_ ?_ ?_ W).mono ?_
   .rw[Y];exact Mi I Ω rfl
   .rw[Y];exact Mr I Ξ rfl rfl
   .rw[Y];exact h.2.2.2.1.Dn I rfl rfl Ξ (qo ai.hA W)
   .rintro r V _ ak;refine⟨(λh=>by cases h),λ_ h=>absurd W h,λ_ _ ap ch aa ac=>?_⟩;rw[I] at aa;cases aa;rw[hm] at ac;have:ch=m:=by have:=c9 ac;omega
    subst this;exact ak.ext U
  .refine (qp (h.ext U) (.inr W)).mono ?_;rintro r V _ ⟨rfl,X⟩;rw[if_neg Ω];exact⟨(λh=>by cases h),λ_ _=>⟨rfl,U.trans X⟩,λ_ h=>absurd h W⟩
end
theorem oV {s:au} {n:aQ} {i:Int} {b:Nat} {x:bP} (h:sX s n i b m) (J:0<=i) (U:s.vars[i.toNat]? =σ x):(gk b m).map (λv:Nat=>(v:Int))=aK x:=by
 obtain⟨_,_,V⟩:=h;obtain⟨rfl,W⟩:=V x J U;unfold gk aK;rw[List.filter_map];congr 1;refine List.filter_congr λq I=>?_;have I:=List.mem_range.1 I;rw[W,decide_eq_true I,T0];rfl
section
variable {w:x3} {ab ad:Nat} {A R:ah} {n:aQ} {s:au} {t:ay}
end
theorem ND {x:bP} (h:v∈aK x):0<=v/\v<x.un.length:=by
 unfold aK at h;obtain⟨h,_⟩:=S3.1 h;obtain⟨q,I,rfl⟩:=o8.1 h;have:=List.mem_range.1 I;omega
theorem NE {s:au} {n:aQ} {i:Int} {b:Nat} {x:bP} (h:sX s n i b m) (U:0<=i) (V:s.vars[i.toNat]? =σ x):(decide (0<=v/\v<m)&&b.testBit v.toNat)=decide (v∈aK x):=by
 obtain⟨_,_,W⟩:=h;obtain⟨rfl,X⟩:=W x U V;by_cases I:0<=v/\v<x.un.length
 .rw[decide_eq_true I,T0,X,decide_eq_true (show v.toNat<x.un.length by omega),T0,show ((v.toNat:Nat):Int)=v by omega];have:=Ns I;cases J:dropped x.mask v with
  |false=>rw[decide_eq_true (this.2 J)];rfl
  |true=>rw[decide_eq_false λh=>by rw[this.1 h] at J;cases J];rfl
 .rw[decide_eq_false I,decide_eq_false λh=>I (ND h)];rfl
section
variable {w:x3} {ab ad:Nat} {A R:ah} {n:aQ} {s:au} {t:ay}
theorem wK {f:cJ} (h:bJ w ab ad A R n s t) (I:s.funs[j]? =σ f):aj x7 rn [Γ ab,Δ (j:Int)] w λr w'=>Ext w w'/\ ∃g,w.heap.size<=g/\ap .i64 ag w' g r f.sc:=by
 have ak:=(x4.1 I).1;refine aw func120 ?_;refine aR (λv J=>v= .bool false/\Ext w J) ?_ ?_
 .rintro _ J ⟨rfl,U⟩;rw[aS];obtain⟨al,am,an,ao,a1,aq,L,au,aa,ax,ay,az,X,W⟩:=(h.ext U).1.parts;obtain⟨y,Y⟩:∃y,L[j]? =σ y:=⟨_,x6 (by rw[W.1];omega)⟩;obtain⟨ac,_,_⟩:=W.2 j y f Y I;rw[aM cB.p 3 aa rfl,dq rfl e5.u ek.i X (by rw[W.1];omega),aT ek.p rfl,aA (v:=y.aJ) Ψ (X.range Y 0 _ rfl)];have aB:f.sc.length<=6:=(h.2.2.2.1.funs f (x5 I)).1.scope.2;refine (kJ ac.ls Ω).mono ?_;rintro v V _ ⟨ae,g,aC,hm⟩;have:=U.size;exact⟨U.trans ae,g,Ω,hm⟩
 intro av af;rw[aP,ai];refine⟨λaD=>Ω,λ_=>?_⟩;refine (wC h).mono ?_;rintro _ aE _ ⟨rfl,ah⟩;rw[cK];exact af _ _ ⟨by rw[decide_eq_false Ω],ah⟩
end
def dk (s:au) (i:Int):Λ:=match s.vars[i.toNat]? with
 |some x=>aK x
 |none=>[]
section
variable {ab ad:Nat} {A R:ah} {n:aQ} {s:au} {t:ay}
end
def ja (s:au) (pos:Nat) (v:Int):Λ->Nat->List (Λ)
 |[],_=>[]
 |u::sc,p=>(if p=pos then[v] else dk s u)::ja s pos v sc (p+1)
def cb (s:au) (sc:Λ) (pos:Nat) (v:Int):List (Λ):=h5 (ja s pos v sc 0)
def nG (s:au) (pos:Nat) (v:Int):Λ->Nat->List (Int->Bool)
 |[],_=>[]
 |u::sc,p=>(λx=>(decide (p=pos->x=v))&&decide (x∈dk s u))::nG s pos v sc (p+1)
theorem NF (h:0<=v/\v<k):(gL k).filter (λx=>decide (x=v))=[v]:=by
 have I:(gL k).Nodup:=by
  unfold gL;exact List.Pairwise.map _ (λa b X=>Ω) List.nodup_range
 have hm:v∈gL k:=qn.2 h;generalize gL k=l at I hm;induction l with
 |nil=>cases hm
 |cons a l U=>
  have J:=List.nodup_cons.1 I;by_cases e:a=v
  .subst e;rw[List.filter_cons_of_pos Ξ,List.filter_eq_nil_iff.2 λx V=>by simp;intro W;exact J.1 (W▸V)]
  .rw[List.filter_cons_of_neg (by simpa using e)];exact U J.2 ((V0.1 hm).resolve_left (Ne.symm e))
section
variable {k:Int} {sizes:Λ} {s:au} {v:Int} {pos:Nat}
theorem NG {u:Int} (I:bH k sizes s) (h:0<=u/\u<sizes.length):(gL (sizes.getD u.toNat 0)).filter (λx=>decide (x∈dk s u))=dk s u:=by
 have Y:=I.vars;obtain⟨x,U⟩:=aF (l:=s.vars) (i:=u.toNat) Ω;obtain⟨z,J⟩:=aF (l:=sizes) (i:=u.toNat) Ω;have h1:=(I.var _ x z U J).1;have e:dk s u=aK x:=by unfold dk;rw[U]
 have V:sizes.getD u.toNat 0=z:=by rw[u4,J];rfl
 have aa:=I.gp.2.2 z (x5 J);have W:aK x=(gL z).filter λv=>!dropped x.mask v:=by unfold aK gL;rw[h1]
 rw[e,V,W];refine List.filter_congr λy X=>?_;simp[S3,X]
theorem Dt (V:bH k sizes s):∀ (sc:Λ) (p:Nat),(∀u∈sc,0<=u/\u<sizes.length)->(∀u,p<=pos->sc[pos-p]? =σ u->v∈dk s u)->
  ja s pos v sc p=(((bS sizes sc).map gL).zip (nG s pos v sc p)).map λq=>q.1.filter q.2
 |[],p,_,_=>rfl
 |u::sc,p,hu,W=>by
  have X:=Dt V sc (p+1) (λu h=>hu u (.tail _ h)) λu' I h=>W u' Ω (by rw[show pos-p=(pos-(p+1))+1 by omega];exact h);have Y:=hu u (.head _);have J:=NG (s:=s) V Y;show (if p=pos then[v] else dk s u)::ja s pos v sc (p+1)=(gL (sizes.getD u.toNat 0)).filter (λx=>decide (p=pos->x=v)&&decide (x∈dk s u))::((((bS sizes sc).map gL).zip (nG s pos v sc (p+1))).map λq=>q.1.filter q.2);rw[<-X];congr 1;by_cases I:p=pos
  .rw[if_pos I];have U:v∈dk s u:=W u Ω (by rw[I,V7];rfl);have aa:v∈gL (sizes.getD u.toNat 0):=by rw[<-J] at U;exact (S3.1 U).1
   rw[<-NF (qn.1 aa)];refine List.filter_congr λx _=>?_;by_cases e:x=v
   .subst e;simp[U]
   .simp[e,I]
  .rw[if_neg I,<-J];refine (List.filter_congr λx ab=>?_).symm;rw[J];simp[I]
theorem Du:∀ (sc:Λ) (p:Nat),(nG s pos v sc p).length=sc.length
 |[],_=>rfl
 |u::sc,p=>by unfold nG;rw[b9,Du sc (p+1),b9]
theorem wL (I:bH k sizes s) (J:∀u∈sc,0<=u/\u<sizes.length) (U:∀u,sc[pos]? =σ u->v∈dk s u):
  cb s sc pos v=(bi (bS sizes sc)).filter (mo (nG s pos v sc 0)):=by
 unfold cb;rw[Dt I sc 0 J λu _ h=>U u h,Dr _ _ (by rw[Du,u7];unfold bS;rw[u7]),s4]
end
theorem wM {k:Int}:∀ (l:Λ) (z:Int),z<=k->(∀c∈l,0<=c)->l.foldl (λa c=>min (a+c) k) z=min (z+l.sum) k
 |[],z,h,_=>Θ
 |c::l,z,h,J=>by
  have I:∀ (l:Λ),(∀c∈l,0<=c)->0<=l.sum:=λl=>by
   induction l with
   |nil=>intro _;simp
   |cons a l U=>intro h;have:=U λc J=>h c (.tail _ J);have:=h a (.head _);rw[List.sum_cons];omega
  have h1:=J c (.head _);have V:=I l λc h=>J c (.tail _ h);rw[List.foldl_cons,wM l _ Ω λc h=>J c (.tail _ h),List.sum_cons];omega
def dl (p:bP×Int):Int:=if p.1.gone≠0 then 0 else p.1.un.getD p.2.toNat 0
def e1 (a:Λ) (f:cJ):Int:=if f.live≠0 then bl f.af f.cs (iZ a f.sc) else 0
theorem foldl_map' {α β I:Type} (g:α->β) (h:I->β->I) (h':I->α->I) (P:I->Prop) (aC:∀c a,P c->h' c a=h c (g a)) (J:∀c a,P c->P (h' c a)):∀ (l:List α) (c:I),P c->l.foldl h' c=(l.map g).foldl h c
 |[],_,_=>rfl
 |a::l,c,U=>by
  rw[List.foldl_cons,U4,List.foldl_cons,<-aC c a U];exact foldl_map' g h h' P aC J l _ (J c a U)
theorem wN {i:Nat} {x:Int} (h:l[i]? =σ x):(l.set i y).sum=l.sum-x+y:=by
 induction l generalizing i with
 |nil=>simp at h
 |cons a l I=>
  cases i with
  |zero=>simp at h;subst h;rw[List.set_cons_zero,List.sum_cons,List.sum_cons];omega
  |succ i=>
   rw[List.set_cons_succ,List.sum_cons,List.sum_cons,I (by simpa using h)];omega
def dD (k a c:Int):Int:=if a=k then k else a-c
def dE (k a c:Int):Int:=min (a+c) k
theorem s5 {r g u:Int} (I:0<=r) (J:c<=g/\g<=k) (hu:0<=u/\u<=k) (U:0<=c):min (r+dD k g c+dE k u c) k=min (r+g+u) k:=by
 unfold dD dE;split<;>omega
theorem qq:∀ (l:Λ),(∀c∈l,0<=c)->0<=l.sum
 |[],_=>Ξ
 |a::l,h=>by have:=qq l λc I=>h c (.tail _ I);have:=h a (.head _);rw[List.sum_cons];omega
theorem qs:∀ {l:Λ} {i:Nat} {x:Int},(∀c∈l,0<=c)->l[i]? =σ x->x<=l.sum
 |[],_,_,_,h=>by simp at h
 |a::l,0,x,I,h=>by
  simp at h;subst h;have:=qq l λc h=>I c (.tail _ h);rw[List.sum_cons];omega
 |a::l,i+1,x,I,h=>by
  have:=qs (λc h=>I c (.tail _ h)) (show l[i]? =σ x by simpa using h);have:=I a (.head _);rw[List.sum_cons];omega
theorem Dv {i:Nat} (hk:0<=k) (h:∀c∈l,0<=c/\c<=k):0<=l.getD i 0/\l.getD i 0<=k:=by
 rw[u4];cases I:l[i]? with
 |none=>exact⟨Int.le_refl _,hk⟩
 |some c=>exact h c (x5 I)
theorem Dw {f:Int->Int} {m:Int} (I:dz af) (V:cs.length=(bi af).length) (hi:cC af t 0=σ m):bl af (dr f L af cs) t=if t∈L then f (bl af cs t) else bl af cs t:=by
 have J:=mb I hi;have W:=(x4.1 J).1;obtain⟨c,U⟩:=aF (l:=cs) (i:=m.toNat) Ω;have h1:=oU (f:=f) (L:=L) J U;unfold bl;rw[hi];simp only;rw[u4,h1,u4,U,V4,V4]
section
variable {k:Int} {sizes a:Λ} {s:au}
theorem NH {i:Nat} {p:bP×Int} (I:bH k sizes s) (h:(s.vars.zip a)[i]? =σ p):0<=dl p/\dl p<=k:=by
 have hk:=I.fc;obtain⟨h1,_⟩:=List.getElem?_zip_eq_some.1 h;have J:=(x4.1 h1).1;have U:=I.vars;have:=I.var i p.1 _ h1 (x6 Ω);unfold dl;split
 .omega
 .exact Dv Ω this.2.1
theorem NI {f:cJ} (I:bH k sizes s) (h:f∈s.funs):0<=e1 a f/\e1 a f<=k:=by
 have hk:=I.fc;have:=(I.funs f h).1.hA;unfold e1;split
 .exact (sD I.fc λc J=>⟨I.fc,this c J⟩).2
 .omega
theorem s6 (I:bH k sizes s):∀c∈(s.vars.zip a).map dl,0<=c:=λc J=>by
 obtain⟨p,U,rfl⟩:=o8.1 J;obtain⟨i,hi⟩:=X4.1 U;exact (NH I hi).1
theorem qt (I:bH k sizes s):∀c∈s.funs.map (e1 a),0<=c:=λc J=>by
 obtain⟨p,U,rfl⟩:=o8.1 J;exact (NI I U).1
theorem nH (I:bH k sizes s):dW k s a=if (s.vars.zip a).all eK then min (s.zero+((s.vars.zip a).map dl).sum+(s.funs.map (e1 a)).sum) k else k:=by
 have h1:(s.vars.zip a).foldl (kc k) s.zero=((s.vars.zip a).map dl).foldl (λx c=>min (x+c) k) s.zero:=by
  refine foldl_map' dl (λx c=>min (x+c) k) (kc k) (λc=>c<=k) (λc p J=>?_) (λc p J=>?_) _ _ I.zero.2
  .unfold kc dl;split
   .omega
   .rfl
  .unfold kc;split
   .exact J
   .omega
 have U:∀z,z<=k->s.funs.foldl (i7 k a) z=(s.funs.map (e1 a)).foldl (λx c=>min (x+c) k) z:=λz V=>by
  refine foldl_map' (e1 a) (λx c=>min (x+c) k) (i7 k a) (λc=>c<=k) (λc p J=>?_) (λc p J=>?_) _ _ V
  .unfold i7 e1;split
   .rfl
   .omega
  .unfold i7;split
   .omega
   .exact J
 unfold dW;split
 .rw[h1,wM _ _ I.zero.2 (s6 I),U _ Ω,wM _ _ Ω (qt I)];have:=qq _ (qt (a:=a) I);omega
 .rfl
theorem s7 {α β:Type}:∀ {l:List α} {m:List β} {i:Nat} {x:α} {y:β},m[i]? =σ y->(l.set i x).zip m=(l.zip m).set i (x,y)
 |[],_,_,_,_,_=>Ξ
 |_::_,[],_,_,_,h=>by simp at h
 |a::l,b::m,0,x,y,h=>by simp at h;subst h;rfl
 |a::l,b::m,i+1,x,y,h=>by
  rw[List.set_cons_succ,List.zip_cons_cons,List.zip_cons_cons,List.set_cons_succ,s7 (by simpa using h)]
theorem s8 {α:Type} {q:α->Bool}:∀ {l:List α} {i:Nat} {x y:α},l[i]? =σ x->q y=q x->(l.set i y).all q=l.all q
 |[],_,_,_,h,_=>by simp at h
 |a::l,0,x,y,h,I=>by simp at h;subst h;rw[List.set_cons_zero,List.all_cons,List.all_cons,I]
 |a::l,i+1,x,y,h,I=>by rw[List.set_cons_succ,List.all_cons,List.all_cons,s8 (by simpa using h) I]
def eu (s:au) (u:Nat) (x:bP) (un:Λ):au:={s with vars:=s.vars.set u {x with un:=un}}
def dF (s:au) (j:Nat) (f:cJ) (cs:Λ):au:={s with funs:=s.funs.set j {f with cs:=cs}}
theorem wO {u:Nat} {x:bP} {un:Λ} (I:bH k sizes s) (J:s.vars[u]? =σ x) (U:un.length=x.un.length) (V:∀c∈un,0<=c/\c<=k):bH k sizes (eu s u x un):=by
 have W:=(x4.1 J).1;have X:=I.vars;have h1:=I.var u x _ J (x6 Ω);exact I.sY J U V h1.2.2
theorem Dx {f:cJ} (I:bH k sizes s) (J:s.funs[j]? =σ f) (U:cs.length=f.cs.length) (V:∀c∈cs,0<=c/\c<=k):bH k sizes (dF s j f cs):=I.Dn J rfl rfl U V
theorem NJ {u:Nat} {x:bP} {f:cJ} {un:Λ} {bb:Int} (I:bH k sizes s) (V:s.vars[u]? =σ x) (J:s.funs[j]? =σ f) (X:un.length=x.un.length) (Y:∀c∈un,0<=c/\c<=k) (aa:cs.length=f.cs.length) (ab:∀c∈cs,0<=c/\c<=k) (W:a[u]? =σ bb)
  (h:(s.vars.zip a).all eK=true-> ∀r,0<=r->min (r+e1 a {f with cs:=cs}+dl ({x with un:=un},bb)) k=min (r+e1 a f+dl (x,bb)) k):dW k (eu (dF s j f cs) u x un) a=dW k s a:=by
 have ac:=Dx I J aa ab;have ad:bH k sizes (eu (dF s j f cs) u x un):=wO ac V X Y;rw[nH ad,nH I];have U:(s.vars.zip a)[u]? =σ (x,bb):=List.getElem?_zip_eq_some.2 ⟨V,W⟩;have ae:((eu (dF s j f cs) u x un).vars.zip a)=(s.vars.zip a).set u ({x with un:=un},bb):=s7 W;have af:((s.vars.zip a).set u ({x with un:=un},bb)).all eK=(s.vars.zip a).all eK:=s8 U rfl;rw[ae,af];split
 .rename_i ag;have ah:(((s.vars.zip a).set u ({x with un:=un},bb)).map dl).sum=((s.vars.zip a).map dl).sum-dl (x,bb)+dl ({x with un:=un},bb):=by
   rw[U1];exact wN (by rw[x8,U];rfl)
  have ai:((eu (dF s j f cs) u x un).funs.map (e1 a)).sum=(s.funs.map (e1 a)).sum-e1 a f+e1 a {f with cs:=cs}:=by
   show ((s.funs.set j {f with cs:=cs}).map (e1 a)).sum=_;rw[U1];exact wN (by rw[x8,J];rfl)
  have h1:=qs (s6 (a:=a) I) (i:=u) (x:=dl (x,bb)) (by rw[x8,U];rfl);have aj:=qs (qt (a:=a) I) (i:=j) (x:=e1 a f) (by rw[x8,J];rfl);have ak:=I.zero.1;have al:=h ag (s.zero+(((s.vars.zip a).map dl).sum-dl (x,bb))+((s.funs.map (e1 a)).sum-e1 a f)) Ω;rw[ah,ai];show min (s.zero+_+_) k=_;omega
 .rfl
end
theorem wP {s:au} {pos:Nat} {v:Int}:∀ (sc:Λ) (p q:Nat),(ja s pos v sc p)[q]? =(sc[q]?).map λu=>if p+q=pos then[v] else dk s u
 |[],_,q=>by simp[ja]
 |u::sc,p,0=>by simp[ja]
 |u::sc,p,q+1=>by
  unfold ja;rw[List.getElem?_cons_succ,List.getElem?_cons_succ,wP sc (p+1) q,show p+1+q=p+(q+1) by omega]
theorem Dy {s:au} {pos:Nat} {v:Int}:∀ (sc:Λ) (p:Nat),(ja s pos v sc p).length=sc.length
 |[],_=>rfl
 |u::sc,p=>by unfold ja;rw[b9,Dy sc (p+1),b9]
theorem wQ {s:au}:t∈cb s sc pos v↔t.length=sc.length/\ ∀ (p:Nat) u w,sc[p]? =σ u->t[p]? =σ w->if p=pos then w=v else w∈dk s u:=by
 unfold cb;rw[qm,Dy];refine and_congr_right λ_=>⟨λh p u w hu hw=>?_,λh p d w I hw=>?_⟩
 .have:w∈if 0+p=pos then[v] else dk s u:=h p _ w (by rw[wP,hu];rfl) hw;rw[X1] at this;split
  .rename_i e;rw[if_pos e] at this;exact n9.1 this
  .rename_i e;rw[if_neg e] at this;exact this
 .rw[wP] at I;cases hu:sc[p]? with
  |none=>rw[hu] at I;cases I
  |some u=>
   rw[hu] at I;have I:(if 0+p=pos then[v] else dk s u)=d:=c9 I;subst I;have:=h p u w hu hw;rw[X1];split
   .rename_i e;rw[if_pos e] at this;exact n9.2 this
   .rename_i e;rw[if_neg e] at this;exact this
theorem hd {x:bP}:v∈aK x↔(0<=v/\v<x.un.length)/\dropped x.mask v=false:=by
 unfold aK;rw[S3];refine and_congr ?_ Ξ;have:=qn (k:=(x.un.length:Int)) (v:=v);unfold gL at this;rw[u9] at this;exact this
theorem Dz {f:Int->Int} (I:dz af) (W:∀c∈cs,0<=c/\c<=k) (X:∀t∈L,0<=f (bl af cs t)/\f (bl af cs t)<=k):∀c∈dr f L af cs,0<=c/\c<=k:=λc J=>by
 unfold dr at J;obtain⟨p,Y,rfl⟩:=o8.1 J;obtain⟨i,hi⟩:=X4.1 Y;obtain⟨h1,U⟩:=List.getElem?_zip_eq_some.1 hi;split
 .rename_i aa;have V:=X p.1 aa;have e:bl af cs p.1=p.2:=by
   unfold bl;rw[iW I h1];simp only;rw[u9,u4,U];rfl
  rw[e] at V;exact V
 .exact W _ (x5 U)
section
variable {k:Int} {sizes a:Λ} {s:au}
def iE (s:au) (j:Nat) (f:cJ) (pos u:Nat) (x:bP) (v:Int) (tup un:Int->Int):au:=
 eu (dF s j f (dr tup (cb s f.sc pos v) f.af f.cs)) u x (x.un.set v.toNat (un (x.un.getD v.toNat 0)))
theorem k2 {f:cJ} (J:bH k sizes s) (X:f∈s.funs):dz f.af/\f.cs.length=(bi f.af).length:=by
 obtain⟨I,U,_⟩:=J.funs f X;have V:dz f.af:=by rw[U];exact np J.gp.2.2 λv W=>⟨(I.scope.1 v W).1,I.vars v W⟩
 refine⟨V,?_⟩;have h1:=I.len;rw[ij V,U];exact h1
theorem DA {u:Nat} {f:cJ} {x:bP} {tup un:Int->Int} (I:bH k sizes s) (J:s.funs[j]? =σ f) (U:s.vars[u]? =σ x)
  (V:∀t∈cb s f.sc pos v,0<=tup (bl f.af f.cs t)/\tup (bl f.af f.cs t)<=k) (W:0<=un (x.un.getD v.toNat 0)/\un (x.un.getD v.toNat 0)<=k):bH k sizes (iE s j f pos u x v tup un):=by
 obtain⟨X,aa⟩:=k2 I (x5 J);have Y:=(I.funs f (x5 J)).1;have ab:=(x4.1 U).1;have ac:=I.vars;have h1:=I.var u x _ U (x6 Ω);exact wO (Dx I J (nF _ _ _ _ Ω) (Dz X Y.hA V)) U (by rw[Z4]) (qo h1.2.1 W)
theorem DB {u:Nat} {f:cJ} {x:bP} {tup un:Int->Int} (J:bH k sizes s) (al:hC s a) (aa:s.funs[j]? =σ f) (am:f.live≠0) (hu:f.sc[pos]? =σ (u:Int)) (V:s.vars[u]? =σ x) (aw:v∈aK x)
  (an:∀w∈f.sc,∀y,s.vars[w.toNat]? =σ y->y.gone=0) (ax:∀t∈cb s f.sc pos v,0<=tup (bl f.af f.cs t)/\tup (bl f.af f.cs t)<=k) (ay:0<=un (x.un.getD v.toNat 0)/\un (x.un.getD v.toNat 0)<=k)
  (az:∀t∈cb s f.sc pos v,∀r,0<=r->min (r+tup (bl f.af f.cs t)+un (x.un.getD v.toNat 0)) k=min (r+bl f.af f.cs t+x.un.getD v.toNat 0) k):
  dW k (iE s j f pos u x v tup un) a=dW k s a:=by
 obtain⟨ab,aA⟩:=k2 J (x5 aa);obtain⟨ac,ao,_⟩:=J.funs f (x5 aa);have aQ:=(x4.1 V).1;have aR:=J.vars;have h1:=J.var u x _ V (x6 Ω);have aS:=al.1;obtain⟨bb,ap⟩:=aF (l:=a) (i:=u) Ω;refine NJ J V aa (by rw[Z4]) (qo h1.2.1 ay) (nF _ _ _ _ Ω) (Dz ab ac.hA ax) ap λaB r aC=>?_;have aq:x.gone=0:=an u (x5 hu) x (by rw[u9];exact V);obtain⟨tl,W⟩:∃tl,tl=iZ a f.sc:=⟨_,rfl⟩;have ad:∀ (q:Nat) w,f.sc[q]? =σ w-> ∃y,s.vars[w.toNat]? =σ y/\tl[q]? =σ (a.getD w.toNat 0)/\a.getD w.toNat 0∈aK y/\f.af[q]? =σ (y.un.length:Int):=λq w hw=>by
  have hm:=x5 hw;have aT:=(ac.scope.1 w hm).1;have aU:=ac.vars w hm;obtain⟨y,I⟩:=aF (l:=s.vars) (i:=w.toNat) Ω;obtain⟨z,ae⟩:=aF (l:=sizes) (i:=w.toNat) Ω;obtain⟨ag,ah⟩:=aF (l:=a) (i:=w.toNat) Ω;have aD:=an w hm y I;have aV:=(J.var _ y z I ae).1;have aW:=J.gp.2.2 z (x5 ae);have e:a.getD w.toNat 0=ag:=by rw[u4,ah];rfl
  have au:=List.all_eq_true.1 aB (y,ag) (x5 (List.getElem?_zip_eq_some.2 ⟨I,ah⟩));have aE:=(al.2 _ y ag I ah).resolve_left Ω;refine⟨y,I,by rw[W];unfold iZ;rw[x8,hw];rfl,?_,?_⟩
  .rw[e,hd];refine⟨aE,?_⟩;unfold eK at au;simpa[aD] using au
  .rw[ao];unfold bS;rw[x8,hw,Z2,u4,ae,V4];congr 1;omega
 have aG:tl.length=f.sc.length:=by rw[W];unfold iZ;rw[u7]
 have aX:f.af.length=f.sc.length:=by rw[ao];unfold bS;rw[u7]
 obtain⟨m,hm⟩:∃m,cC f.af tl 0=σ m:=by
  have:tl∈bi f.af:=by
   rw[s4,qm];refine⟨by rw[u7];omega,λq d w av hw=>?_⟩;obtain⟨b,U⟩:=aF (l:=f.sc) (i:=q) (by have:=(x4.1 hw).1;omega);obtain⟨y,_,ai,aj,aH⟩:=ad q b U;rw[x8,aH] at av;cases av;rw[ai] at hw;cases hw;exact qn.2 (hd.1 aj).1
  obtain⟨i,hi⟩:=X4.1 this;exact⟨_,iW ab hi⟩
 have aI:e1 a f=bl f.af f.cs tl:=by unfold e1;rw[if_pos am,W]
 have aJ:e1 a {f with cs:=dr tup (cb s f.sc pos v) f.af f.cs}=if tl∈cb s f.sc pos v then tup (bl f.af f.cs tl) else bl f.af f.cs tl:=by
  rw[<-Dw ab aA hm,W];unfold e1;rw[if_pos am]
 have aL:dl (x,bb)=x.un.getD bb.toNat 0:=by unfold dl;rw[if_neg (by simp[aq])]
 have aM:dl ({x with un:=x.un.set v.toNat (un (x.un.getD v.toNat 0))},bb)=(x.un.set v.toNat (un (x.un.getD v.toNat 0))).getD bb.toNat 0:=by unfold dl;rw[if_neg (by simp[aq])]
 obtain⟨y,I,X,ak,_⟩:=ad pos _ hu;rw[u9] at I X ak;rw[V] at I;cases I;have aN:a.getD u 0=bb:=by rw[u4,ap];rfl
 rw[aN] at X ak;have aY:=(hd.1 aw).1;have aZ:=(hd.1 ak).1;rw[aI,aJ,aL,aM];by_cases he:bb=v
 .subst he;have Y:tl∈cb s f.sc pos bb:=wQ.2 ⟨aG,λq w b hw U=>by
   obtain⟨a1,aO,ai,aj,_⟩:=ad q w hw;split
   .rename_i aP;subst aP;rw[X] at U;exact (c9 U).symm
   .rw[ai] at U;cases U;unfold dk;rw[aO];exact aj⟩
  rw[if_pos Y,u4 (l:=x.un.set _ _),c7 Ω,V4];exact az tl Y r aC
 .have Y:tl∉cb s f.sc pos v:=λhm=>by
   have:=(wQ.1 hm).2 pos _ bb hu X;rw[if_pos rfl] at this;exact he this
  rw[if_neg Y,u4 (l:=x.un.set _ _),Y5 Ω,<-u4]
end
def dX (g:Int->Int) (un L:Λ):Λ:=L.foldl (λun v=>un.set v.toNat (g (un.getD v.toNat 0))) un
theorem s9 {g:Int->Int}:∀ (L un:Λ),(dX g un L).length=un.length
 |[],_=>rfl
 |v::L,un=>by
  unfold dX;rw[List.foldl_cons];have:=s9 (g:=g) L (un.set v.toNat (g (un.getD v.toNat 0)));unfold dX at this;rw[this,Z4]
theorem ta {g:Int->Int}:∀ (L un:Λ) (w:Int),L.Nodup->(∀v∈L,0<=v/\v<un.length)->0<=w->(dX g un L).getD w.toNat 0=if w∈L then g (un.getD w.toNat 0) else un.getD w.toNat 0
 |[],un,w,_,_,_=>by simp[dX]
 |v::L,un,w,V,J,hw=>by
  obtain⟨h1,W⟩:=List.nodup_cons.1 V;have Y:=J v (.head _);have X:=ta (g:=g) L (un.set v.toNat (g (un.getD v.toNat 0))) w W (λu hu=>by rw[Z4];exact J u (.tail _ hu)) hw;have e:dX g un (v::L)=dX g (un.set v.toNat (g (un.getD v.toNat 0))) L:=rfl;rw[e,X];by_cases U:w=v
  .subst U;have I:(un.set w.toNat (g (un.getD w.toNat 0))).getD w.toNat 0=g (un.getD w.toNat 0):=by
    rw[u4 (l:=un.set _ _),c7 Ω];rfl
   rw[if_neg h1,if_pos (.head _),I]
  .have I:(un.set v.toNat (g (un.getD v.toNat 0))).getD w.toNat 0=un.getD w.toNat 0:=by
    rw[u4 (l:=un.set _ _),Y5 Ω,<-u4]
   rw[I];by_cases hm:w∈L
   .rw[if_pos hm,if_pos (.tail _ hm)]
   .rw[if_neg hm,if_neg λh=>(V0.1 h).elim U hm]
theorem qu (x:bP):(aK x).Nodup:=by
 unfold aK;refine List.Nodup.sublist List.filter_sublist ?_;exact List.Pairwise.map _ (λa b I=>Ω) List.nodup_range
theorem DC {k:Int} {g:Int->Int}:∀ (L un:Λ),(∀c∈un,0<=c/\c<=k)->L.Nodup->(∀v∈L,0<=v/\v<un.length)->(∀v∈L,0<=g (un.getD v.toNat 0)/\g (un.getD v.toNat 0)<=k)-> ∀c∈dX g un L,0<=c/\c<=k
 |[],un,h,_,_,_,c,I=>h c I
 |v::L,un,h,V,J,U,c,I=>by
  obtain⟨h1,W⟩:=List.nodup_cons.1 V;have X:=J v (.head _);refine DC (g:=g) L (un.set v.toNat (g (un.getD v.toNat 0))) (qo h (U v (.head _))) W (λu hu=>by rw[Z4];exact J u (.tail _ hu)) (λu hu=>?_) c I;have Y:u≠v:=λe=>h1 (e▸hu);have aa:=J u (.tail _ hu);rw[u4 (l:=un.set _ _),Y5 Ω,<-u4];exact U u (.tail _ hu)
section
variable {k:Int} {sizes a:Λ} {s:au}
def kl (s:au) (u:Nat) (x:bP) (g z:Int->Int):au:={eu s u x (dX g x.un (aK x)) with zero:=z s.zero}
theorem bH.NK (I:bH k sizes s) (h:0<=c/\c<=k):bH k sizes {s with zero:=c}:=⟨I.fc,I.gp,h,I.vars,I.var,I.funs⟩
theorem wR {u:Nat} {x:bP} {g z:Int->Int} (I:bH k sizes s) (J:s.vars[u]? =σ x) (U:∀v∈aK x,0<=g (x.un.getD v.toNat 0)/\g (x.un.getD v.toNat 0)<=k) (V:0<=z s.zero/\z s.zero<=k):bH k sizes (kl s u x g z):=by
 have X:=(x4.1 J).1;have Y:=I.vars;have h1:=I.var u x _ J (x6 Ω);exact (wO I J (s9 _ _) (DC _ _ h1.2.1 (qu x) (λv W=>(hd.1 W).1) U)).NK V
theorem DD {u:Nat} {x:bP} {g z:Int->Int} (I:bH k sizes s) (X:hC s a) (J:s.vars[u]? =σ x) (V:x.gone=0) (ad:∀v∈aK x,0<=g (x.un.getD v.toNat 0)/\g (x.un.getD v.toNat 0)<=k) (ae:0<=z s.zero/\z s.zero<=k)
  (af:∀v∈aK x,∀r,0<=r->min (r+g (x.un.getD v.toNat 0)+z s.zero) k=min (r+x.un.getD v.toNat 0+s.zero) k):dW k (kl s u x g z) a=dW k s a:=by
 have ag:=wR I J ad ae;have ao:=(x4.1 J).1;have ap:=I.vars;have aq:=X.1;obtain⟨bb,W⟩:=aF (l:=a) (i:=u) Ω;rw[nH ag,nH I];have U:(s.vars.zip a)[u]? =σ (x,bb):=List.getElem?_zip_eq_some.2 ⟨J,W⟩;obtain⟨un,Y⟩:∃un,un=dX g x.un (aK x):=⟨_,rfl⟩;have ah:((kl s u x g z).vars.zip a)=(s.vars.zip a).set u ({x with un:=un},bb):=by rw[Y];exact s7 W
 have ai:((s.vars.zip a).set u ({x with un:=un},bb)).all eK=(s.vars.zip a).all eK:=s8 U rfl;rw[ah,ai];split
 .rename_i aj;have ak:(((s.vars.zip a).set u ({x with un:=un},bb)).map dl).sum=((s.vars.zip a).map dl).sum-dl (x,bb)+dl ({x with un:=un},bb):=by
   rw[U1];exact wN (by rw[x8,U];rfl)
  have h1:=qs (s6 (a:=a) I) (i:=u) (x:=dl (x,bb)) (by rw[x8,U];rfl);have au:=qq _ (qt (a:=a) I);have aa:=List.all_eq_true.1 aj (x,bb) (x5 U);have ab:=(X.2 _ x bb J W).resolve_left Ω;have ac:bb∈aK x:=by
   rw[hd];refine⟨ab,?_⟩;unfold eK at aa;simpa[V] using aa
  have al:dl (x,bb)=x.un.getD bb.toNat 0:=by unfold dl;rw[if_neg (by simp[V])]
  have am:dl ({x with un:=un},bb)=g (x.un.getD bb.toNat 0):=by
   unfold dl;rw[if_neg (by simp[V])];show un.getD bb.toNat 0=_;rw[Y,ta _ _ _ (qu x) (λv an=>(hd.1 an).1) ab.1,if_pos ac]
  rw[ak,am];rw[al] at h1 ⊢;have av:=af bb ac (((s.vars.zip a).map dl).sum-x.un.getD bb.toNat 0+(s.funs.map (e1 a)).sum) Ω;show min (z s.zero+_+(s.funs.map (e1 a)).sum) k=_;omega
 .rfl
theorem NL {w:Int} (I:0<=v) (hw:0<=w):dropped ((m ||| 2 ^ v.toNat:Nat):Int) w=(dropped (m:Int) w||decide (w=v)):=by
 unfold dropped;rw[u9,u9,Nat.testBit_or,Nat.testBit_two_pow];congr 1;exact decide_eq_decide.2 ⟨λh=>Ω,λh=>Ω⟩
theorem mq {i:Nat} {x:bP} (I:s.vars[i]? =σ x):eU s i v.toNat={s with vars:=s.vars.set i {x with mask:=((x.mask.toNat ||| 2 ^ v.toNat:Nat):Int)}}:=by
 unfold eU;rw[I]
theorem wS {i:Nat} {x:bP} (I:bH k sizes s) (J:s.vars[i]? =σ x) (W:0<=v/\v<x.un.length):bH k sizes (eU s i v.toNat):=by
 rw[mq J];have X:=(x4.1 J).1;have Y:=I.vars;have h1:=I.var i x _ J (x6 Ω);have aa:=I.gp.2.2 _ (R5 (l:=sizes) (n:=i) Ω);refine I.sY J rfl h1.2.1 ⟨by simp only;omega,?_⟩;have U:x.mask.toNat<2 ^ 32:=by have:=h1.2.2;omega
 have V:2 ^ v.toNat<2 ^ 32:=Nat.pow_lt_pow_right Ω Ω;have:=Nat.or_lt_two_pow U V;simp only;omega
theorem DE {i:Nat} {bb:Int} {x:bP} (J:bH k sizes s) (ab:hC s a) (I:s.vars[i]? =σ x) (ac:x.gone=0) (X:0<=v/\v<x.un.length) (U:a[i]? =σ bb):dW k (eU s i v.toNat) a=if bb=v then k else dW k s a:=by
 have ad:=wS J I X;rw[nH ad,nH J];have V:(s.vars.zip a)[i]? =σ (x,bb):=List.getElem?_zip_eq_some.2 ⟨I,U⟩;have ae:=(ab.2 _ x bb I U).resolve_left Ω;obtain⟨y,W⟩:∃y:bP,y={x with mask:=((x.mask.toNat ||| 2 ^ v.toNat:Nat):Int)}:=⟨_,rfl⟩;have af:((eU s i v.toNat).vars.zip a)=(s.vars.zip a).set i (y,bb):=by rw[mq I,W];exact s7 U
 have Y:(eU s i v.toNat).zero=s.zero/\(eU s i v.toNat).funs=s.funs:=by rw[mq I];exact⟨rfl,rfl⟩
 have aa:eK (y,bb)=(eK (x,bb)&&decide (bb≠v)):=by
  unfold eK;rw[W];simp only[ac];rw[NL X.1 ae.1];have hm:((x.mask.toNat:Nat):Int)=x.mask:=by
   have al:=(x4.1 I).1;have am:=J.vars;have h1:=J.var i x _ I (x6 Ω);omega
  rw[hm];by_cases e:bb=v
  .simp[e]
  .simp[e]
 rw[af,Y.1,Y.2];by_cases e:bb=v
 .rw[if_pos e,if_neg];intro ag;have:=List.all_eq_true.1 ag (y,bb) (x5 (c7 (x4.1 V).1));rw[aa] at this;simp[e] at this
 .have ah:((s.vars.zip a).set i (y,bb)).all eK=(s.vars.zip a).all eK:=s8 V (by rw[aa];simp[e]);have ai:((s.vars.zip a).set i (y,bb)).map dl=(s.vars.zip a).map dl:=by
   rw[U1];have aj:dl (y,bb)=dl (x,bb):=by rw[W];rfl
   rw[aj];refine Y8 λq=>?_;rw[X0];split
   .rename_i ak;subst ak;split
    .rw[x8,V];rfl
    .rename_i h;rw[Z5 Ω]
   .rfl
  rw[if_neg e,ah,ai]
theorem DF {i:Nat} {bb:Int} {x:bP} (U:hC s a) (I:s.vars[i]? =σ x) (V:x.gone=0) (J:a[i]? =σ bb) (W:bb∉aK x):dW k s a=k:=by
 have X:=(U.2 _ x bb I J).resolve_left Ω;unfold dW;rw[if_neg];intro Y;have:=List.all_eq_true.1 Y (x,bb) (x5 (List.getElem?_zip_eq_some.2 ⟨I,J⟩));unfold eK at this;have aa:dropped x.mask bb=false:=by simpa[V] using this
 exact W (hd.2 ⟨X,aa⟩)
end
def mr (w:x3) (g:Nat) (k:Int) (sizes:Λ) (s:au):Prop:=∃szv I J U V W,ac w g a6 [Δ k,szv,Δ s.zero,I,J,U,V,W]/\aB .i64 w szv sizes/\Seen dY w [szv] sizes/\
 Seen dY w [I] (s.vars.map aK)/\Seen dY w [J] (s.vars.map λx=>decide (x.gone≠0))/\Seen dY w [U] (s.vars.map (·.un))/\Seen dY w [V] (s.funs.map hE)/\Seen dY w [W] (s.gG.map Db)
section
variable {w w':x3} {g:Nat} {v:x1} {k:Int} {sizes:Λ} {s:au}
theorem mr.ext (h:mr w g k sizes s) (I:Ext w w'):mr w' g k sizes s:=by
 obtain⟨szv,J,U,V,W,X,Y,h1,aa,ab,ac,ad,ae,af⟩:=h;exact⟨szv,J,U,V,W,X,Y.ext I,h1.ext I,bq aa I,bq ab I,bq ac I,bq ad I,bq ae I,bq af I⟩
theorem jB.box (h:jB w v k sizes s) (I:Ext w w') (J:ac w' g a6 v.cells.toList):mr w' g k sizes s:=by
 obtain⟨cs,rfl,szv,aa,ab,ad,ae,af,rfl,h1,U,V,W,X,Y,_⟩:=h;obtain⟨_,_,_,ag⟩:=df (dp h1);have c:∀ {α:Type} [ak α] {v:x1} {l:List α} {A:ah},ak.rep false A dY w [v] l-> ∃a n c,v= .slice a n c:=λh=>by
  obtain⟨_,_,_,_,_,⟨_,b,o,base,cap,e,_⟩,_⟩:=iS h;exact⟨_,_,_,e⟩
 obtain⟨_,_,_,ai⟩:=c U;obtain⟨_,_,_,aj⟩:=c V;obtain⟨_,_,_,al⟩:=c W;obtain⟨_,_,_,am⟩:=c X;obtain⟨_,_,_,an⟩:=c Y;refine⟨szv,aa,ab,ad,ae,af,?_,(dp h1).ext I,bq h1 I,bq U I,bq V I,bq W I,bq X I,bq Y I⟩;rw[ag,ai,aj,al,am,an] at J ⊢;exact J
theorem mr.load {K:x1->Prop} (h:mr w g k sizes s) (I:∀u,jB w u k sizes s->K u):U x7 (u5 a6 (Γ g)) w K:=by
 obtain⟨szv,J,V,W,X,Y,aa,h1,ab,ac,ad,ae,af,ag⟩:=h;rw[bI a6.p a6.i rfl aa.range];exact I _ ⟨_,rfl,szv,J,V,W,X,Y,rfl,ab,ac,ad,ae,af,ag,λh=>by cases h⟩
theorem wT {i:Int} (h:jB w v k sizes s):aj x7 Fa [v,Δ i] w λr w'=>r= .bool (decide (0<=i/\i<sizes.length))/\Ext w w':=by
 refine aw func22 ?_;refine bm λg1 J aa I U=>?_;obtain⟨szv,ab,ac,ad,ae,af,U,Y,_⟩:=h.box I U;refine aR (λv V=>v= .bool (decide (0<=i/\i<sizes.length))/\Ext w V) (λ_ _ h=>h) λav W=>?_;rw[cK,ai];refine⟨λX=>?_,λX=>W _ _ ⟨by rw[decide_eq_false];omega,I⟩⟩;rw[aD a6.p 1 U rfl,aV am.u Y,aP];refine W _ _ ⟨?_,I⟩;congr 1;exact decide_eq_decide.2 ⟨λh=>⟨X,h⟩,λh=>h.2⟩
theorem mu {m:Bool} {S R:ah} {cs:List x1} {f:cJ} (h:ak.rep (α:=iD) m S R w cs (hE f)):∃aJ szv aW,cs=[aJ,szv,aW,.bool (decide (f.live≠0))]/\Seen dY w [aJ] f.sc/\Seen dY w [szv] f.af/\Seen dY w [aW] f.cs:=by
 obtain⟨ae,V,A,B,rfl,_,_,_,⟨W,ag,aN,ai,rfl,_,_,_,h1,X,Y,aj,aa,rfl,_,_,_,I,J⟩,U⟩:=h;have one:∀ {α:Type} [ak α] {m:Bool} {S R:ah} {c:List x1} {l:List α},ak.rep m S R w c l-> ∃v,c=[v]:=λh=>by obtain⟨v,ab,_⟩:=h;exact⟨v,ab⟩
 have h1:Seen _ w W f.sc:=h1;have I:Seen _ w X f.af:=I;have U:V=[.bool (decide (f.live≠0))]:=U;have J:ak.rep m aa R w Y f.cs:=J;obtain⟨ac,rfl⟩:=one h1;obtain⟨ad,rfl⟩:=one I;obtain⟨v3,rfl⟩:=one J;subst U;exact⟨ac,ad,v3,rfl,ho h1,ho I,ho J⟩
theorem NM {j:Int} (h:jB w v k sizes s):aj x7 Gk [v,Δ j] w λr w'=>r= .bool (decide (0<=j)&&fX s j.toNat)/\Ext w w':=by
 refine aw func130 ?_;refine bm λg1 J ad I U=>?_;obtain⟨szv,ae,af,ag,ah,ak,U,al,_,_,_,_,Y,_⟩:=h.box I U;refine aR (λv V=>v= .bool (decide (0<=j)&&fX s j.toNat)/\Ext w V) (λ_ _ h=>h) λav W=>?_;rw[cK,ai];refine⟨λX=>?_,λX=>W _ _ ⟨by rw[decide_eq_false X];rfl,I⟩⟩;rw[aD a6.p 6 U rfl,gj e4.u Y,aP,ai,u7];refine⟨λam=>?_,λan=>W _ _ ⟨by unfold fX;rw[Z5 Ω,Bool.and_false],I⟩⟩;obtain⟨f,aa⟩:=aF (l:=s.funs) (i:=j.toNat) Ω;rw[aD a6.p 6 U rfl];refine jV (i:=j.toNat) Ω e4.u ed.i Y (by rw[x8,aa];rfl) λb o cs ab ac=>?_;obtain⟨ao,ap,v3,rfl,_⟩:=mu ac;rw[aT ed.p rfl,aA (v:=.bool (decide (f.live≠0))) Ψ (ab 3 _ rfl)];exact W _ _ ⟨by unfold fX;rw[aa,decide_eq_true X,T0],I⟩
end
theorem DG {T:Nat->Prop} (h:ae S w w') (k:ae T w w'):ae (λr=>S r/\T r) w w':=
 ⟨h.size,λr o J I V=>by
  by_cases U:S r
  .exact k.aX r o J I λW=>V ⟨U,W⟩
  .exact h.aX r o J I U⟩
theorem tb {A R:ah} {n:aQ} {s:au} {t:ay} (h:bJ w ab ad A R n s t):∀r,A r\/R r->r<w.heap.size:=λr I=>by
 obtain⟨V,W,X,Y,⟨_,_,J,U⟩,_⟩:=h.1;exact I.elim (U r) (J r)
structure cq (w:x3) (ab ad an:Nat) (A R:ah) (A9:Nat->ah) (aH:ah) (n:aQ) (s u:au) (t:ay) (h:List ay) (cs:List x1):Prop where
 et:bJ w ab ad A R n s t
 iC:ee t h
 box:ac w an a6 cs
 doc:h3 true A9 aH w cs n.k n.sizes u
 apart:∀q r,A9 q r->¬A r/\¬R r/\r≠an
 read:∀r,aH r->¬eE w r/\r<w.heap.size/\r≠an
 out:¬A an/\¬R an
section
variable {w w':x3} {ab ad an:Nat} {A R:ah} {A9:Nat->ah} {aH:ah} {n:aQ} {s u:au} {t:ay} {h:List ay} {cs:List x1}
theorem cq.ext (p:cq w ab ad an A R A9 aH n s u t h cs) (J:Ext w w'):cq w' ab ad an A R A9 aH n s u t h cs:=
 ⟨p.et.ext J,p.iC,p.box.ext J,p.doc.ext J,p.apart,λr U=>⟨λh=>(p.read r U).1 (ny (λo V I _=>J.aX r o V I) h),by have:=(p.read r U).2.1;have:=J.size;omega,(p.read r U).2.2⟩,p.out⟩
theorem cq.prog {aN R':ah} {s':au} {bp:ay} {h':List ay} (p:cq w ab ad an A R A9 aH n s u t h cs) (X:ae (eE w) w w') (V:Grow A w aN w') (ac:bJ w' ab ad aN R' n s' bp) (W:ee bp h') (Y:∀r,R' r->R r\/B<=r) (af:∀q r,A9 q r->r<w.heap.size->r<B) (ak:an<B):
  cq w' ab ad an aN R' (λq r=>A9 q r/\r<w.heap.size) aH n s' u bp h' cs:=by
 have al:=p.box.lt;have z:=X.size;refine⟨ac,W,p.box.aa V.1 p.out.1,ca.aa p.doc.old (DG X V.1) λr U h W=>?_,λq r h=>⟨λJ=>?_,λU=>(Y r U).elim (p.apart q r h.1).2.1 λag=>by have:=af q r h.1 h.2;omega,(p.apart q r h.1).2.2⟩,λr U=>⟨λh=>?_,by have:=(p.read r U).2.1;omega,(p.read r U).2.2⟩,λJ=>?_,λU=>(Y an U).elim p.out.2 λag=>Ω⟩
 .rcases h with⟨q,h⟩|h
  .exact (p.apart q r h.1).1 W.2
  .exact (p.read r h).1 W.1
 .rcases V.2.1 r J with J|J
  .exact (p.apart q r h.1).1 J
  .have:=h.2;omega
 .exact (p.read r U).1 (ny (λo ai I aj=>X.aX r o ai I aj) h)
 .rcases V.2.1 an J with J|J
  .exact p.out.1 J
  .omega
theorem cq.NN {S:ah} {cD:Nat->ah} {u':au} {b7:List x1} (p:cq w ab ad an A R A9 aH n s u t h cs) (V:ae S w w') (Y:∀r,r<w.heap.size->S r->(∃q,A9 q r)\/r=an) (af:ac w' an a6 b7) (ag:h3 true cD aH w' b7 n.k n.sizes u') (ai:∀q r,cD q r->(∃W,A9 W r)\/(¬A r/\¬R r/\r≠an)):
  cq w' ab ad an A R cD aH n s u' t h b7:=by
 have am:=p.box.lt;have z:=V.size;have aj:∀q r,A9 q r->¬aH r:=by obtain⟨_,_,_,_,_,_,_,_,_,_,_,_,_,ak⟩:=p.doc;exact (ak rfl).2
 refine⟨⟨p.et.1.aa V λr U h I=>?_,p.et.2⟩,p.iC,af,ag,λq r h=>?_,λr U=>⟨λh=>(p.read r U).1 (ny (λo al I _=>V.aX r o al I λJ=>?_) h),by have:=(p.read r U).2.1;omega,(p.read r U).2.2⟩,p.out⟩
 .rcases Y r U I with⟨q,J⟩|J
  .exact h.elim (p.apart q r J).1 (p.apart q r J).2.1
  .subst J;exact h.elim p.out.1 p.out.2
 .rcases ai q r h with⟨W,J⟩|J
  .exact p.apart W r J
  .exact J
 .rcases Y r (p.read r U).2.1 J with⟨q,X⟩|X
  .exact aj q r X U
  .exact (p.read r U).2.2 X
theorem cq.NO {S:ah} {cD:Nat->ah} {u':au} {b7:List x1} (p:cq w ab ad an A R A9 aH n s u t h cs) (J:∀r,A r\/R r->r<B) (af:an<B) (U:ae S w w') (V:∀r,r<w.heap.size->S r->(∃q,A9 q r)\/r=an) (W:ac w' an a6 b7) (X:h3 true cD aH w' b7 n.k n.sizes u') (Y:∀q r,cD q r->(∃aa,A9 aa r)\/B<=r):
  cq w' ab ad an A R cD aH n s u' t h b7:=
 p.NN U V W X λq r h=>(Y q r h).imp id λag=>⟨λI=>by have:=J r (.inl I);omega,λI=>by have:=J r (.inr I);omega,Ω⟩
theorem cq.DH {S:ah} {cD:Nat->ah} {u':au} {b7:List x1} (p:cq w ab ad an A R A9 aH n s u t h cs) (I:ae S w w') (J:∀r,r<w.heap.size->S r->(∃q,A9 q r)\/r=an) (U:ac w' an a6 b7) (V:h3 true cD aH w' b7 n.k n.sizes u') (W:∀q r,cD q r->(∃X,A9 X r)\/w.heap.size<=r):
  cq w' ab ad an A R cD aH n s u' t h b7:=p.NO (tb p.et) p.box.lt I J U V W
theorem cq.look (p:cq w ab ad an A R A9 aH n s u t h cs):mr w an n.k n.sizes u:=by
 refine jB.box p.doc.Nb (Ext.refl _) ?_;have:=p.box;exact this
theorem cq.oW (p:cq w ab ad an A R A9 aH n s u t h cs):∃szv I J U V W,cs=[Δ n.k,szv,Δ u.zero,I,J,U,V,W]/\aB .i64 w szv n.sizes:=by
 obtain⟨szv,I,J,U,V,W,h1,X,_⟩:=p.doc;exact⟨szv,I,J,U,V,W,h1,dp X⟩
end
end Go.Proofs.YtjjhhcfgfdepdaaGreatDoor
namespace Go.Vc
open Go Go.RowKit
section
variable {P:W0} {w:x3} {α:Type} [ak α] {S R:ah}
theorem tc {v:x1} {l:List α} {i:Nat} {a:α} (h:bx S R w [v] l) (af:l[i]? =σ a) (ax:∀r,r<w.heap.size->S r->¬R r):∃g cap c F,v= .slice (σ ⟨g,0,ν⟩) l.length cap/\w.rangeAt g (i*ak.n α) c/\bx F R w c a/\(∀r,F r->S r)/\
  ∀ {w':x3} {a':α} {T W:ah},ae T w w'->(∀r,r<w.heap.size->T r->F r)->bx W R w' c a'->(∀r,W r->F r\/w.heap.size<=r)->bx (λr=>S r\/w.heap.size<=r) R w' [v] (l.set i a'):=by
 have aJ:=(x4.1 af).1;obtain⟨vs,g,F,U,he,I,hm⟩:=iS h;obtain⟨ay,ag,ai⟩:=hm rfl;obtain⟨aK,⟨rfl,aL⟩|⟨cap,full,rfl,aj,aM,aN,aO,aP⟩⟩:=id ai
 .omega
 have az:vs.length=l.length:=he.1;have al:S g:=ay.resolve_left Ξ;obtain⟨c,Y⟩:∃c,vs[i]? =σ c:=⟨_,x6 Ω⟩;have aA:=he.2 i c a Y af;refine⟨g,cap,c,F i,rfl,?_,aA,λr J=>U.sub i r J,λ{w' a' T W} am an ao ab=>?_⟩
 .obtain⟨_,aQ,o',aR,aS,aB,_,_,aC,_,aD⟩:=I;cases aB;cases aC Ω;intro j u aE;have ap:=aD (i*ak.n α+j) u (by rw[<-List.flatMap_id];exact oF (f:=id) (k:=ak.n α) (λx aF=>he.len x aF) Y aE);rw[X1] at ap;exact ap
 have aG:¬T g:=λh=>U.top rfl i (an g aj.lt h);have aT:=ak.len ao;have aU:vs.set i c=vs:=by
  refine Y8 λq=>?_;rw[X0];by_cases aq:i=q
  .subst aq;rw[if_pos rfl,if_pos Ω,Y]
  .rw[if_neg aq]
 have au:bT w' g ag (ak.n α) (.slice (σ ⟨g,0,ν⟩) l.length cap) (l.set i a').length vs.flatten:=by
  rw[Z4];exact ai.aa am λ_=>aG
 refine⟨_,rfl,vs,g,λj r=>if j=i then W r else F j r/\r<w.heap.size,⟨λj r J=>?_,λ_ j J=>?_,λ_ j q r aH h1 V=>?_⟩,⟨by simp[az],λj av aw ad ac=>?_⟩,?_,λ_=>⟨.inr (.inl al),ag,au⟩⟩
 .split at J
  .exact (ab r J).imp (U.sub i r) id
  .exact .inl (U.sub j r J.1)
 .split at J
  .rcases ab g J with h|h
   .exact U.top rfl i h
   .have:=aj.lt;omega
  .exact U.top rfl j J.1
 .split at h1<;>split at V
  .omega
  .rcases ab r h1 with h|h
   .rename_i e _;exact U.gi rfl i q r Ω h V.1
   .have:=V.2;omega
  .rcases ab r V with h|h
   .exact U.gi rfl j i r Ω h1.1 h
   .have:=h1.2;omega
  .exact U.gi rfl j q r aH h1.1 V.1
 .by_cases X:j=i
  .subst X;rw[Y] at ad;rw[c7 Ω] at ac;cases ad;cases ac;exact ak.mono ao (λr _ h=>by simpa using h) λ_ _ h=>h
  .rw[Y5 (Ne.symm X)] at ac;have aI:bx (λr=>if j=i then W r else F j r/\r<w.heap.size) R w av aw:=ak.mono (he.2 j av aw ad ac) (λr J h=>by rw[if_neg X];exact⟨h,J⟩) λ_ _ h=>h;refine ak.aa aI am λr J h1 V=>?_;have V:=an r J V;rcases h1 with h1|h1
   .simp only[if_neg X] at h1;exact U.gi rfl j i r X h1.1 V
   .exact ax r J (U.sub i r V) h1
 .have:=od (S:=λr=>(S r\/w.heap.size<=r)\/R r) au (.inr (.inl (.inl al)));exact this
theorem NP {v:x1} {l:List α} {i:Nat} {a:α} (h:bx S R w [v] l) (an:l[i]? =σ a) (ao:∀r,r<w.heap.size->S r->¬R r):∃g cap full W c F,v= .slice (σ ⟨g,0,ν⟩) l.length cap/\ac w g W full/\S g/\i*ak.n α+ak.n α<=full.length/\(∀ (q:Nat) x,c[q]? =σ x->full[i*ak.n α+q]? =σ x)/\bx F R w c a/\(∀r,F r->S r)/\¬F g/\
  ∀ {w':x3} {a':α} {X:List x1} {T ab:ah},ae T w w'->(∀r,r<w.heap.size->T r->F r\/r=g)->ac w' g W (over full (i*ak.n α) X)->bx ab R w' X a'->(∀r,ab r->F r\/w.heap.size<=r)->bx (λr=>S r\/w.heap.size<=r) R w' [v] (l.set i a'):=by
 have aC:=(x4.1 an).1;obtain⟨vs,g,F,V,he,I,hm⟩:=iS h;obtain⟨aD,W,aE⟩:=hm rfl;obtain⟨aQ,⟨rfl,aR⟩|⟨cap,full,rfl,ap,aq,aF,au,av⟩⟩:=id aE
 .omega
 have aw:vs.length=l.length:=he.1;have af:S g:=aD.resolve_left Ξ;obtain⟨c,aj⟩:∃c,vs[i]? =σ c:=⟨_,x6 Ω⟩;have aG:=he.2 i c a aj an;have aH:(i+1)*ak.n α<=l.length*ak.n α:=X5 _ aC;have aI:l.length*ak.n α<=full.length:=by rw[au];exact X5 _ aq
 rw[V8,Nat.one_mul] at aH;refine⟨g,cap,full,W,c,F i,rfl,ap,af,Ω,λq x ax=>?_,aG,λr U=>V.sub i r U,V.top rfl i,λ{w' a' X T ab} aJ aK aL ay ag=>?_⟩
 .have al:=oF (f:=id) (k:=ak.n α) (λx aM=>he.len x aM) aj ax;rw[List.flatMap_id,<-av] at al;have aS:=(x4.1 ax).1;have am:=he.len c (x5 aj);rw[Y3 Ω] at al;exact al
 have am:=ak.len ay;have aN:∀c∈vs.set i X,c.length=ak.n α:=λc Y=>by
  rcases X6 Y with J|rfl
  .exact he.len c J
  .exact am
 have az:bT w' g W (ak.n α) (.slice (σ ⟨g,0,ν⟩) l.length cap) (l.set i a').length (vs.set i X).flatten:=by
  refine⟨by rw[pw aN,Z4,Z4,aw],.inr ⟨cap,_,by rw[Z4],aL,by rw[Z4];exact aq,aF,by rw[l0,au],?_⟩⟩;rw[Z4,r7 Ω aI,av,C9 he.len am Ω]
 refine⟨_,rfl,vs.set i X,g,λj r=>if j=i then ab r else F j r/\r<w.heap.size,⟨λj r U=>?_,λ_ j U=>?_,λ_ j q r aO h1 J=>?_⟩,⟨by simp[aw],λj aA aB Y ai=>?_⟩,?_,λ_=>⟨.inr (.inl af),W,az⟩⟩
 .split at U
  .exact (ag r U).imp (V.sub i r) id
  .exact .inl (V.sub j r U.1)
 .split at U
  .rcases ag g U with h|h
   .exact V.top rfl i h
   .have:=ap.lt;omega
  .exact V.top rfl j U.1
 .split at h1<;>split at J
  .omega
  .rcases ag r h1 with h|h
   .rename_i e _;exact V.gi rfl i q r Ω h J.1
   .have:=J.2;omega
  .rcases ag r J with h|h
   .exact V.gi rfl j i r Ω h1.1 h
   .have:=h1.2;omega
  .exact V.gi rfl j q r aO h1.1 J.1
 .by_cases ad:j=i
  .subst ad;rw[c7 Ω] at Y;rw[c7 Ω] at ai;cases Y;cases ai;exact ak.mono ay (λr _ h=>by simpa using h) λ_ _ h=>h
  .rw[Y5 (Ne.symm ad)] at Y ai;have aP:bx (λr=>if j=i then ab r else F j r/\r<w.heap.size) R w aA aB:=ak.mono (he.2 j aA aB Y ai) (λr U h=>by rw[if_neg ad];exact⟨h,U⟩) λ_ _ h=>h;refine ak.aa aP aJ λr U h1 J=>?_;have J:=aK r U J;rcases h1 with h1|h1
   .simp only[if_neg ad] at h1;rcases J with J|rfl
    .exact V.gi rfl j i r ad h1.1 J
    .exact V.top rfl j h1.1
   .rcases J with J|rfl
    .exact ao r U (V.sub i r J) h1
    .exact ao r U af h1
 .have:=od (S:=λr=>(S r\/w.heap.size<=r)\/R r) az (.inr (.inl (.inl af)));exact this
end
end Go.Vc
namespace Go.Proofs.YtjjhhcfgfdepdaaGreatDoor
open Go Go.Vc Go.RowKit Go.Proofs Go.Proofs.Tryz
set_option maxRecDepth 100000
section
variable {w0 w:x3} {ab ad an ga:Nat} {A R:ah} {A9 cD:Nat->ah} {aH:ah} {n:aQ} {s u:au} {t:ay} {h:List ay} {cs b7:List x1} {aI aJ k3:x1} {Q:x1->x3->Prop}
theorem cq.olds (p:cq w0 ab ad an A R A9 aH n s u t h cs):cq w0 ab ad an A R (λq r=>A9 q r/\r<w0.heap.size) aH n s u t h cs:=
 ⟨p.et,p.iC,p.box,p.doc.old,λq r I=>p.apart q r I.1,p.read,p.out⟩
end
theorem td {α β:Type} {l:List α} {i:Nat} {a b:α} {f:α->β} (h:l[i]? =σ a) (J:f b=f a):(l.set i b).map f=l.map f:=by
 rw[U1,J];refine Y8 λq=>?_;rw[X0];by_cases I:i=q
 .subst I;rw[if_pos rfl,x8,h,if_pos (by rw[u7];exact (x4.1 h).1)];rfl
 .rw[if_neg I]
theorem wU {T:Nat->Prop} (h:ae T w w'):ae (λr=>T r/\r<w.heap.size) w w':=⟨h.size,λr o J I U=>h.aX r o J I λV=>U ⟨V,(o9.1 J).1⟩⟩
section
variable {w0 w w':x3} {ab ad an ga:Nat} {A R:ah} {A9:Nat->ah} {aH:ah} {n:aQ} {s u u':au} {t:ay} {h:List ay} {cs:List x1} {aI aJ k3 v:x1} {Q:x1->x3->Prop}
theorem ca.pI {m:Bool} {zero:Int} {D:List (Λ)} {G:List Bool} {aU:List (Λ)} {H:List iD} {E:List nD} {i:Nat} (I:cs[i]? =σ v) (h:ca m A9 aH w (cs.set i v) k sizes zero D G aU H E):ca m A9 aH w cs k sizes zero D G aU H E:=by
 have:cs.set i v=cs:=by
  refine Y8 λq=>?_;rw[X0];by_cases J:i=q
  .subst J;have:=(x4.1 I).1;rw[if_pos rfl,if_pos this,I]
  .rw[if_neg J]
 rw[this] at h;exact h
theorem cq.row {T:ah} {cD:Nat->ah} {q:Nat} (p:cq w ab ad an A R A9 aH n s u t h cs) (I:ae T w w') (J:∀r,r<w.heap.size->T r->A9 q r) (U:h3 true cD aH w' cs n.k n.sizes u') (V:∀q r,cD q r->(∃W,A9 W r)\/w.heap.size<=r):
  cq w' ab ad an A R cD aH n s u' t h cs:=
 p.DH I (λr X h=>.inl ⟨q,J r X h⟩) (p.box.aa I λh=>(p.apart q an (J an p.box.lt h)).2.2 rfl) U V
theorem wV {q:Nat} {B:ah} (I:∀r,B r->A9 q r\/w.heap.size<=r):∀j r,h4 A9 q B j r->(∃J,A9 J r)\/w.heap.size<=r:=λj r h=>by
 unfold h4 at h;split at h
 .exact (I r h).imp (λh=>⟨q,h⟩) id
 .exact .inl ⟨j,h⟩
end
theorem NQ {full c:List x1} {o q:Nat} {x:x1} (U:∀ (k:Nat) y,c[k]? =σ y->full[o+k]? =σ y) (V:o+c.length<=full.length) (W:q<c.length):full.set (o+q) x=over full o (c.set q x):=by
 refine Y8 λk=>?_;rw[n8 _ _ _ (by rw[Z4];exact V),X0,Z4];by_cases h1:o<=k/\k<o+c.length
 .rw[if_pos h1,X0];by_cases I:o+q=k
  .rw[if_pos I,if_pos Ω,if_pos Ω,if_pos Ω]
  .rw[if_neg I,if_neg Ω];have J:k-o<c.length:=Ω
   have:=U (k-o) c[k-o] (x6 J);rw[x6 J,<-this];congr 1;omega
 .rw[if_neg h1,if_neg Ω]
section
variable {w0 w w':x3} {ab ad an ga:Nat} {A R:ah} {A9:Nat->ah} {aH:ah} {n:aQ} {s u u':au} {t:ay} {h:List ay} {cs:List x1} {aI aJ k3 v:x1} {Q:x1->x3->Prop}
theorem cq.gi (p:cq w ab ad an A R A9 aH n s u t h cs):(∀i j r,i≠j->A9 i r->¬A9 j r)/\ ∀i r,A9 i r->¬aH r:=by
 obtain⟨_,_,_,_,_,_,_,_,_,_,_,_,_,I⟩:=p.doc;exact I rfl
theorem cq.NR {T:ah} (p:cq w ab ad an A R A9 aH n s u t h cs) (W:∀q r,A9 q r->r<w.heap.size) (X:cs[6]? =σ v) (J:ae T w w') (U:∀r,r<w.heap.size->T r->A9 3 r) (Y:bx (λr=>A9 3 r\/w.heap.size<=r) aH w' [v] (u'.funs.map hE))
  (aa:u'.zero=u.zero) (ac:u'.vars=u.vars) (af:u'.gG=u.gG):∃cD,cq w' ab ad an A R cD aH n s u' t h cs/\ ∀q r,cD q r->(∃ag,A9 ag r)\/w.heap.size<=r:=by
 have ai:=ca.kk p.doc (wU J) (λr I=>.inl (U r I.2 I.1)) Y (λj r aj I=>?_) (λr I=>?_)
 .have V:=wV (w:=w) (A9:=A9) (q:=3) (B:=λr=>A9 3 r\/w.heap.size<=r) λr h=>h;refine⟨_,p.row J U ?_ V,V⟩;have:=ca.pI X ai;unfold h3;rw[aa,ac,af];exact this
 .rcases I with I|I
  .exact p.gi.1 3 j r (Ne.symm aj) I
  .exact λh=>by have:=W j r h;omega
 .rcases I with I|I
  .exact p.gi.2 3 r I
  .exact λh=>by have:=(p.read r h).2.1;omega
end
theorem NS {m:Int} {w:Int} (I:0<=v) (hw:0<=w):dropped (((m.toNat ||| 2 ^ v.toNat:Nat):Int)) w=(dropped m w||decide (w=v)):=by
 unfold dropped;rw[u9,Nat.testBit_or,Nat.testBit_two_pow];congr 1;exact decide_eq_decide.2 ⟨λh=>Ω,λh=>Ω⟩
theorem DI {x:bP} (I:0<=v):aK {x with mask:=((x.mask.toNat ||| 2 ^ v.toNat:Nat):Int)}=(aK x).filter λy=>!decide (y=v):=by
 unfold aK;rw[List.filter_filter];refine List.filter_congr λy J=>?_;obtain⟨q,_,rfl⟩:=o8.1 J;rw[NS I Ω];cases dropped x.mask (q:Int)<;>simp
section
variable {w0 w w':x3} {ab ad an ga:Nat} {A R:ah} {A9:Nat->ah} {aH:ah} {n:aQ} {s u u':au} {t:ay} {h:List ay} {cs:List x1} {aI aJ k3 v:x1} {Q:x1->x3->Prop}
theorem cq.oX {T:ah} (p:cq w ab ad an A R A9 aH n s u t h cs) (W:∀q r,A9 q r->r<w.heap.size) (X:cs[3]? =σ v) (J:ae T w w') (U:∀r,r<w.heap.size->T r->A9 0 r) (Y:bx (λr=>A9 0 r\/w.heap.size<=r) aH w' [v] (u'.vars.map aK))
  (aa:u'.zero=u.zero) (ac:u'.vars.map (·.un)=u.vars.map (·.un)) (af:(u'.vars.map λx=>decide (x.gone≠0))=u.vars.map λx=>decide (x.gone≠0)) (ag:u'.funs=u.funs) (ai:u'.gG=u.gG):
  ∃cD,cq w' ab ad an A R cD aH n s u' t h cs/\ ∀q r,cD q r->(∃aj,A9 aj r)\/w.heap.size<=r:=by
 have ak:=ca.Dc p.doc (wU J) (λr I=>.inl (U r I.2 I.1)) Y (λj r al I=>?_) (λr I=>?_)
 .have V:=wV (w:=w) (A9:=A9) (q:=0) (B:=λr=>A9 0 r\/w.heap.size<=r) λr h=>h;refine⟨_,p.row J U ?_ V,V⟩;have:=ca.pI X ak;unfold h3;rw[aa,ac,af,ag,ai];exact this
 .rcases I with I|I
  .exact p.gi.1 0 j r (Ne.symm al) I
  .exact λh=>by have:=W j r h;omega
 .rcases I with I|I
  .exact p.gi.2 0 r I
  .exact λh=>by have:=(p.read r h).2.1;omega
end
section
variable {w0 w w':x3} {ab ad an ga:Nat} {A R:ah} {A9:Nat->ah} {aH:ah} {n:aQ} {s u u':au} {t:ay} {h:List ay} {cs:List x1} {aI aJ k3 v:x1} {Q:x1->x3->Prop}
theorem NT {F:ah} {c:List x1} {f:cJ} (h:bx (α:=iD) F R w c (hE f)) (ac:∀r,F r->¬R r):∃aJ szv aW J,c=[aJ,szv,aW,.bool (decide (f.live≠0))]/\bx J R w [aW] f.cs/\(∀r,J r->F r)/\
  ∀ {w':x3} {b7:Λ},ae J w w'->bx J R w' [aW] b7->bx (α:=iD) F R w' c (hE {f with cs:=b7}):=by
 obtain⟨aE,ao,A,B,rfl,ad,ap,aq,h1,V⟩:=h;obtain⟨au,aF,aN,av,rfl,aw,af,ag,ai,ax⟩:=h1;obtain⟨ay,az,aA,W,rfl,aB,X,aj,al,am⟩:=ax;have V:ao=[.bool (decide (f.live≠0))]:=V;subst V;obtain⟨Y,rfl⟩:=W6.1 (show au.length=1 from ak.len ai);obtain⟨U,rfl⟩:=W6.1 (show ay.length=1 from ak.len al);obtain⟨v3,rfl⟩:=W6.1 (show az.length=1 from ak.len am);have ab:∀r,W r->F r:=λr h=>ad r (af r (X r h));refine⟨Y,U,v3,W,rfl,am,ab,λ{w' b7} an aC=>?_⟩;refine⟨[Y,U,v3],[.bool (decide (f.live≠0))],A,B,rfl,ad,ap,aq,⟨[Y],[U,v3],aN,av,rfl,aw,af,ag,ak.aa ai an λr aD I he=>?_,[U],[v3],aA,W,rfl,aB,X,aj,ak.aa al an λr aD I he=>?_,aC⟩,rfl⟩
 .exact I.elim (λI=>ag rfl r I (X r he)) (ac r (ab r he))
 .exact I.elim (λI=>aj rfl r I he) (ac r (ab r he))
end
theorem dj.vars {s:au} {i:Nat} {x y:bP} (h:dj s) (W:s.vars[i]? =σ x) (X:y.gone=x.gone):dj {s with vars:=s.vars.set i y}:=λf J U v V z I=>by
 have I:(s.vars.set i y)[v.toNat]? =σ z:=I;rw[X0] at I;split at I
 .rename_i e;split at I
  .cases I;subst e;rw[X];exact h f J U v V x W
  .cases I
 .exact h f J U v V z I
theorem dj.funs {s:au} {f g:cJ} (h:dj s) (X:s.funs[j]? =σ f) (I:g.sc=f.sc) (Y:g.live≠0->f.live≠0):dj {s with funs:=s.funs.set j g}:=λx J U v V z W=>by
 rcases X6 J with J|rfl
 .exact h x J U v V z W
 .exact h f (x5 X) (Y U) v (by rw[<-I];exact V) z W
structure gM where
 kind:Nat
 i:Int
 pos:Int
 v:Int
 c:Int
def dG (s:au) (i v:Int):Option bP:=if 0<=i then match s.vars[i.toNat]? with
 |some x=>if x.gone=0/\v∈aK x then σ x else ν
 |none=>ν else ν
def ds (s:au) (j pos v:Int):Option (cJ×Int×bP):=if 0<=j/\0<=pos then match s.funs[j.toNat]? with
 |some f=>if f.live≠0 then match f.sc[pos.toNat]? with
  |some u=>(dG s u v).map λx=>(f,u,x)
  |none=>ν
  else ν
 |none=>ν else ν
def fY (k:Int) (s:au) (f:cJ) (pos:Nat) (v:Int):Int:=((cb s f.sc pos v).map (bl f.af f.cs)).foldl min k
def cZ (k c most:Int):Int:=if ¬(0<=c/\c<=k) then 3 else if most<c then 7 else 0
def iF (x:bP):Int:=match (aK x).map λv=>x.un.getD v.toNat 0 with
 |[]=>-1
 |c::l=>l.foldl min c
def fe (s:au) (i:Nat) (v:Int):Λ->au
 |[]=>s
 |w::L=>fe (if w≠v then eU s i w.toNat else s) i v L
def b0 (k:Int) (s:au) (a:gM):au×Int:=
 if a.kind=0 then match ds s a.i a.pos a.v with
  |none=>(s,1)
  |some (f,u,x)=>if cZ k a.c (fY k s f a.pos.toNat a.v)≠0 then (s,cZ k a.c (fY k s f a.pos.toNat a.v)) else (iE s a.i.toNat f a.pos.toNat u.toNat x a.v (λg=>dD k g a.c) λg=>dE k g a.c,0)
 else if a.kind=1 then match ds s a.i a.pos a.v with
  |none=>(s,1)
  |some (f,u,x)=>if cZ k a.c (x.un.getD a.v.toNat 0)≠0 then (s,cZ k a.c (x.un.getD a.v.toNat 0)) else (iE s a.i.toNat f a.pos.toNat u.toNat x a.v (λg=>dE k g a.c) λg=>dD k g a.c,0)
 else if a.kind=2 then match (if 0<=a.i then s.vars[a.i.toNat]? else ν) with
  |none=>(s,1)
  |some x=>if x.gone≠0 then (s,1) else if cZ k a.c (iF x)≠0 then (s,cZ k a.c (iF x)) else (kl s a.i.toNat x (λg=>dD k g a.c) λg=>dE k g a.c,0)
 else if a.kind=3 then match (if 0<=a.i then s.vars[a.i.toNat]? else ν) with
  |none=>(s,1)
  |some x=>if x.gone≠0 then (s,1) else if cZ k a.c (if aK x=[] then-1 else s.zero)≠0 then (s,cZ k a.c (if aK x=[] then-1 else s.zero)) else (kl s a.i.toNat x (λg=>dE k g a.c) λg=>dD k g a.c,0)
 else if a.kind=4 then match dG s a.i a.v with
  |none=>(s,1)
  |some x=>if dE k s.zero (x.un.getD a.v.toNat 0)<k then (s,7) else (eU s a.i.toNat a.v.toNat,0)
 else match dG s a.i a.v with
  |none=>(s,1)
  |some x=>(fe s a.i.toNat a.v (aK x),0)
theorem oY:∀ (l:Λ) (z c:Int),c<=l.foldl min z↔c<=z/\ ∀x∈l,c<=x
 |[],z,c=>Ξ
 |a::l,z,c=>by
  rw[List.foldl_cons,oY l (min z a) c];rw[List.forall_mem_cons];exact⟨λ⟨h1,I⟩=>⟨Ω,Ω,I⟩,λ⟨h1,I,J⟩=>⟨Ω,J⟩⟩
theorem mv {most:Int} (h:¬cZ k c most≠0):(0<=c/\c<=k)/\c<=most:=by
 unfold cZ at h;split at h
 .exact absurd Φ h
 .rename_i h1;split at h
  .exact absurd Φ h
  .exact⟨Y4.1 h1,Ω⟩
theorem h6 {s:au} {i:Int} {x:bP} (h:dG s i v=σ x):0<=i/\s.vars[i.toNat]? =σ x/\x.gone=0/\v∈aK x:=by
 unfold dG at h;split at h
 .rename_i J;split at h
  .rename_i y U;split at h
   .rename_i I;cases h;exact⟨J,U,I.1,I.2⟩
   .cases h
  .cases h
 .cases h
theorem jb {s:au} {j pos u:Int} {f:cJ} {x:bP} (h:ds s j pos v=σ (f,u,x)):0<=j/\0<=pos/\s.funs[j.toNat]? =σ f/\f.live≠0/\f.sc[pos.toNat]? =σ u/\dG s u v=σ x:=by
 unfold ds at h;split at h
 .rename_i J;split at h
  .rename_i g U;split at h
   .rename_i V;split at h
    .rename_i w hw;cases I:dG s w v with
     |none=>rw[I] at h;cases h
     |some y=>
      rw[I] at h;cases h;exact⟨J.1,J.2,U,V,hw,I⟩
    .cases h
   .cases h
  .cases h
 .cases h
section
variable {k:Int} {sizes a:Λ} {s:au}
theorem mw {g:Int} (I:0<=g/\g<=k) (J:0<=c/\c<=g):0<=dD k g c/\dD k g c<=k:=by
 unfold dD;split<;>omega
theorem my {g:Int} (I:0<=g/\g<=k) (J:0<=c):0<=dE k g c/\dE k g c<=k:=by
 unfold dE;omega
theorem gN {u:Nat} {v:Nat} {x:bP} (I:bH k sizes s) (J:s.vars[u]? =σ x):0<=x.un.getD v 0/\x.un.getD v 0<=k:=by
 have hk:=I.fc;have U:=(x4.1 J).1;have V:=I.vars;exact Dv Ω (I.var u x _ J (x6 Ω)).2.1
theorem lL {f:cJ} (I:bH k sizes s) (J:f∈s.funs):0<=bl f.af f.cs t/\bl f.af f.cs t<=k:=(sD I.fc λc U=>⟨I.fc,(I.funs f J).1.hA c U⟩).2
theorem wW {x:bP} (h:v∈aK x) (I:c<=iF x):c<=x.un.getD v.toNat 0:=by
 unfold iF at I;have hm:x.un.getD v.toNat 0∈(aK x).map λv=>x.un.getD v.toNat 0:=o8.2 ⟨v,h,rfl⟩;generalize (aK x).map (λv=>x.un.getD v.toNat 0)=l at I hm;cases l with
 |nil=>cases hm
 |cons b l=>
  have h1:=(oY l b c).1 I;rcases V0.1 hm with J|J
  .rw[J];exact h1.1
  .exact h1.2 _ J
theorem qv {i:Nat} {v:Int} {x:bP}:∀ (L:Λ) (s:au),bH k sizes s->s.vars[i]? =σ x->(∀w∈L,0<=w/\w<x.un.length)->bH k sizes (fe s i v L)/\(dj s->dj (fe s i v L))/\
  ∀bb,hC s a->x.gone=0->a[i]? =σ bb->dW k (fe s i v L) a=if bb∈L/\bb≠v then k else dW k s a
 |[],s,W,J,_=>⟨W,id,λbb _ _ _=>by rw[if_neg Ξ];rfl⟩
 |w::L,s,W,J,aa=>by
  unfold fe;by_cases hw:w≠v
  .rw[if_pos hw];have ad:=aa w (.head _);have ag:=wS W J ad;have ae:=(x4.1 J).1;have ah:(eU s i w.toNat).vars[i]? =σ {x with mask:=((x.mask.toNat ||| 2 ^ w.toNat:Nat):Int)}:=by rw[mq J];exact c7 ae
   obtain⟨h1,ab,ac⟩:=qv L (eU s i w.toNat) ag ah λu hu=>aa u (.tail _ hu);refine⟨h1,λai=>ab ?_,λbb U X Y=>?_⟩
   .rw[mq J];exact dj.vars ai J rfl
   .have aj:hC (eU s i w.toNat) a:=by
     rw[mq J];refine⟨by show a.length=(s.vars.set _ _).length;rw[Z4];exact U.1,λq y b V af=>?_⟩;have V:(s.vars.set i {x with mask:=((x.mask.toNat ||| 2 ^ w.toNat:Nat):Int)})[q]? =σ y:=V;by_cases e:i=q
     .subst e;rw[c7 ae] at V;cases V;exact U.2 i x b J af
     .rw[Y5 e] at V;exact U.2 q y b V af
    rw[ac bb aj X Y,DE W U J X ad Y];by_cases e:bb=w
    .subst e;rw[if_pos rfl,if_pos (show bb∈bb::L/\bb≠v from⟨.head _,hw⟩)];split<;>rfl
    .rw[if_neg e];by_cases I:bb∈L/\bb≠v
     .rw[if_pos I,if_pos ⟨.tail _ I.1,I.2⟩]
     .rw[if_neg I,if_neg λh=>I ⟨(V0.1 h.1).resolve_left e,h.2⟩]
  .rw[if_neg hw];obtain⟨h1,ab,ac⟩:=qv L s W J λu hu=>aa u (.tail _ hu);refine⟨h1,ab,λbb U X Y=>?_⟩;rw[ac bb U X Y];have hw:=Y4.1 hw;by_cases I:bb∈L/\bb≠v
   .rw[if_pos I,if_pos ⟨.tail _ I.1,I.2⟩]
   .rw[if_neg I,if_neg λh=>I ⟨(V0.1 h.1).resolve_left λe=>h.2 (e.trans hw),h.2⟩]
theorem dj.zero (h:dj s):dj {s with zero:=c}:=h
theorem DK {u:Nat} {f:cJ} {x:bP} {tup un:Int->Int} (h:dj s) (I:s.funs[j]? =σ f) (J:s.vars[u]? =σ x):dj (iE s j f pos u x v tup un):=
 dj.vars (s:=dF s j f (dr tup (cb s f.sc pos v) f.af f.cs)) (dj.funs h I rfl id) J rfl
theorem DL {u:Nat} {x:bP} {g z:Int->Int} (h:dj s) (I:s.vars[u]? =σ x):dj (kl s u x g z):=dj.zero (dj.vars h I rfl)
def nI (k:Int) (s:au) (m:gM) (s':au) (e:Int) (a:Λ):Prop:=dW k s' a=if 5<=m.kind/\e=0/\a[m.i.toNat]? ≠σ m.v then k else dW k s a
theorem DM {m:gM} (J:bH k sizes s) (ac:dj s):bH k sizes (b0 k s m).1/\dj (b0 k s m).1/\ ∀a,hC s a->nI k s m (b0 k s m).1 (b0 k s m).2 a:=by
 have hk:=J.fc;have Y:∀e:Int,e≠0->bH k sizes s/\dj s/\ ∀a,hC s a->nI k s m s e a:=λe he=>⟨J,ac,λa _=>by unfold nI;rw[if_neg λh=>he h.2.1]⟩;have low:∀ {s':au} {e:Int},m.kind<5->bH k sizes s'->dj s'->(∀a,hC s a->dW k s' a=dW k s a)->bH k sizes s'/\dj s'/\ ∀a,hC s a->nI k s m s' e a:=λhm h1 ai av=>⟨h1,ai,λa U=>by unfold nI;rw[if_neg λh=>Ω];exact av a U⟩;unfold b0;split
 .rename_i an;cases V:ds s m.i m.pos m.v with
  |none=>exact Y 1 Φ
  |some q=>
   obtain⟨f,u,x⟩:=q;simp only;split
   .rename_i he;exact Y _ he
   .rename_i he;obtain⟨W,hm⟩:=mv he;simp only;obtain⟨_,_,ad,aj,hu,X⟩:=jb V;obtain⟨aC,I,ab,ao⟩:=h6 X;have ae:=x5 ad;have aw:∀t∈cb s f.sc m.pos.toNat m.v,m.c<=bl f.af f.cs t:=λt aa=>((oY _ _ _).1 hm).2 _ (o8.2 ⟨t,aa,rfl⟩);have ap:f.sc[m.pos.toNat]? =σ ((u.toNat:Nat):Int):=by rw[hu];congr 1;omega
    have aa:∀t∈cb s f.sc m.pos.toNat m.v,0<=dD k (bl f.af f.cs t) m.c/\dD k (bl f.af f.cs t) m.c<=k:=λt aa=>mw (lL J ae) ⟨W.1,aw t aa⟩;have ak:=my (k:=k) (gN (v:=m.v.toNat) J I) W.1;refine low Ω (DA J ad I aa ak) (DK ac ad I) λa U=>DB J U ad aj ap I ao (ac f ae aj) aa ak λt aa r ag=>?_;have:=lL (t:=t) J ae;exact s5 ag ⟨aw t aa,this.2⟩ (gN J I) W.1
 split
 .rename_i _ an;cases V:ds s m.i m.pos m.v with
  |none=>exact Y 1 Φ
  |some q=>
   obtain⟨f,u,x⟩:=q;simp only;split
   .rename_i he;exact Y _ he
   .rename_i he;obtain⟨W,hm⟩:=mv he;simp only;obtain⟨_,_,ad,aj,hu,X⟩:=jb V;obtain⟨aC,I,ab,ao⟩:=h6 X;have ae:=x5 ad;have ap:f.sc[m.pos.toNat]? =σ ((u.toNat:Nat):Int):=by rw[hu];congr 1;omega
    have aa:∀t∈cb s f.sc m.pos.toNat m.v,0<=dE k (bl f.af f.cs t) m.c/\dE k (bl f.af f.cs t) m.c<=k:=λt aa=>my (lL J ae) W.1;have ak:=mw (k:=k) (gN (v:=m.v.toNat) J I) ⟨W.1,hm⟩;refine low Ω (DA J ad I aa ak) (DK ac ad I) λa U=>DB J U ad aj ap I ao (ac f ae aj) aa ak λt aa r ag=>?_;have h1:=lL (t:=t) J ae;have ai:=gN (v:=m.v.toNat) J I;have:=s5 (k:=k) ag ⟨hm,ai.2⟩ h1 W.1;omega
 split
 .rename_i _ _ an;cases V:(if 0<=m.i then s.vars[m.i.toNat]? else ν) with
  |none=>exact Y 1 Φ
  |some x=>
   have I:s.vars[m.i.toNat]? =σ x:=by split at V;exact V;cases V
   simp only;split
   .exact Y 1 Φ
   split
   .rename_i he;exact Y _ he
   .rename_i ab he;obtain⟨W,hm⟩:=mv he;simp only;have ax:∀v∈aK x,m.c<=x.un.getD v.toNat 0:=λv X=>wW X hm;have al:∀v∈aK x,0<=dD k (x.un.getD v.toNat 0) m.c/\dD k (x.un.getD v.toNat 0) m.c<=k:=λv X=>mw (gN J I) ⟨W.1,ax v X⟩;have am:=my (k:=k) J.zero W.1;refine low Ω (wR J I al am) (DL ac I) λa U=>DD J U I (Y4.1 ab) al am λv X r ag=>?_;exact s5 ag ⟨ax v X,(gN J I).2⟩ J.zero W.1
 split
 .rename_i _ _ _ an;cases V:(if 0<=m.i then s.vars[m.i.toNat]? else ν) with
  |none=>exact Y 1 Φ
  |some x=>
   have I:s.vars[m.i.toNat]? =σ x:=by split at V;exact V;cases V
   simp only;obtain⟨ay,az⟩:∃ay,ay=(if aK x=[] then-1 else s.zero):=⟨_,rfl⟩;rw[<-az];split
   .exact Y 1 Φ
   split
   .rename_i he;exact Y _ he
   .rename_i ab he;obtain⟨W,hm⟩:=mv he;simp only;have aA:m.c<=s.zero:=by
     rw[az] at hm;split at hm
     .omega
     .exact hm
    have al:∀v∈aK x,0<=dE k (x.un.getD v.toNat 0) m.c/\dE k (x.un.getD v.toNat 0) m.c<=k:=λv X=>my (gN J I) W.1;have am:=mw (k:=k) J.zero ⟨W.1,aA⟩;refine low Ω (wR J I al am) (DL ac I) λa U=>DD J U I (Y4.1 ab) al am λv X r ag=>?_;have:=s5 (k:=k) ag ⟨aA,J.zero.2⟩ (gN (v:=v.toNat) J I) W.1;omega
 split
 .rename_i _ _ _ _ an;cases V:dG s m.i m.v with
  |none=>exact Y 1 Φ
  |some x=>
   obtain⟨_,I,ab,X⟩:=h6 V;simp only;split
   .exact Y 7 Φ
   .rename_i he;have aB:=(hd.1 X).1;simp only;refine low Ω (wS J I aB) (by rw[mq I];exact dj.vars ac I rfl) λa U=>?_;have aD:=(x4.1 I).1;have aE:=U.1;obtain⟨bb,ah⟩:=aF (l:=a) (i:=m.i.toNat) Ω;rw[DE J U I ab aB ah];split
    .rename_i e;subst e;rw[nH J];split
     .have aG:(s.vars.zip a)[m.i.toNat]? =σ (x,m.v):=List.getElem?_zip_eq_some.2 ⟨I,ah⟩;have h1:=qs (s6 (a:=a) J) (i:=m.i.toNat) (x:=dl (x,m.v)) (by rw[x8,aG];rfl);have ai:=qq _ (qt (a:=a) J);have aI:dl (x,m.v)=x.un.getD m.v.toNat 0:=by unfold dl;rw[if_neg (by simp[ab])]
      unfold dE at he;omega
     .rfl
    .rfl
 .rename_i h1 ai av aJ aL;cases V:dG s m.i m.v with
  |none=>exact Y 1 Φ
  |some x=>
   obtain⟨_,I,ab,X⟩:=h6 V;simp only;have aq:∀w∈aK x,0<=w/\w<x.un.length:=λw hw=>(hd.1 hw).1;refine⟨(qv (a:=[]) (aK x) s J I aq).1,(qv (a:=[]) (aK x) s J I aq).2.1 ac,λa U=>?_⟩;have aD:=(x4.1 I).1;have aE:=U.1;obtain⟨bb,ah⟩:=aF (l:=a) (i:=m.i.toNat) Ω;unfold nI;rw[(qv (aK x) s J I aq).2.2 bb U ab ah,ah];by_cases e:bb=m.v
   .rw[if_neg λh=>h.2 e,if_neg λh=>h.2.2 (by rw[e])]
   .rw[if_pos (c:=5<=m.kind/\_) ⟨Ω,rfl,λh=>e (c9 h)⟩];split
    .rfl
    .rename_i aH;exact DF U I ab ah λh=>aH ⟨h,e⟩
end
theorem NU {f:Int->Int} (I:dz af) (W:cs.length<=(bi af).length) (h:∀t∈L,f (bl af cs t)=bl af cs t):dr f L af cs=cs:=by
 apply Y8;intro i;cases J:cs[i]? with
 |none=>
  have h1:=List.getElem?_eq_none_iff.1 J;rw[Z5 (by rw[nF]<;>omega)]
 |some c=>
  obtain⟨t,U⟩:=aF (l:=bi af) (i:=i) (by have:=(x4.1 J).1;omega);rw[oU U J];split
  .rename_i V;have e:bl af cs t=c:=by
    unfold bl;rw[iW I U];simp only;rw[u9,u4,J];rfl
   have:=h t V;rw[e] at this;rw[this]
  .rfl
section
variable {k:Int} {sizes:Λ} {s:au}
end
section
variable {k:Int} {sizes:Λ} {s:au}
theorem te {f:cJ} (I:bH k sizes s) (J:f∈s.funs) (V:∀u,f.sc[pos]? =σ u->v∈dk s u) (h:t∈cb s f.sc pos v):∃m:Nat,cC f.af t 0=σ (m:Int):=by
 obtain⟨U,W,_⟩:=I.funs f J;obtain⟨X,_⟩:=k2 I J;rw[wL I (λu hu=>⟨(U.scope.1 u hu).1,U.vars u hu⟩) V,<-W] at h;obtain⟨i,hi⟩:=X4.1 (S3.1 h).1;exact⟨i,iW X hi⟩
end
section
variable {k:Int} {sizes:Λ} {s:au}
theorem NV {m:gM} (h:(b0 k s m).2≠0):(b0 k s m).1=s:=by
 generalize hm:b0 k s m=r at h ⊢;unfold b0 at hm
 repeat' split at hm
 all_goals (subst hm;first|rfl|exact absurd rfl h)
end
theorem NW (I:dz af):(bi af).Nodup:=by
 rw[List.nodup_iff_pairwise_ne,V2];intro i j hi J V he;have h1:=iW I (x6 hi);have U:=iW I (x6 J);rw[he,U] at h1;have:=c9 h1;omega
section
variable {k:Int} {sizes:Λ} {s:au}
theorem DN {f:cJ} (I:bH k sizes s) (J:f∈s.funs) (V:∀u,f.sc[pos]? =σ u->v∈dk s u):(cb s f.sc pos v).Nodup:=by
 obtain⟨U,W,_⟩:=I.funs f J;obtain⟨X,_⟩:=k2 I J;rw[wL I (λu hu=>⟨(U.scope.1 u hu).1,U.vars u hu⟩) V,<-W];exact (NW X).sublist List.filter_sublist
theorem wX {α:Type} {l:List α} {q:Nat} {a:α} (I:l.Nodup) (h:l[q]? =σ a):a∉l.take q:=λhm=>by
 obtain⟨i,hi⟩:=X4.1 hm;have J:i<q:=by have:=(x4.1 hi).1;rw[j0] at this;omega
 rw[Y3 J] at hi;have h1:=(x4.1 hi).1;have U:=(x4.1 h).1;have:=(List.getElem_inj I (h₀:=h1) (h₁:=U)).1 (by rw[(x4.1 hi).2,(x4.1 h).2]);omega
theorem DO {q:Nat} {f:cJ} {g:Int->Int} (Y:bH k sizes s) (U:s.funs[j]? =σ f) (aa:L.Nodup) (V:L[q]? =σ t) (hi:cC f.af t 0=σ (m:Int)):
  bl f.af (dr g (L.take q) f.af f.cs) t=bl f.af f.cs t/\kk (dF s j f (dr g (L.take q) f.af f.cs)) j m (g (bl f.af f.cs t))=dF s j f (dr g (L.take (q+1)) f.af f.cs):=by
 obtain⟨I,ab⟩:=k2 Y (x5 U);have W:=wX aa V;refine⟨by rw[Dw I ab hi,if_neg W],?_⟩;have J:=mb I hi;rw[u9] at J;have ae:=(x4.1 J).1;obtain⟨c,X⟩:=aF (l:=f.cs) (i:=m) Ω;have e:bl f.af f.cs t=c:=by
  unfold bl;rw[hi];simp only;rw[u9,u4,X];rfl
 have ac:=(NA (f:=g) I Ω J X W).2;unfold kk;have ad:(dF s j f (dr g (L.take q) f.af f.cs)).funs[j]? =σ {f with cs:=dr g (L.take q) f.af f.cs}:=c7 (x4.1 U).1;rw[ad,e];simp only;rw[ac,r8,V];unfold dF;simp only[List.set_set];rfl
end
section
variable {w:x3} {ab ad:Nat} {A R:ah} {n:aQ} {s:au} {t:ay}
theorem wY {i:Int} (h:bJ w ab ad A R n s t):aj x7 yF [Γ ab,Δ i,Δ v] w λr w'=>Ext w w'/\r=Δ (if (dG s i v).isSome=true then 0 else 1):=by
 have an:=h.2.2.2.1.vars;refine aw func56 ?_;rw[cV dH.u];simp only[Z3,aS];refine aR (λr J=>r= .bool (!(dG s i v).isSome)/\Ext w J) ?_ ?_
 .rintro _ J ⟨rfl,ag⟩;rw[cz];exact⟨λY=>⟨ag,by rw[if_neg (by simpa using Y)]⟩,λY=>⟨ag,by rw[if_pos (by simpa using Y)]⟩⟩
 intro av ah;refine (wD (i:=i) h).mono ?_;rintro _ V _ ⟨rfl,aa⟩;rw[cz];refine⟨λI=>ah _ _ ⟨?_,aa⟩,λI=>?_⟩
 .rw[U2,decide_eq_true_eq] at I;have ac:dG s i v=ν:=by
   unfold dG;rw[if_pos I.1];have ae:=I.2;unfold k1 at ae;cases U:s.vars[i.toNat]? with
   |none=>rfl
   |some x=>
    rw[U] at ae;simp only;rw[if_neg λh=>by simp[h.1] at ae]
  rw[ac];rfl
 refine (lK (i:=i) (h.ext aa)).mono ?_;rintro _ ao _ ⟨⟨b,m,rfl,af⟩,ak⟩;refine (Dg (v:=v) af.1).mono ?_;rintro _ ap _ ⟨rfl,al⟩;rw[bu];refine ah _ _ ⟨?_,(aa.trans ak).trans al⟩;congr 2;by_cases W:0<=i/\i<n.sizes.length
 .obtain⟨x,U⟩:=aF (l:=s.vars) (i:=i.toNat) Ω;rw[NE af W.1 U];unfold dG;rw[if_pos W.1,U];have am:x.gone=0:=by
   rw[decide_eq_true W.1,T0] at I;unfold k1 at I;rw[U] at I;simpa using I
  simp only;by_cases X:v∈aK x
  .rw[decide_eq_true X,if_pos ⟨am,X⟩];rfl
  .rw[decide_eq_false X,if_neg λh=>X h.2];rfl
 .obtain⟨rfl,rfl⟩:=af.2.1 W;have ac:dG s i v=ν:=by
   unfold dG;by_cases ai:0<=i
   .rw[if_pos ai,Z5 Ω]
   .rw[if_neg ai]
  rw[ac,decide_eq_false Ω];rfl
def NX (s:au) (j pos v:Int) (u e:Int):Prop:=(e=0/\ ∃f x,ds s j pos v=σ (f,u,x))\/(e=1/\ds s j pos v=ν)
theorem wZ {j pos:Int} (h:bJ w ab ad A R n s t):aj x7 yD [Γ ab,Δ j,Δ pos,Δ v] w λr w'=>Ext w w'/\ ∃u e,r= .tuple #[Δ u,Δ e]/\NX s j pos v u e:=by
 refine aw func47 ?_;rw[cV dH.u];simp only[Z3,aS];have key:∀ (K:x1->x3->Prop),(∀r w',Ext w w'->(∀f,0<=j->s.funs[j.toNat]? =σ f->aB .i64 w' r f.sc)->K r w')->aj x7 rn [Γ ab,Δ j] w K:=λK aq=>by
  by_cases au:0<=j/\j<s.funs.length
  .obtain⟨f,I⟩:=aF (l:=s.funs) (i:=j.toNat) Ω;have:=wK h I;rw[show ((j.toNat:Nat):Int)=j by omega] at this;refine this.mono ?_;rintro r J _ ⟨X,g,_,hm⟩;exact aq r J X λac _ ax=>by rw[I] at ax;cases ax;exact hm.ls
  .refine (Nz h au).mono ?_;rintro r J _ ⟨rfl,X⟩;exact aq _ J X λf Y I=>absurd ⟨Y,by have:=(x4.1 I).1;omega⟩ au
 refine key _ λr J X ay=>?_;have ah:∀ {P:Prop},(¬∃f u,0<=j/\0<=pos/\s.funs[j.toNat]? =σ f/\f.live≠0/\f.sc[pos.toNat]? =σ u)->(ds s j pos v=ν->P)->P:=λU aJ=>aJ (by
  cases ae:ds s j pos v with
  |none=>rfl
  |some q=>
   obtain⟨f,u,x⟩:=q;obtain⟨ak,al,a3,a4,a5,_⟩:=jb ae;exact absurd ⟨f,u,ak,al,a3,a4,a5⟩ U)
 refine aR (λaz V=>Ext J V/\((az= .bool true/\ds s j pos v=ν)\/(az= .bool false/\ ∃f u,0<=j/\0<=pos/\s.funs[j.toNat]? =σ f/\f.live≠0/\f.sc[pos.toNat]? =σ u))) ?_ ?_
 .rintro _ V ⟨an,⟨rfl,U⟩|⟨rfl,f,u,Y,aC,I,aK,hu⟩⟩
  .rw[bA];exact⟨X.trans an,0,1,rfl,.inr ⟨rfl,U⟩⟩
  .rw[aS];intro aL W _ _;have aD:=(ay f Y I).ext (an.trans W);refine rN (y:=pos) (i:=pos.toNat) Ω am.u ag.i aD hu λb o aM=>?_;rw[aA (v:=Δ u) Ψ aM,fP (y:=pos) (i:=pos.toNat) Ω am.u ag.i Ψ aD hu];have aE:=(X.trans an).trans W;refine (wY (i:=u) (v:=v) (h.ext aE)).mono ?_;rintro _ aO _ ⟨aG,rfl⟩;refine⟨.inl aG,aE.trans aG,u,_,rfl,?_⟩;have ae:ds s j pos v=(dG s u v).map λx=>(f,u,x):=by
    unfold ds;rw[if_pos ⟨Y,aC⟩,I];simp only;rw[if_pos aK,hu]
   cases aH:dG s u v with
   |none=>exact .inr ⟨rfl,by rw[ae,aH];rfl⟩
   |some x=>exact .inl ⟨rfl,f,x,by rw[ae,aH];rfl⟩
 intro av af;refine (wF (j:=j) (h.ext X)).mono ?_;rintro _ aL _ ⟨rfl,W⟩;have same:∀ {f ac:cJ},s.funs[j.toNat]? =σ f->s.funs[j.toNat]? =σ ac->ac=f:=λa b=>by rw[a] at b;exact (c9 b).symm
 rw[bu,cz];refine⟨λao=>ah (λ⟨f,u,ak,al,a3,a4,a5⟩=>?_) λU=>af _ _ ⟨W,.inl ⟨rfl,U⟩⟩,λap=>?_⟩
 .unfold fX at ao;rw[a3] at ao;simp[ak,a4] at ao
 have ap:0<=j/\fX s j.toNat=true:=by simpa using ap
 obtain⟨Y,aa⟩:=ap;obtain⟨f,I,aN⟩:∃f,s.funs[j.toNat]? =σ f/\f.live≠0:=by
  unfold fX at aa;cases I:s.funs[j.toNat]? with
  |none=>rw[I] at aa;cases aa
  |some f=>rw[I] at aa;exact⟨f,rfl,by simpa using aa⟩
 rw[aP,ai];refine⟨λaQ=>ah (λ⟨_,_,_,al,_⟩=>Ω) λU=>af _ _ ⟨W,.inl ⟨rfl,U⟩⟩,λaC=>?_⟩;rw[aV am.u ((ay f Y I).ext W),cK];by_cases aI:(f.sc.length:Int)<=pos
 .refine ah (λ⟨ac,u,_,_,a3,_,a5⟩=>?_) λU=>af _ _ ⟨W,.inl ⟨by rw[decide_eq_true aI],U⟩⟩;obtain rfl:=same I a3;have:=(x4.1 a5).1;omega
 .obtain⟨u,hu⟩:=aF (l:=f.sc) (i:=pos.toNat) Ω;exact af _ _ ⟨W,.inr ⟨by rw[decide_eq_false aI],f,u,Y,Ω,I,aN,hu⟩⟩
theorem tf {most:Int} (h:bJ w ab ad A R n s t):aj x7 Ft [Γ ab,Δ c,Δ most] w λr w'=>Ext w w'/\r=Δ (cZ n.k c most):=by
 refine aw func49 ?_;refine (k0 h).mono ?_;rintro _ J _ ⟨rfl,I⟩;refine jn.mono ?_;rintro _ V _ ⟨rfl,U⟩;have hi:cn c n.k↔0<=c/\c<=n.k:=⟨λh=>h.2,λX=>⟨h.2.2.2.1.fc,X⟩⟩;unfold cZ;rw[bu,cz];refine⟨λW=>⟨I.trans U,?_⟩,λW=>?_⟩
 .have:¬cn c n.k:=by simpa using W
  rw[if_pos λh=>this (hi.2 h)]
 .have:cn c n.k:=by simpa using W
  rw[if_neg λh=>h (hi.1 this),bM,ai];exact⟨λh=>⟨I.trans U,by rw[if_pos h]⟩,λh=>⟨I.trans U,by rw[if_neg h]⟩⟩
theorem NY {b:Int} (hk:right k) (U:0<=a/\a<=k) (W:0<=b/\b<=k) (aa:a=k\/b<=a):aj x7 Gd [Δ a,Δ b,Δ k] w λv w'=>v= .tuple #[Δ (dD k a b),Δ 0]/\Ext w w':=by
 have ab:1<=k/\k<=2147483648:=hk;refine aw func123 ?_;refine aR (λr J=>r= .bool false/\Ext w J) ?_ ?_
 .rintro _ J ⟨rfl,I⟩;unfold dD;rw[aS,be,ai];refine⟨λh=>⟨by rw[if_pos h],I⟩,λh=>?_⟩;rw[if_neg h,bM,ai];refine⟨λac=>Ω,λ_=>?_⟩;rw[dP,wrap_i64 Ω Ω];exact⟨rfl,I⟩
 intro av X;refine jn.mono ?_;rintro _ J _ ⟨rfl,I⟩;rw[decide_eq_true (show cn a k from⟨hk,U⟩),bu,Z8,aS];refine jn.mono ?_;rintro _ V _ ⟨rfl,Y⟩;rw[decide_eq_true (show cn b k from⟨hk,W⟩),bu,Z8];exact X _ _ ⟨rfl,I.trans Y⟩
theorem tg (h:bJ w ab ad A R n s t) (I:0<=a/\a<=n.k) (U:0<=c/\c<=n.k) (W:a=n.k\/c<=a):aj x7 mO [Γ ab,Δ a,Δ c] w λr w'=>r=Δ (dD n.k a c)/\Ext w w':=by
 refine aw func50 ?_;refine (k0 h).mono ?_;rintro _ J _ ⟨rfl,X⟩;refine (NY h.2.2.2.1.fc I U W).mono ?_;rintro _ V _ ⟨rfl,Y⟩;rw[bf,bg];exact⟨rfl,X.trans Y⟩
theorem qw (h:bJ w ab ad A R n s t) (I:0<=a/\a<=n.k) (U:0<=c/\c<=n.k):aj x7 mP [Γ ab,Δ a,Δ c] w λr w'=>r=Δ (dE n.k a c)/\Ext w w':=by
 refine aw func51 ?_;refine (k0 h).mono ?_;rintro _ J _ ⟨rfl,W⟩;refine (wH I U h.2.2.2.1.fc).mono ?_;rintro _ V _ ⟨rfl,X⟩;rw[bf,bg];exact⟨rfl,W.trans X⟩
end
theorem NZ {g n c:Nat} {cs:List x1} (J:ac w g cE cs) (W:∀w',ae (λr=>r=g) w w'->(∀o vs,w.rangeAt g o vs->w'.rangeAt g o vs)->K (.slice (σ ⟨g,0,ν⟩) n c) w'):
  ax x7 (convert cH cH (.slice (σ ⟨g,0,ν⟩) n c)) w K:=by
 have V:∀r,(w.freeze ⟨g,cs.length,ν⟩ 1).heap[r]? =if g=r then (w.heap[r]?).map (λ| .cells c X (lo,hi)=>.cells c X (if lo == hi then (cs.length,cs.length+1) else (min lo cs.length,max hi (cs.length+1)))|o=>o) else w.heap[r]?:=λr=>by
  unfold x3.freeze;rw[if_neg Φ];exact Array.getElem?_modify
 have ag:(w.freeze ⟨g,cs.length,ν⟩ 1).heap.size=w.heap.size:=by
  unfold x3.freeze;rw[if_neg Φ];exact Array.size_modify
 have Y:w.shape? g=σ (cE,cs.length):=by
  unfold x3.shape?;unfold ac at J;rw[J];simp
 have aa:(convert cH cH (.slice (σ ⟨g,0,ν⟩) n c)).run x7 w= .ok (.slice (σ ⟨g,0,ν⟩) n c) (w.freeze ⟨g,cs.length,ν⟩ 1):=by
  simp[convert,run_underlying cH.u,run_underlying cE.u,markStringish,Y]
 unfold ac at J;refine .of aa ⟨by unfold x3.freeze;rw[if_neg Φ],.jI (by unfold x3.freeze;rw[if_neg Φ]) (by unfold x3.freeze;rw[if_neg Φ]),by unfold x3.freeze;rw[if_neg Φ],Ω,λr o U I=>?_⟩ (W _ ⟨Ω,λr o U _ ab=>?_⟩ λo vs ad j v af=>?_)
 .rw[V];by_cases he:g=r
  .subst he;rw[J] at U;cases U;cases I
  .rw[if_neg he];exact U
 .rw[V,if_neg λhe=>ab he.symm];exact U
 .have h1:=ad j v af;unfold x3.cell? at h1 ⊢;rw[V,if_pos rfl];rw[J] at h1 ⊢;exact h1
def w1 (s0 s:au):Prop:=s.zero=s0.zero/\s.funs=s0.funs/\s.vars.length=s0.vars.length/\ ∀ (i:Nat) x,s.vars[i]? =σ x-> ∃I,s0.vars[i]? =σ I/\x.un=I.un/\x.gone=0/\I.gone=0/\I.mask=0
theorem w1.new (n:aQ):w1 (dd n) (dd n):=⟨rfl,rfl,rfl,λi x I=>by
 refine⟨x,I,rfl,?_⟩;have I:(n.unary.map newVar)[i]? =σ x:=I;rw[x8] at I;obtain⟨u,_,rfl⟩:=Y2.1 I;exact⟨rfl,rfl,rfl⟩⟩
theorem N0 (n:aQ):dj (dd n):=λf _ _ v _ x I=>by
 obtain⟨_,_,_,h,_⟩:=(w1.new n).2.2.2 _ x I;exact h
theorem N1 {V aa:x3} {an:Nat} {ah:x1} {cs:List x1} {f:bY} (aj:s3 B V ah cs f) (U:Ext V aa) (ak:ac aa an a6 cs) (aq:V.heap.size<=an):
  ∃ab ad A R A9 aH t,ah=Γ ab/\cq aa ab ad an A R A9 aH (cd f) (dd (cd f)) (dd (cd f)) t [] cs/\t.marks=[]/\(∀r,A r->B<=r)/\(∀q r,A9 q r->B<=r)/\t.cells.length<=2000000/\t.olds.length=0/\(cd f).funs.length<=256/\t.il=0/\(∀r,aH r->B<=r)/\ ∀r,R r->B<=r:=by
 obtain⟨ab,ad,A,R,t,N,A9,aH,ae,rfl,af,W,al,am,ag,X,ao⟩:=aj;have ai:=tb af;have z:=U.size;have Y:=(sO (BI ae).1 (wI ae) (cd f).unary.length (cd f).funs.length);rw[wj,<-af.2.1] at Y;unfold ay.bL at Y;rw[u7] at Y;refine⟨ab,ad,A,R,λq r=>A9 q r/\r<V.heap.size,aH,t,rfl,⟨af.ext U,W.2.2.1,ak,am.old.ext U,λq r h=>⟨(ag q r h.1).1,(ag q r h.1).2.1,by have:=h.2;omega⟩,λr J=>⟨λh=>(X r J).1 (ny (λo ap I _=>U.aX r o ap I) h),by have:=(X r J).2;omega,by have:=(X r J).2;omega⟩,λh=>by have:=ai an (.inl h);omega,λh=>by have:=ai an (.inr h);omega⟩,W.1,al,λq r h=>(ag q r h.1).2.2,Y,by rw[W.2.1];rfl,wI ae,W.2.2.2,λr J=>(X r J).2.2,ao⟩
section
variable {w w':x3} {ab ad an c3:Nat} {A R O M aH:ah} {A9:Nat->ah} {k:Int} {sizes:Λ} {I:List au} {n:aQ} {s u:au} {t:ay} {h:List ay} {cs:List x1}
theorem cq.N2 (p:cq w ab ad an A R A9 aH n s u t h cs):∀q r,A9 q r->¬aH r:=by
 obtain⟨_,_,_,_,_,_,_,_,_,_,_,_,_,I⟩:=p.doc;exact (I rfl).2
end
theorem DP {w0:x3} {out:x1} {g:Nat} {x:Int} (U:Ext w0 w) (hm:ap .i64 ag w g out l) (V:∀r,leads out r->w0.heap.size<=r) (af:l.length<=1000000000)
  (X:∀v w' Y,Ext w0 w'->ap .i64 ag w' Y v (l++[x])->(∀r,leads v r->w0.heap.size<=r)->K v w'):
  ax x7 (Z9 am 1 #[(0,Δ x)]) w λy J=>ax x7 (b8 #[am,am] am #[out,y]) J K:=by
 refine en (k:=.i64) am.u ag.i rfl λv4 ah ai aj I aa=>?_;refine hc am.u ag.i rfl (hm.ext I) aa.ls Θ Θ λv5 ab ak ac ad ae=>?_;have z:=(U.trans I).size;exact X _ _ ab ((U.trans I).then ae λr W he=>by have:=V r he;omega) ac λr W=>(ad r W).elim (V r) λh=>Ω
theorem DQ (x:bP):(aK x).length<=x.un.length:=by
 unfold aK;have:=List.length_filter_le (λv:Int=>!dropped x.mask v) ((W7 x.un.length).map λv:Nat=>(v:Int));rw[u7,List.length_range] at this;exact this
section
variable {w:x3} {ab ad:Nat} {A R:ah} {n:aQ} {s:au} {t:ay}
end
theorem N3 {out:x1} {g:Nat} {x:Int} (hm:ap .i64 al w g out l) (af:l.length<=1000000000000)
  (U:∀v w' V,ae (λr=>leads out r) w w'->ap .i64 al w' V v (l++[x])->(∀r,leads v r->leads out r\/w.heap.size<=r)->K v w'):
  ax x7 (Z9 aq 1 #[(0,Δ x)]) w λy J=>ax x7 (b8 #[aq,aq] aq #[out,y]) J K:=by
 refine en (k:=.i64) aq.u al.i rfl λv4 ag ah ai I W=>?_;refine hc aq.u al.i rfl (hm.ext I) W.ls Θ Θ λv5 X aj Y ab ac=>?_;have z:=I.size;exact U _ _ X ((I.aa _).trans ac) Y λr ad=>(ab r ad).imp id λh=>Ω
def k4 (s:au) (sc t:Λ):Bool:=(sc.zip t).all λp=>match s.vars[p.1.toNat]? with
 |some x=>decide (p.2∈aK x)
 |none=>false
section
variable {w:x3} {ab ad:Nat} {A R:ah} {n:aQ} {s:au} {t:ay}
end
theorem DR {t:r9} {cx cy:Bool} {a b:Bool} {K:x1->Prop} (I:x7.underlying t=σ .bool):U x7 (aE .neq t cx cy (.bool a) (.bool b)) w K=K (.bool !(a == b)):=
 za (λ_=>rfl) rfl λw' _=>run_equalIn_bool' (P:=x7) (w:=w') 9999 t a b I
theorem N4 {b:Bool} {aJ aW:x1} {I J U:Λ} (h1:Seen dY w [aJ] I) (V:Seen dY w [szv] J) (W:Seen dY w [aW] U):∀u∈[aJ,szv,aW,.bool b],u.oneCell'=true:=by
 intro u hu;simp only[V0,List.not_mem_nil,or_false] at hu;rcases hu with rfl|rfl|rfl|rfl
 .exact hp h1
 .exact hp V
 .exact hp W
 .rfl
section
variable {w:x3} {ab ad:Nat} {A R:ah} {n:aQ} {s:au} {t:ay} {ez:x1}
end
def nJ (af t:Λ):Int:=(cC af t 0).getD 0
def k5 (s:au) (f:cJ) (pos:Nat) (v:Int):Λ:=(cb s f.sc pos v).map (nJ f.af)
def km (s:au) (sc:Λ) (pos:Nat) (v:Int) (t:Λ):Bool:=decide (t.getD pos 0=v)&&k4 s sc t
section
variable {k:Int} {sizes:Λ} {s:au} {f:cJ} {pos:Nat} {v:Int}
theorem N5:k4 s sc t=true↔ ∀ (p:Nat) u w,sc[p]? =σ u->t[p]? =σ w->w∈dk s u:=by
 unfold k4;rw[List.all_eq_true];constructor
 .intro h p u w hu hw;have:=h (u,w) (x5 (List.getElem?_zip_eq_some.2 ⟨hu,hw⟩));unfold dk;cases I:s.vars[u.toNat]? with
  |none=>simp[I] at this
  |some x=>simpa[I] using this
 .rintro h ⟨u,w⟩ hm;obtain⟨p,J⟩:=X4.1 hm;obtain⟨h1,U⟩:=List.getElem?_zip_eq_some.1 J;have:=h p u w h1 U;unfold dk at this;simp only;cases I:s.vars[u.toNat]? with
  |none=>rw[I] at this;cases this
  |some x=>rw[I] at this;simpa using this
theorem N6 (U:bH k sizes s) (ab:f∈s.funs) (ac:pos<f.sc.length) (V:∀u,f.sc[pos]? =σ u->v∈dk s u):cb s f.sc pos v=(bi f.af).filter (km s f.sc pos v):=by
 obtain⟨W,X,_⟩:=U.funs f ab;have J:=wL U (λu hu=>⟨(W.scope.1 u hu).1,W.vars u hu⟩) V;rw[<-X] at J;have h1:∀t∈bi f.af,(mo (nG s pos v f.sc 0) t=true↔t∈cb s f.sc pos v):=λt I=>by rw[J,S3];exact⟨λh=>⟨I,h⟩,λh=>h.2⟩
 rw[J];refine List.filter_congr λt I=>?_;have ad:t.length=f.sc.length:=by rw[rF I,X];simp[bS]
 rw[V5,h1 t I,wQ,km,U2,decide_eq_true_eq,N5];constructor
 .rintro⟨_,h⟩;obtain⟨u,hu⟩:=aF (l:=f.sc) ac;obtain⟨w,hw⟩:=aF (l:=t) (i:=pos) Ω;have Y:=h pos u w hu hw;rw[if_pos rfl] at Y;refine⟨by rw[u4,hw];exact Y,λp u' w' aa ae=>?_⟩;have:=h p u' w' aa ae;split at this
  .rename_i e;subst e;rw[this];exact V u' aa
  .exact this
 .rintro⟨h1,ag⟩;refine⟨ad,λp u w hu hw=>?_⟩;split
  .rename_i e;subst e;rw[u4,hw] at h1;exact h1
  .exact ag p u w hu hw
end
section
variable {w:x3} {ez:x1} {k:Int} {sizes:Λ} {s:au}
theorem N7 {j pos:Int} (h:jB w ez k sizes s) (aC:bH k sizes s) (aN:dj s):aj x7 Fy [ez,Δ j,Δ pos,Δ v] w λr w'=>Ext w w'/\ ∃u,r= .tuple #[Δ u,.bool (ds s j pos v).isSome]:=by
 have bb:=aC.vars;refine aw func59 ?_;refine bm λg1 J bc ac aO=>?_;have aE:=h.box ac aO;obtain⟨szv,bd,be,bf,bg,bh,ad,bi,_,aQ,bj,bk,aG,bl⟩:=id aE;refine aR (λr V=>Ext J V/\((r= .bool true/\ds s j pos v=ν)\/(r= .bool false/\ ∃f u,0<=j/\0<=pos/\s.funs[j.toNat]? =σ f/\f.live≠0/\f.sc[pos.toNat]? =σ u))) ?_ λav aa=>?_
 .rintro _ V ⟨W,⟨rfl,U⟩|⟨rfl,f,u,ae,aH,I,aI,hu⟩⟩
  .rw[bA,U];exact⟨ac.trans W,0,rfl⟩
  .rw[aS];have aJ:=x5 I;have af:=x5 hu;obtain⟨aL,bn,_⟩:=aC.funs f aJ;have ah:=(aL.scope.1 u af).1;have bo:=aL.vars u af;have ah:0<=u:=ah;obtain⟨x,ak⟩:=aF (l:=s.vars) (i:=u.toNat) Ω;rw[aD a6.p 6 (ad.ext W) rfl];refine jV (i:=j.toNat) Ω e4.u ed.i (bq aG W) (by rw[x8,I];rfl) λb o cs al an=>?_;obtain⟨ao,aU,v3,rfl,h1,aW,aX⟩:=mu an;rw[aT ed.p rfl,aT aZ.p rfl,aA (v:=ao) Ψ (al 0 _ rfl),fP (y:=pos) (i:=pos.toNat) Ω am.u ag.i Ψ (dp h1) hu,aD a6.p 3 (ad.ext W) rfl];refine hq (α:=Λ) (a:=aK x) (i:=u.toNat) rfl Ω cO.u am.i Ψ (bq aQ W) (by rw[x8,ak];rfl) λbp aY=>?_;refine (sZ (dp aY)).mono ?_;rintro _ br _ ⟨rfl,a1⟩;refine⟨(ac.trans W).trans a1,u,?_⟩;have a2:=aN f aJ aI u af x ak;have ap:ds s j pos v=(dG s u v).map λx=>(f,u,x):=by
    unfold ds;rw[if_pos ⟨ae,aH⟩,I];simp only;rw[if_pos aI,hu]
   have a7:dG s u v=if v∈aK x then σ x else ν:=by
    unfold dG;rw[if_pos ah,ak];simp only[a2,true_and]
   rw[ap,a7];by_cases ab:v∈aK x
   .rw[if_pos ab,decide_eq_true ab];rfl
   .rw[if_neg ab,decide_eq_false ab];rfl
 have aq:∀ {P:Prop},(¬∃f u,0<=j/\0<=pos/\s.funs[j.toNat]? =σ f/\f.live≠0/\f.sc[pos.toNat]? =σ u)->(ds s j pos v=ν->P)->P:=λU a8=>a8 (by
  cases ap:ds s j pos v with
  |none=>rfl
  |some q=>
   obtain⟨f,u,x⟩:=q;obtain⟨au,ax,a3,a4,a5,_⟩:=jb ap;exact absurd ⟨f,u,au,ax,a3,a4,a5⟩ U)
 refine aE.load λu hu=>?_;refine (NM (j:=j) hu).mono ?_;rintro _ bt _ ⟨rfl,X⟩;have same:∀ {f ay:cJ},s.funs[j.toNat]? =σ f->s.funs[j.toNat]? =σ ay->ay=f:=λa b=>by rw[a] at b;exact (c9 b).symm
 rw[bu,cz];refine⟨λaz=>aq (λ⟨f,u,au,ax,a3,a4,a5⟩=>?_) λU=>aa _ _ ⟨X,.inl ⟨rfl,U⟩⟩,λaB=>?_⟩
 .unfold fX at az;rw[a3] at az;simp[au,a4] at az
 have aB:0<=j/\fX s j.toNat=true:=by simpa using aB
 obtain⟨ae,Y⟩:=aB;obtain⟨f,I,ba⟩:∃f,s.funs[j.toNat]? =σ f/\f.live≠0:=by
  unfold fX at Y;cases I:s.funs[j.toNat]? with
  |none=>rw[I] at Y;cases Y
  |some f=>rw[I] at Y;exact⟨f,rfl,by simpa using Y⟩
 rw[aP,ai];refine⟨λbw=>aq (λ⟨_,_,_,ax,_⟩=>Ω) λU=>aa _ _ ⟨X,.inl ⟨rfl,U⟩⟩,λaH=>?_⟩;rw[aD a6.p 6 (ad.ext X) rfl];refine jV (i:=j.toNat) Ω e4.u ed.i (bq aG X) (by rw[x8,I];rfl) λb o cs al an=>?_;obtain⟨ao,aU,v3,rfl,h1,aW,aX⟩:=mu an;rw[aT ed.p rfl,aT aZ.p rfl,aA (v:=ao) Ψ (al 0 _ rfl),aV am.u (dp h1),cK];by_cases aM:(f.sc.length:Int)<=pos
 .refine aq (λ⟨ay,u,_,_,a3,_,a5⟩=>?_) λU=>aa _ _ ⟨X,.inl ⟨by rw[decide_eq_true aM],U⟩⟩;obtain rfl:=same I a3;have:=(x4.1 a5).1;omega
 .obtain⟨u,hu⟩:=aF (l:=f.sc) (i:=pos.toNat) Ω;exact aa _ _ ⟨X,.inr ⟨by rw[decide_eq_false aM],f,u,ae,Ω,I,ba,hu⟩⟩
theorem DS {f:cJ} (h:jB w ez k sizes s) (ah:bH k sizes s) (aO:s.funs[j]? =σ f) (bh:pos<f.sc.length) (bj:∀u,f.sc[pos]? =σ u->v∈dk s u):
  aj x7 Fz [ez,Δ (j:Int),Δ (pos:Int),Δ v] w λr w'=>Ext w w'/\aB .i64 w' r (k5 s f pos v)/\ ∀q,leads r q->w.heap.size<=q:=by
 have bX:=ah.vars;have au:=x5 aO;obtain⟨ai,aP,_⟩:=ah.funs f au;have ak:=(k2 ah au).1;have bk:f.af.length=f.sc.length:=by rw[aP];simp[bS]
 have bY:=ij ak;have bZ:(bi f.af).length<=4096:=by
  have al:aG (bS sizes f.sc)<=4096:=ai.small;rw[<-aP] at al;omega
 refine aw func60 ?_;refine bm λg1 J b0 ax bl=>?_;obtain⟨szv,b1,b2,b3,b4,b5,aQ,b7,_,bn,b8,b9,bo,ca⟩:=h.box ax bl;rw[aD a6.p 6 aQ rfl];refine jV (i:=j) rfl e4.u ed.i bo (by rw[x8,aO];rfl) λb o cs aa bp=>?_;obtain⟨ay,az,v3,rfl,h1,al,br⟩:=mu bp;rw[aT ed.p rfl,bI (cs:=[ay,az,v3]) aZ.p aZ.i rfl (λq u I=>by
  have:q<3:=(x4.1 I).1
  match q,this,I with
  |0,_,I=>cases I;exact aa 0 _ rfl
  |1,_,I=>cases I;exact aa 1 _ rfl
  |2,_,I=>cases I;exact aa 2 _ rfl)]
 refine bN aZ.i λcb V cd bt bu=>?_;have bw:∀u∈[ay,az,v3],u.oneCell'=true:=λu hu=>by
  simp only[V0,List.not_mem_nil,or_false] at hu;rcases hu with rfl|rfl|rfl
  .exact hp h1
  .exact hp al
  .exact hp br
 refine cc (vs:=[ay,az,v3]) aZ.i rfl rfl bw bu λbx bz ce aS=>?_;have aU:Ext J bx:=bt.put bz Ω;have aA:=dp h1;have bA:=dp al;rw[aD aZ.p 1 aS rfl];refine (u3 f.af (bA.ext aU) ⟨by rw[bk];exact ai.scope.2,ak⟩).mono ?_;rintro cg ab _ ⟨aW,aX⟩;have aE:=aU.trans aW;rw[gj cO.u aX];refine bU.range (bi f.af).length (λi out Y=>Ext ab Y/\(∃g,ap .i64 ag Y g out ((((bi f.af).take i).filter (km s f.sc pos v)).map (nJ f.af)))/\ ∀r,leads out r->ab.heap.size<=r) Ω ⟨Ext.refl _,⟨0,ap.nil _ _ _ _⟩,λr aa=>by obtain⟨_,_,_,e,_⟩:=aa;cases e⟩ ?_ ?_
 .rintro q out Y bC I ⟨U,⟨g,hm⟩,an⟩ bD;have ac:(bi f.af)[q]? =σ (cM f.af (q:Int)):=pH ak Ω;generalize cM f.af (q:Int)=tl at ac;have ch:=zt ac;have bE:=iW ak ac;have bF:nJ f.af tl=(q:Int):=by unfold nJ;rw[bE];rfl
  have ao:=aE.trans U;have aY:((bi f.af).take (q+1)).filter (km s f.sc pos v)=((bi f.af).take q).filter (km s f.sc pos v)++(if km s f.sc pos v tl=true then[tl] else[]):=by
   rw[r8,ac,l9,List.filter_append];congr 1;cases aC:km s f.sc pos v tl<;>simp[aC]
  obtain⟨aH,a1⟩:=aF (l:=tl) (i:=pos) Ω;refine bB Ω ?_;refine aR (λa2 a7=>Ext ab a7/\(∃g,ap .i64 ag a7 g a2 ((((bi f.af).take (q+1)).filter (km s f.sc pos v)).map (nJ f.af)))/\ ∀r,leads a2 r->ab.heap.size<=r) (λ_ _ aJ=>by rw[aL];exact bD _ _ aJ) λav ad=>?_;refine hq (α:=Λ) rfl rfl cO.u am.i Ψ (bq aX U) ac λaI aq=>?_;have aq:=dp aq;rw[ba am.u ag.i Ψ aq a1,be,aD aZ.p 0 (aS.ext (aW.trans U)) rfl,aV am.u (aA.ext ao)];refine bU.range f.sc.length (λp ok aM=>Ext Y aM/\ok= .bool (decide (aH=v)&&k4 s (f.sc.take p) (tl.take p))) aA.le ⟨Ext.refl _,by simp[k4]⟩ ?_ ?_
  .rintro p _ aM bG bJ ⟨W,rfl⟩ bK;obtain⟨u,aN⟩:=aF (l:=f.sc) bJ;obtain⟨y,a8⟩:=aF (l:=tl) (i:=p) Ω;have bb:=x5 aN;have bc:=(ai.scope.1 u bb).1;have bd:=ai.vars u bb;have bd:u<sizes.length:=bd;have bc:0<=u:=bc;obtain⟨x,bf⟩:=aF (l:=s.vars) (i:=u.toNat) Ω;have bg:k4 s (f.sc.take (p+1)) (tl.take (p+1))=(k4 s (f.sc.take p) (tl.take p)&&decide (y∈aK x)):=by
    unfold k4;rw[r8,r8,aN,a8,l9,l9,List.zip_append Θ,List.all_append];simp[bf]
   refine bB Ω ?_;refine aR (λok bL=>Ext Y bL/\ok= .bool (decide (aH=v)&&k4 s (f.sc.take (p+1)) (tl.take (p+1)))) (λ_ _ aJ=>by rw[aL];exact bK _ _ aJ) λav ad=>?_;rw[ba am.u ag.i Ψ (aA.ext (ao.trans W)) aN];intro ci bM _ _;have ae:=W.trans bM;rw[cz];refine⟨λX=>?_,λX=>ad _ _ ⟨ae,by rw[bg,<-Bool.and_assoc,X];rfl⟩⟩;rw[aD a6.p 3 (aQ.ext (ao.trans ae)) rfl];refine hq (α:=Λ) (a:=aK x) (i:=u.toNat) rfl Ω cO.u am.i Ψ (bq bn (ao.trans ae)) (by rw[x8,bf];rfl) λcj bO=>?_;rw[ba am.u ag.i Ψ (aq.ext ae) a8];refine (sZ (dp bO)).mono ?_;rintro _ ck _ ⟨rfl,bP⟩;exact ad _ _ ⟨ae.trans bP,by rw[bg,<-Bool.and_assoc,X,T0]⟩
  .rintro _ aM bG ⟨W,rfl⟩;rw[o6,j6 Ω];refine b6 Ω ?_;have bQ:(decide (aH=v)&&k4 s f.sc tl)=km s f.sc pos v tl:=by unfold km;rw[u4,a1];rfl
   rw[bQ,cz];refine⟨λX=>?_,λX=>ad _ _ ⟨U.trans W,⟨g,by rw[aY,if_neg (by rw[X];decide),U5];exact hm.ext W⟩,an⟩⟩;refine DP (w0:=ab) (U.trans W) (hm.ext W) an ?_ λcl w' bR bT bV bW=>ad _ _ ⟨bT,⟨bR,?_⟩,bW⟩
   .rw[u7];have h1:=List.length_filter_le (km s f.sc pos v) ((bi f.af).take q);rw[j0] at h1;omega
   .rw[aY,if_pos X,c8,List.map_singleton,bF];exact bV
 .rintro out Y bC ⟨U,⟨g,hm⟩,an⟩;rw[o6,<-N6 ah au bh bj] at hm;refine b6 Ω ?_;exact⟨(ax.trans aE).trans U,hm.ls,λq I=>by have:=an q I;have:=(ax.trans aE).size;omega⟩
theorem th {j pos:Int} (h:jB w ez k sizes s) (U:bH k sizes s) (ax:dj s):
  aj x7 E7 [ez,Δ j,Δ pos,Δ v] w λr w'=>Ext w w'/\r=(match ds s j pos v with|some (f,_,_)=>.tuple #[Δ (fY k s f pos.toNat v),.bool true]|none=>.tuple #[Δ 0,.bool false]):=by
 refine aw func19 ?_;refine bm λg1 J a7 X ay=>?_;have ae:=h.box X ay;refine ae.load λu hu=>?_;refine (N7 hu U ax).mono ?_;rintro _ V _ ⟨Y,eJ,rfl⟩;rw[bf,bg,bu];cases az:ds s j pos v with
 |none=>
  rw[S0,X3,bA];exact⟨X.trans Y,rfl⟩
 |some q=>
 obtain⟨f,u',x⟩:=q;rw[T9,Z8,aS];obtain⟨aB,aC,W,a8,aa,aE⟩:=jb az;obtain⟨bb,aG,bc,aH⟩:=h6 aE;obtain⟨j,rfl⟩:=W5 aB;obtain⟨pos,rfl⟩:=W5 aC;rw[u9] at W aa;have ah:=x5 W;have aJ:=(x4.1 aa).1;have ai:∀u,f.sc[pos]? =σ u->v∈dk s u:=λu hu=>by
  rw[aa] at hu;cases hu;unfold dk;rw[aG];exact aH
 have ak:=ae.ext Y;obtain⟨szv,bd,be,bh,bi,bj,an,bk,_,bn,bo,bp,aK,br⟩:=id ak;rw[aD a6.p 0 an rfl];refine ak.load λbt aM=>?_;refine (DS aM U W aJ ai).mono ?_;rintro aI aN _ ⟨ao,ab,_⟩;rw[aV am.u ab];have ap:(k5 s f pos v).length=(cb s f.sc pos v).length:=by unfold k5;rw[u7]
 rw[ap];refine bU.range (cb s f.sc pos v).length (λi aO ac=>Ext aN ac/\aO=Δ ((((cb s f.sc pos v).take i).map (bl f.af f.cs)).foldl min k)) (by rw[<-ap];exact ab.le) ⟨Ext.refl _,rfl⟩ ?_ ?_
 .rintro i _ ac aP hi ⟨I,rfl⟩ aQ;obtain⟨tl,ad⟩:=aF (l:=cb s f.sc pos v) hi;obtain⟨m,hm⟩:=te U ah ai (x5 ad);have aR:(k5 s f pos v)[i]? =σ (m:Int):=by
   unfold k5;rw[x8,ad];unfold nJ;rw[Z2,hm];rfl
  obtain⟨aU,bw⟩:=k2 U ah;have bx:=(x4.1 (mb aU hm)).1;obtain⟨c,au⟩:=aF (l:=f.cs) (i:=m) Ω;have aW:bl f.af f.cs tl=c:=by
   unfold bl;rw[hm];simp[u4,au]
  have av:=ao.trans I;refine bB Ω ?_;rw[ba am.u ag.i Ψ (ab.ext I) aR,aD a6.p 6 (an.ext av) rfl];refine jV (i:=j) rfl e4.u ed.i (bq aK av) (by rw[x8,W];rfl) λb o cs aX aY=>?_;obtain⟨bz,bC,v3,rfl,h1,bD,a1⟩:=mu aY;rw[aT ed.p rfl,aT aZ.p rfl,aA (v:=v3) Ψ (aX 2 _ rfl),ba aq.u al.i Ψ (dp a1) au];refine CX.mono ?_;rintro _ bE _ ⟨rfl,a2⟩;rw[aL];refine aQ _ _ ⟨I.trans a2,?_⟩;rw[r8,ad,l9,c8,List.foldl_append,List.map_singleton,aW];rfl
 .rintro _ ac aP ⟨I,rfl⟩;rw[o6];refine b6 Ω ?_;exact⟨(X.trans Y).trans (ao.trans I),rfl⟩
theorem ti {b:Int} (h1:0<=a/\a<=4294967296) (U:0<=b/\b<=4294967296):aj x7 FZ [Δ a,Δ b,Δ k] w λr w'=>r=Δ (dD k a b)/\Ext w w':=by
 refine aw func108 ?_;refine (show aj x7 GV [Δ a,Δ b,Δ k] w λr w'=>(∃q,r= .tuple #[Δ (dD k a b),q])/\Ext w w' from ?_).mono ?_
 .refine aw func176 ?_;unfold dD;rw[be,ai];refine⟨λh=>⟨⟨_,by rw[if_pos h]⟩,Ext.refl _⟩,λh=>?_⟩;rw[dP,wrap_i64 Ω Ω,lr,if_neg h];exact⟨⟨_,rfl⟩,Ext.refl _⟩
 .rintro _ J _ ⟨⟨q,rfl⟩,I⟩;rw[bf,bg];exact⟨rfl,I⟩
end
def dt (w:x3) (ab ad an:Nat) (A R:ah) (A9:Nat->ah) (aH:ah) (n:aQ) (s:au) (t:ay) (h:List ay) (u:au) (w':x3):Prop:=ae (λr=>(∃q,A9 q r)\/r=an) w w'/\ ∃cD cs,cq w' ab ad an A R cD aH n s u t h cs/\ ∀q r,cD q r->(∃I,A9 I r)\/w.heap.size<=r
section
variable {w w' J V:x3} {ab ad an:Nat} {A R:ah} {A9:Nat->ah} {aH:ah} {n:aQ} {s u eI eJ:au} {t:ay} {h:List ay} {cs:List x1}
theorem dt.same (p:cq w ab ad an A R A9 aH n s u t h cs) (I:Ext w w'):dt w ab ad an A R A9 aH n s t h u w':=⟨I.aa _,A9,cs,p.ext I,λq r h=>.inl ⟨q,h⟩⟩
theorem dt.comp {cD:Nat->ah} (U:ae (λr=>(∃q,A9 q r)\/r=an) w J) (W:∀q r,cD q r->(∃I,A9 I r)\/w.heap.size<=r) (d:dt J ab ad an A R cD aH n s t h eJ V):dt w ab ad an A R A9 aH n s t h eJ V:=by
 obtain⟨Y,aa,b7,ac,af⟩:=d;have z:=U.size;refine⟨?_,aa,b7,ac,λq r X=>(af q r X).elim (λ⟨I,h⟩=>W I r h) λh=>.inr Ω⟩;refine ((U.mono λr _ h=>.inl h).trans (Y.mono λr _ h=>?_):ae (λr=>((∃q,A9 q r)\/r=an)\/w.heap.size<=r) w V).mono λr X h=>h.elim id λh=>Ω
 rcases h with⟨q,h⟩|h
 .exact (W q r h).imp .inl id
 .exact .inl (.inr h)
def jc (w:x3) (ab ad an:Nat) (A R:ah) (A9:Nat->ah) (aH:ah) (n:aQ) (s:au) (t:ay) (h:List ay) (u:au) (w':x3):Prop:=ae (A9 2) w w'/\ ∃cD cs,cq w' ab ad an A R cD aH n s u t h cs/\(∀q r,cD q r->(∃I,A9 I r)\/w.heap.size<=r)/\ ∀r,cD 2 r->A9 2 r\/w.heap.size<=r
theorem jc.DT (d:jc w ab ad an A R A9 aH n s t h u w'):dt w ab ad an A R A9 aH n s t h u w':=by
 obtain⟨h1,cD,cs,I,J,_⟩:=d;exact⟨h1.mono λr _ h=>.inl ⟨2,h⟩,cD,cs,I,J⟩
theorem jc.same (p:cq w ab ad an A R A9 aH n s u t h cs) (I:Ext w w'):jc w ab ad an A R A9 aH n s t h u w':=⟨I.aa _,A9,cs,p.ext I,λq r h=>.inl ⟨q,h⟩,λr h=>.inl h⟩
theorem jc.comp {cD:Nat->ah} (W:ae (A9 2) w J) (Y:∀q r,cD q r->(∃U,A9 U r)\/w.heap.size<=r) (X:∀r,cD 2 r->A9 2 r\/w.heap.size<=r) (d:jc J ab ad an A R cD aH n s t h eJ V):jc w ab ad an A R A9 aH n s t h eJ V:=by
 obtain⟨aa,ac,b7,af,ag,ai⟩:=d;have z:=W.size;refine⟨?_,ac,b7,af,λq r I=>(ag q r I).elim (λ⟨U,h⟩=>Y U r h) λh=>.inr Ω,λr I=>(ai r I).elim (X r) λh=>.inr Ω⟩;exact ((W.mono λr _ h=>.inl h).trans (aa.mono λr _ h=>X r h):ae (λr=>A9 2 r\/w.heap.size<=r) w V).mono λr I h=>h.elim id λh=>Ω
theorem cq.N8 {T:ah} {v:x1} {u':au} (p:cq w ab ad an A R A9 aH n s u t h cs) (W:∀q r,A9 q r->r<w.heap.size) (X:cs[5]? =σ v) (J:ae T w w') (U:∀r,r<w.heap.size->T r->A9 2 r) (Y:bx (λr=>A9 2 r\/w.heap.size<=r) aH w' [v] (u'.vars.map (·.un)))
  (aa:u'.zero=u.zero) (ac:u'.vars.map aK=u.vars.map aK) (af:(u'.vars.map λx=>decide (x.gone≠0))=u.vars.map λx=>decide (x.gone≠0)) (ag:u'.funs=u.funs) (ai:u'.gG=u.gG):
  ∃cD,cq w' ab ad an A R cD aH n s u' t h cs/\(∀q r,cD q r->(∃aj,A9 aj r)\/w.heap.size<=r)/\ ∀r,cD 2 r->A9 2 r\/w.heap.size<=r:=by
 have ak:=ca.kj p.doc (wU J) (λr I=>.inl (U r I.2 I.1)) Y (λj r al I=>?_) (λr I=>?_)
 .have V:=wV (w:=w) (A9:=A9) (q:=2) (B:=λr=>A9 2 r\/w.heap.size<=r) λr h=>h;refine⟨_,p.row J U ?_ V,V,λr I=>I⟩;have:=ca.pI X ak;unfold h3;rw[aa,ac,af,ag,ai];exact this
 .rcases I with I|I
  .exact p.gi.1 2 j r (Ne.symm al) I
  .exact λh=>by have:=W j r h;omega
 .rcases I with I|I
  .exact p.gi.2 2 r I
  .exact λh=>by have:=(p.read r h).2.1;omega
theorem w2 (p:cq w ab ad an A R A9 aH n s u t h cs) {i:Nat} {x:bP} (V:u.vars[i]? =σ x):∃g cap y,cs[5]? =σ (.slice (σ ⟨g,0,ν⟩) u.vars.length cap)/\w.cell? ⟨g,i,ν⟩=σ y/\aB .i64 w y x.un/\
  ∀ {w':x3} {v:Nat} {c:Int} {K:Unit->x3->Prop},Ext w w'->v<x.un.length->(∀ae,jc w ab ad an A R A9 aH n s t h (eu u i x (x.un.set v c)) ae->K () ae)->
   U x7 (j5 aq y (Δ (v:Int))) w' λa=>ax x7 (o7 al a (Δ c)) w' K:=by
 have af:=p.olds;obtain⟨szv,aJ,aL,aM,aN,aO,ag,_,_,_,ah,_,_,W⟩:=id af.doc;obtain⟨g,cap,c,aP,e,ap,ai,aQ,_⟩:=tc (i:=i) (a:=x.un) ah (by rw[x8,V];rfl) λr _ h=>(W rfl).2 2 r h;obtain⟨y,rfl⟩:=W6.1 (ak.len ai);have aj:w.cell? ⟨g,i,ν⟩=σ y:=by
  have:=ap 0 y rfl;simpa[show ak.n (Λ)=1 from rfl] using this
 rw[u7] at e;refine⟨g,cap,y,by rw[ag,<-e];rfl,aj,dp (ho ai),λ{w' v c K} J au av=>?_⟩;have aw:=af.ext J;have z:=J.size;obtain⟨aR,aS,aT,aU,am,ay,ao,X,az⟩:=tc (i:=i) (a:=x.un) (bq ah J) (by rw[x8,V];rfl) λr _ h=>(W rfl).2 2 r h;obtain⟨Y,rfl⟩:=W6.1 (ak.len ao);rw[u7,e] at am;cases am;have aA:Y=y:=by
  have h1:=ay 0 Y rfl;have h1:w'.cell? ⟨g,i,ν⟩=σ Y:=by simpa[show ak.n (Λ)=1 from rfl] using h1
  rw[ig J aj] at h1;exact (c9 h1).symm
 subst aA;refine Da (α:=Int) (i:=v) (A:=λ_=>False) rfl rfl aq.u al.i ao au rfl rfl (λr _ I=>⟨λh=>h,(W rfl).2 2 r (X r I)⟩) λaV ac aC=>?_;have aD:=az ac (λr _ h=>h) aC λr I=>I.elim .inl False.elim;obtain⟨cD,aE,aF,aG⟩:=aw.N8 (u':=eu u i x (x.un.set v c)) (λq r h=>by have:=h.2;omega) (by rw[ag];rfl) ac (λr _ h=>X r h) (by show bx _ _ _ _ ((u.vars.set i {x with un:=x.un.set v c}).map (·.un));rw[U1];exact aD) rfl (td V (by unfold aK;simp)) (td V rfl) rfl rfl;refine av _ ⟨(J.aa _).trans (ac.mono λr _ h=>(X r h).1),cD,cs,aE,λq r I=>?_,λr I=>?_⟩
 .rcases aF q r I with⟨aI,h⟩|h
  .exact .inl ⟨aI,h.1⟩
  .exact .inr Ω
 .exact (aG r I).imp (λh=>h.1) λh=>Ω
theorem N9 (p:cq w ab ad an A R A9 aH n s u t h cs) {f:cJ} (ai:u.funs[j]? =σ f):∃g cap I W y,cs[6]? =σ (.slice (σ ⟨g,0,ν⟩) u.funs.length cap)/\w.rangeAt g (j*4) [I,W,y,.bool (decide (f.live≠0))]/\aB .i64 w I f.sc/\aB .i64 w y f.cs/\
  ∀ {w':x3} {m:Nat} {c:Int} {K:Unit->x3->Prop},Ext w w'->m<f.cs.length->(∀aj,dt w ab ad an A R A9 aH n s t h (dF u j f (f.cs.set m c)) aj->K () aj)->
   U x7 (j5 aq y (Δ (m:Int))) w' λa=>ax x7 (o7 al a (Δ c)) w' K:=by
 have am:=p.olds;obtain⟨szv,aR,aS,aT,aU,aV,ao,_,_,_,_,ap,_,X⟩:=id am.doc;obtain⟨g,cap,c,aW,e,Y,av,aX,_⟩:=tc (i:=j) (a:=hE f) ap (by rw[x8,ai];rfl) λr _ h=>(X rfl).2 3 r h;have aw:=mu av;obtain⟨I,W,y,rfl,ay,aY,az⟩:=aw;rw[u7] at e;have Y:w.rangeAt g (j*4) [I,W,y,.bool (decide (f.live≠0))]:=Y;refine⟨g,cap,I,W,y,by rw[ao,<-e];rfl,Y,dp ay,dp az,λ{w' m c K} J hm aA=>?_⟩;have aC:=am.ext J;have z:=J.size;obtain⟨aZ,a1,a2,a6,au,ag,aD,ac,aE⟩:=tc (i:=j) (a:=hE f) (bq ap J) (by rw[x8,ai];rfl) λr _ h=>(X rfl).2 3 r h;rw[u7,e] at au;cases au;obtain⟨aF,aG,ah,a7,rfl,aI,ae,aJ⟩:=NT aD λr h=>(X rfl).2 3 r (ac r h);have ag:w'.rangeAt g (j*4) [aF,aG,ah,.bool (decide (f.live≠0))]:=ag;have aK:ah=y:=by
  have h1:=ag 2 ah rfl;rw[(mU J Y) 2 y rfl] at h1;exact (c9 h1).symm
 subst aK;refine Da (α:=Int) (i:=m) (A:=λ_=>False) rfl rfl aq.u al.i aI hm rfl rfl (λr _ V=>⟨λh=>h,(X rfl).2 3 r (ac r (ae r V))⟩) λa8 af aL=>?_;have aM:=aJ af (ak.mono aL (λr _ h=>h.elim id False.elim) λ_ _ h=>h);have aN:=aE af (λr _ h=>ae r h) aM λr V=>.inl V;obtain⟨cD,aO,aP⟩:=aC.NR (u':=dF u j f (f.cs.set m c)) (λq r h=>by have:=h.2;omega) (by rw[ao];rfl) af (λr _ h=>ac r (ae r h)) (by show bx _ _ _ _ ((u.funs.set j {f with cs:=f.cs.set m c}).map hE);rw[U1];exact aN) rfl rfl rfl;refine aA _ ⟨(J.aa _).trans (af.mono λr _ h=>.inl ⟨3,(ac r (ae r h)).1⟩),cD,cs,aO,λq r V=>?_⟩;rcases aP q r V with⟨aQ,h⟩|h
 .exact .inl ⟨aQ,h.1⟩
 .exact .inr Ω
theorem Oa (p:cq w ab ad an A R A9 aH n s u t h cs) {K:Unit->x3->Prop} (U:∀J,dt w ab ad an A R A9 aH n s t h {u with zero:=c} J->K () J):ax x7 (o7 al (.pointer (σ ⟨an,0+2,ν⟩)) (Δ c)) w K:=by
 refine bz (o:=0+2) al.i rfl rfl p.box (by rw[p.doc.len.1];omega) λV I X W=>?_;refine U _ ⟨I.mono λr _ h=>.inr h,A9,_,p.DH I (λr _ h=>.inr h) W ?_ λq r h=>.inl ⟨q,h⟩,λq r h=>.inl ⟨q,h⟩⟩;exact (ca.aa p.doc I λr _ h he=>h.elim (λ⟨q,h⟩=>(p.apart q r h).2.2 he) λh=>(p.read r h).2.2 he).Nd
theorem Ob (p:cq w ab ad an A R A9 aH n s u t h cs) {i:Nat} {x:bP} (V:u.vars[i]? =σ x):∃g cap y,cs[3]? =σ (.slice (σ ⟨g,0,ν⟩) u.vars.length cap)/\w.cell? ⟨g,i,ν⟩=σ y/\aB .i64 w y (aK x)/\(∀r,leads y r->A9 0 r)/\
  ∀ {w':x3} {m:Int} {z:x1} {gz:Nat} {K:Unit->x3->Prop},Ext w w'->ap .i64 ag w' gz z (aK {x with mask:=m})->(∀r,leads z r->w.heap.size<=r)->(∀ai,dt w ab ad an A R A9 aH n s t h {u with vars:=u.vars.set i {x with mask:=m}} ai->K () ai)->
   U x7 (j5 cO (.slice (σ ⟨g,0,ν⟩) u.vars.length cap) (Δ (i:Int))) w' λa=>ax x7 (o7 am a z) w' K:=by
 have aj:=p.olds;have aC:=(x4.1 V).1;obtain⟨szv,aD,aW,aX,aY,aZ,al,_,aE,_,_,_,_,aF⟩:=id aj.doc;obtain⟨g,cap,full,aG,c,a1,e,W,aI,X,ao,Y,aJ,a2,aL⟩:=NP (i:=i) (a:=aK x) aE (by rw[x8,V];rfl) λr _ h=>(aF rfl).2 0 r h;obtain⟨y,rfl⟩:=W6.1 (ak.len Y);rw[u7] at e;have aM:full[i]? =σ y:=by have:=ao 0 y rfl;simpa[show ak.n (Λ)=1 from rfl] using this
 refine⟨g,cap,y,by rw[al,<-e];rfl,by have:=W.cell (o:=i) aM;exact this,dp (ho Y),λr I=>?_,λ{w' m aq gz K} af au av aN=>?_⟩
 .obtain⟨a6,a7,aO,aP⟩:=HP Y;rcases aP with rfl|aQ
  .obtain⟨_,_,_,e,_⟩:=I;cases e
  .obtain⟨e,_⟩:=bR aO I;rw[e];exact (aJ _ aQ).1
 have z:=af.size;have X:i*1+1<=full.length:=X;rw[fm cO.u am.i aC λ_=>rfl];obtain⟨_,_,_,aw⟩:=df au.ls;refine bz (o:=0+i*1) am.i (by rw[aw];rfl) (by rw[aw];rfl) (W.ext af) Ω λay az a8 J=>?_;have J:ac ay g aG (over full (i*1) [aq]):=by
  have e:=NQ (full:=full) (c:=[y]) (o:=i*1) (q:=0) (x:=aq) ao X Ξ;rw[X1] at J;rw[Nat.add_zero] at e;rw[e] at J;exact J
 have ba:g<w.heap.size:=W.lt;have ah:ae (λr=>r=g) w ay:=(af.aa _).trans az;have aR:=bn au az λr I he=>by have he:r=g:=he;have:=av r I;omega
 have aS:=aL ah (λr _ h=>.inr h) J (nE (R:=aH) aR) λr I=>.inr (av r I);have aA:∀r,r<w.heap.size->r=g->A9 0 r/\r<w.heap.size:=λr I h=>by rw[h];exact aI
 obtain⟨cD,aT,aU⟩:=aj.oX (u':={u with vars:=u.vars.set i {x with mask:=m}}) (λq r h=>h.2) (v:=aD) (by rw[al];rfl) ah aA (by show bx _ _ _ _ ((u.vars.set i {x with mask:=m}).map aK);rw[U1];exact aS) rfl (td V rfl) (td V rfl) rfl rfl;refine aN _ ⟨ah.mono λr I h=>.inl ⟨0,(aA r I h).1⟩,cD,cs,aT,λq r I=>?_⟩;rcases aU q r I with⟨aV,h⟩|h
 .exact .inl ⟨aV,h.1⟩
 .exact .inr h
end
def fz (s:au) (sc:Λ) (pos:Int) (v:Int):Nat->Nat->Λ->List (Λ)
 |0,_,tl=>[tl]
 |m+1,p,tl=>if (p:Int)=pos then fz s sc pos v m (p+1) (tl.set p v) else (dk s (sc.getD p 0)).flatMap λx=>fz s sc pos v m (p+1) (tl.set p x)
theorem tj {α:Type} {l:List α} {p:Nat} {x:α} (h:p<l.length):(l.set p x).take (p+1)=l.take p++[x]:=by
 rw[r8,c7 h,List.take_set_of_le (p9 _)];rfl
theorem qx {s:au} {sc:Λ} {pos:Nat} {v:Int}:∀ (m p:Nat) (tl:Λ),sc.length=p+m->tl.length=sc.length->fz s sc pos v m p tl=(h5 (ja s pos v (sc.drop p) p)).map (tl.take p++ ·)
 |0,p,tl,h1,I=>by
  rw[List.drop_eq_nil_of_le Ω,j6 Ω];unfold fz ja h5;rw[List.map_singleton,U5]
 |m+1,p,tl,h1,I=>by
  have J:p<sc.length:=Ω
  obtain⟨u,hu⟩:=aF (l:=sc) J;have V:sc.drop p=u::sc.drop (p+1):=by rw[X7 J,(x4.1 hu).2]
  have W:sc.getD p 0=u:=by rw[u4,hu];rfl
  rw[V];unfold fz ja;rw[h5];by_cases U:p=pos
  .rw[if_pos Ω,if_pos U,List.flatMap_singleton,qx m (p+1) (tl.set p v) Ω (by rw[Z4];exact I),S1,tj Ω];refine List.map_congr_left λr _=>?_;simp
  .rw[if_neg Ω,if_neg U,W,List.map_flatMap];congr 1;funext x;rw[qx m (p+1) (tl.set p x) Ω (by rw[Z4];exact I),S1,tj Ω];refine List.map_congr_left λr _=>?_;simp
theorem Oc {s:au} {p:Nat} {I:Λ} (h1:sc.length=p+m) (J:tl.length=sc.length) (U:I.length=sc.length) (h:I.take p=tl.take p):fz s sc pos v m p I=fz s sc pos v m p tl:=by
 rw[qx m p tl h1 J,qx m p I h1 U,h]
theorem Od {s:au} (h:tl.length=sc.length):fz s sc pos v sc.length 0 tl=cb s sc pos v:=by
 rw[qx sc.length 0 tl Ω h];unfold cb;simp
def mz (w:x3) (ab gs bC bk a1:Nat) (aJ:x1) (pos v:Int):Prop:=ac w gs dH [Γ ab]/\ac w bC am [aJ]/\ac w bk ag [Δ pos]/\ac w a1 ag [Δ v]
theorem mz.aa {S:ah} {bC bk a1:Nat} {aJ:x1} {pos:Int} (h:mz w ab gs bC bk a1 aJ pos v) (I:ae S w w') (J:¬S gs/\¬S bC/\¬S bk/\¬S a1):mz w' ab gs bC bk a1 aJ pos v:=
 ⟨h.1.aa I J.1,h.2.1.aa I J.2.1,h.2.2.1.aa I J.2.2.1,h.2.2.2.aa I J.2.2.2⟩
theorem mz.ext {bC bk a1:Nat} {aJ:x1} {pos:Int} (h:mz w ab gs bC bk a1 aJ pos v) (I:Ext w w'):mz w' ab gs bC bk a1 aJ pos v:=h.aa (I.aa λ_=>False) ⟨id,id,id,id⟩
def fJ (ab ad:Nat) (R:ah) (n:aQ) (s:au) (gs bC bk a1:Nat) (aJ:x1) (sc:Λ) (pos v:Int) (B0:Nat) (D:Nat->Prop) (w:x3):Prop:=
 mz w ab gs bC bk a1 aJ pos v/\(gs<B0/\bC<B0/\bk<B0/\a1<B0)/\aB .i64 w aJ sc/\(∀r,leads aJ r->r<B0)/\(Laid w/\B0<=w.heap.size)/\ ∃A s' bp,bJ w ab ad A R n s' bp/\(∀i,dk s' i=dk s i)/\ ∀r,A r\/R r->r<B0\/D r
section
variable {ab ad gs bC bk a1 B0:Nat} {R:ah} {n:aQ} {s:au} {aJ:x1} {sc:Λ} {pos v:Int}
theorem fJ.ext (h:fJ ab ad R n s gs bC bk a1 aJ sc pos v B0 D w) (I:Ext w w'):fJ ab ad R n s gs bC bk a1 aJ sc pos v B0 D w':=by
 obtain⟨h1,U,V,W,J,A,s',bp,X,Y,aa⟩:=h;exact⟨h1.ext I,U,V.ext I,W,⟨J.1.ext I,Y7 J.2 I.size⟩,A,s',bp,X.ext I,Y,aa⟩
def jD (w:x3) (l gy gt gtb ga:Nat) (gO:Array x1) (q:Nat) (tl:Λ):Prop:=ac w gy y5 [.func (.yield l) #[] #[]]/\ac w gtb am [.slice (σ ⟨gt,0,ν⟩) q q]/\ac w ga n2 [.func (.func ll) #[] gO]/\
 ap .i64 ag w gt (.slice (σ ⟨gt,0,ν⟩) q q) tl
theorem jD.aa {S:ah} {l q:Nat} {gO:Array x1} (h:jD w l gy gt gtb ga gO q tl) (I:ae S w w') (J:¬S gy/\¬S gtb/\¬S ga/\¬S gt):jD w' l gy gt gtb ga gO q tl:=
 ⟨h.1.aa I J.1,h.2.1.aa I J.2.1,h.2.2.1.aa I J.2.2.1,bn h.2.2.2 I λr U=>by
  obtain⟨a,_,_,e,V⟩:=U;cases e;rw[<-V];exact J.2.2.2⟩
theorem jD.ext {l q:Nat} {gO:Array x1} (h:jD w l gy gt gtb ga gO q tl) (I:Ext w w'):jD w' l gy gt gtb ga gO q tl:=h.aa (I.aa λ_=>False) ⟨id,id,id,id⟩
theorem Oe (I:aB .i64 w aJ sc):aj x7 yQ [Γ ab,aJ,Δ pos,Δ v] w λr w'=>Ext w w'/\ ∃gs bC bk a1,r= .func (.func lk) #[] #[Γ bC,Γ bk,Γ a1,Γ gs]/\mz w' ab gs bC bk a1 aJ pos v/\w.heap.size<=gs/\w.heap.size<=bC/\w.heap.size<=bk/\w.heap.size<=a1:=by
 obtain⟨_,_,_,ah⟩:=df I;refine aw func121 ?_;refine bm λgs J ak af Y=>?_;refine bm λbC V al aa U=>?_;refine bm λbk an ao W ad=>?_;refine bm λa1 ae ap X ai=>?_;have Y:ac ae gs dH [Γ ab]:=((ac.ext Y aa).ext W).ext X;have U:ac ae bC am [aJ]:=by rw[ah] at U ⊢;exact (ac.ext U W).ext X
 have ad:ac ae bk ag [Δ pos]:=ac.ext ad X;rw[lZ];have aq:=af.size;have au:=aa.size;have z3:=W.size;exact⟨((af.trans aa).trans W).trans X,gs,bC,bk,a1,rfl,⟨Y,U,ad,ai⟩,Ω,Ω,Ω,Ω⟩
theorem fJ.own {S:ah} (h:fJ ab ad R n s gs bC bk a1 aJ sc pos v B0 D w) (U:ae S w w') (W:∀r,S r->B0<=r/\¬D r):fJ ab ad R n s gs bC bk a1 aJ sc pos v B0 D w':=by
 obtain⟨h1,J,ag,X,Y,A,s',bp,ac,ai,af⟩:=h;have no:∀ {r:Nat},r<B0->¬S r:=λh1 J=>by have:=(W _ J).1;omega
 refine⟨h1.aa U ⟨no J.1,no J.2.1,no J.2.2.1,no J.2.2.2⟩,J,hv ag U λr V a n c e aj=>?_,X,⟨?_,Y7 Y.2 U.size⟩,A,s',bp,⟨ac.1.aa U λr _ V I=>?_,ac.2⟩,ai,af⟩
 .exact no (X r ⟨a,n,c,e,aj⟩) V
 .exact jQ U (no Ω) Y.1
 .exact (af r V).elim (λh=>no h I) (W r I).2
def Of (P:(Nat->Prop)->x3->Prop) (av:(Nat->Prop)->Nat->x3->Prop) (L:List (Λ)) (l B:Nat):Prop:=∀ (D:Nat->Prop) (k:Nat) tl aI w',(∀r,D r->B<=r/\r<w'.heap.size)->B<=w'.heap.size->P D w'->L[k]? =σ tl->aB .i64 w' aI tl->av D k w'->
 hh x7 l [aI] w' λu I=>u= .bool true/\(∃D',(∀r,D' r->D r\/w'.heap.size<=r/\r<I.heap.size)/\(∀r,D r->D' r)/\P D' I/\av D' (k+1) I)/\cG w' I/\w'.heap.size<=I.heap.size/\ae (λr=>r<B\/D r) w' I
def qy (D:Nat->Prop) (B gy gtb ga gt:Nat):Prop:=(B<=gy/\¬D gy)/\(B<=gtb/\¬D gtb)/\(B<=ga/\¬D ga)/\B<=gt/\¬D gt
theorem qy.go {D':Nat->Prop} {ch:Nat} (h:qy D B gy gtb ga gt) (I:∀r,D' r->D r\/m<=r/\r<ch) (hm:gy<m/\gtb<m/\ga<m/\gt<m):qy D' B gy gtb ga gt:=
 have f:∀ {g:Nat},g<m->¬D g->¬D' g:=λh1 J U=>(I _ U).elim J λh=>Ω
 ⟨⟨h.1.1,f hm.1 h.1.2⟩,⟨h.2.1.1,f hm.2.1 h.2.1.2⟩,⟨h.2.2.1.1,f hm.2.2.1 h.2.2.1.2⟩,h.2.2.2.1,f hm.2.2.2 h.2.2.2.2⟩
theorem jD.lt {l q:Nat} {gO:Array x1} (h:jD w l gy gt gtb ga gO q tl):gy<w.heap.size/\gtb<w.heap.size/\ga<w.heap.size/\gt<w.heap.size:=
 ⟨h.1.lt,h.2.1.lt,h.2.2.1.lt,(bR h.2.2.2 ⟨_,_,_,rfl,rfl⟩).2⟩
def AtR (l gy gt gtb ga:Nat) (gO:Array x1) (P:(Nat->Prop)->x3->Prop) (av:(Nat->Prop)->Nat->x3->Prop) (S:ah) (D:Nat->Prop) (w:x3) (sl k p:Nat) (tl:Λ) (w':x3):Prop:=
 w.heap.size<=w'.heap.size/\ ∃D' I,I.length=sl/\I.take p=tl.take p/\jD w' l gy gt gtb ga gO sl I/\((∀r,D' r->D r\/w.heap.size<=r/\r<w'.heap.size)/\ ∀r,D r->D' r)/\P D' w'/\av D' k w'/\ae S w w'
section
variable {l gy gt gtb ga B:Nat} {gO:Array x1} {P:(Nat->Prop)->x3->Prop} {av:(Nat->Prop)->Nat->x3->Prop} {S T:ah} {D:Nat->Prop} {w J V:x3} {sl k p:Nat} {tl:Λ}
theorem AtR.own (ab:∀D T J V,ae T J V->(∀r,T r->B<=r/\¬D r)->P D J->P D V) (ac:∀D k J V,ae (λr=>B<=r/\¬D r) J V->fg B J V->av D k J->av D k V)
  (h:AtR l gy gt gtb ga gO P av S D w sl k p tl J) (U:ae T J V) (ad:fg B J V) (I:∀r,T r->r<w.heap.size/\¬D r/\B<=r/\S r/\r≠gy/\r≠gtb/\r≠ga/\r≠gt):AtR l gy gt gtb ga gO P av S D w sl k p tl V:=by
 obtain⟨af,D',ag,h1,ah,ai,⟨X,aj⟩,ak,al,am⟩:=h;have Y:∀r,T r->B<=r/\¬D' r:=λr W=>⟨(I r W).2.2.1,λan=>(X r an).elim (I r W).2.1 λh=>by have:=(I r W).1;omega⟩;exact⟨Y7 af U.size,D',ag,h1,ah,ai.aa U ⟨λh=>(I _ h).2.2.2.2.1 rfl,λh=>(I _ h).2.2.2.2.2.1 rfl,λh=>(I _ h).2.2.2.2.2.2.1 rfl,λh=>(I _ h).2.2.2.2.2.2.2 rfl⟩,
  ⟨λr W=>(X r W).imp id λh=>⟨h.1,R3 h.2 U.size⟩,aj⟩,ab D' T J V U Y ak,ac D' k J V (U.mono λr _ h=>Y r h) ad al,am.trans (U.mono λr _ h=>(I r h).2.2.2.1)⟩
theorem AtR.base {w0:x3} (h:AtR l gy gt gtb ga gO P av S D w sl k p tl J) (I:Ext w0 w) (U:∀r,r<w0.heap.size->S r->T r):AtR l gy gt gtb ga gO P av T D w0 sl k p tl J:=by
 obtain⟨V,D',W,h1,X,Y,⟨ab,ac⟩,ad,ae,af⟩:=h;exact⟨Y7 I.size V,D',W,h1,X,Y,⟨λr ag=>(ab r ag).imp id λh=>⟨Y7 I.size h.1,h.2⟩,ac⟩,ad,ae,((I.aa S).trans af).mono U⟩
theorem AtR.comp {U:Nat->Prop} {Y:Λ} {x:Int} (X:∀r,r<B\/D r\/r=gt->S r) (aa:∀r,U r->D r\/w.heap.size<=r/\r<J.heap.size) (ac:∀r,D r->U r) (ab:ae S w J) (ad:Y.take p=tl.take p)
  (h:AtR l gy gt gtb ga gO P av (λr=>r<B\/U r\/r=gt) U J sl k (p+1) (Y.set p x) V):AtR l gy gt gtb ga gO P av S D w sl k p tl V:=by
 obtain⟨af,D',ag,h1,ah,ai,⟨aj,ak⟩,al,am,an⟩:=h;have I:=ab.size;refine⟨Y7 I af,D',ag,h1,?_,ai,⟨λr W=>?_,λr W=>ak r (ac r W)⟩,al,am,?_⟩
 .have:=congrArg (List.take p) ah;rw[List.take_take,List.take_take,Nat.min_eq_left Ω,List.take_set_of_le (p9 _)] at this;rw[this,ad]
 .rcases aj r W with h|h
  .exact (aa r h).imp id λh=>⟨h.1,Ω⟩
  .exact .inr ⟨Ω,h.2⟩
 .refine ((ab.mono λr _ h=>.inl h).trans (an.mono λr _ h=>?_):ae (λr=>S r\/w.heap.size<=r) w V).mono λr W h=>h.elim id λh=>Ω
  rcases h with h|h|h
  .exact .inl (X r (.inl h))
  .exact (aa r h).elim (λh=>.inl (X r (.inr (.inl h)))) λh=>.inr h.1
  .exact .inl (X r (.inr (.inr h)))
end
theorem Og {α β:Type} {l:List α} {I:α->List β} {i:Nat} {y:α} {z:β} (h:l[j]? =σ y) (hi:(I y)[i]? =σ z):(l.flatMap I)[((l.take j).flatMap I).length+i]? =σ z:=by
 have J:=(x4.1 h).1;have e:l=l.take j++y::l.drop (j+1):=by
  conv=>lhs;rw[<-List.take_append_drop j l,X7 J,(x4.1 h).2]
 conv=>lhs;rw[e,List.flatMap_append,W9]
 have U:=(x4.1 hi).1;have el:((l.take j++y::l.drop (j+1)).take j)=l.take j:=by rw[List.take_append_of_le_length (by rw[j0];omega),List.take_take,Nat.min_self]
 rw[el,Y1 Ω,S5,Y0 U];exact hi
theorem Oh {t:r9} {b o:Nat} {x:x1} {K:x1->Prop} (I:jl x7 t=true) (h:w.cell? ⟨b,o,ν⟩=σ x):U x7 (do loadVar t (<-asAddr (.pointer (σ ⟨b,o,ν⟩)))) w K=K x:=U.of λw' J=>by
 have h':=ig J h;unfold jl at I;cases hu:x7.underlying t with
 |none=>rw[hu] at I;cases I
 |some d=>
  rw[hu] at I;cases d<;>first|(cases I;done)|simp[asAddr,loadVar,isAgg,run_underlying hu,h']
def jE (bC gy gtb bk a1 ga gs:Nat):Array x1:=#[Γ bC,Γ gy,Γ gtb,Γ bk,Γ a1,Γ ga,Γ gs]
def tk (p:Nat) (bC gy gtb bk a1 ga gs:Nat):List x1:=[Δ (p:Int),Γ bC,Γ gy,Γ gtb,Γ bk,Γ a1,Γ ga,Γ gs]
theorem Oi {l:Nat} {av:(Nat->Prop)->Nat->x3->Prop} (ca:0<=pos) (cb:∀u∈sc,0<=u/\u<n.sizes.length) (dg:sc.length<=6) (cc:B0<=B) (aD:gt≠gy/\gt≠gtb/\gt≠ga)
  (au:∀D k J V,ae (λr=>B<=r/\¬D r) J V->fg B J V->av D k J->av D k V) (cd:Of (fJ ab ad R n s gs bC bk a1 aJ sc pos v B0) av L l B):
  ∀ (q p:Nat) (tl:Λ) (k:Nat) (D:Nat->Prop) (w:x3),sc.length=p+q->tl.length=sc.length->(∀r,D r->B<=r/\r<w.heap.size)->B<=w.heap.size->qy D B gy gtb ga gt->jD w l gy gt gtb ga (jE bC gy gtb bk a1 ga gs) sc.length tl->fJ ab ad R n s gs bC bk a1 aJ sc pos v B0 D w->av D k w->
   (∀i x,(fz s sc pos v q p tl)[i]? =σ x->L[k+i]? =σ x)->
   aj x7 ll (tk p bC gy gtb bk a1 ga gs) w λr w'=>r= .bool true/\AtR l gy gt gtb ga (jE bC gy gtb bk a1 ga gs) (fJ ab ad R n s gs bC bk a1 aJ sc pos v B0) av (λr=>r<B\/D r\/r=gt) D w sc.length (k+(fz s sc pos v q p tl).length) p tl w':=by
 obtain⟨W,rfl⟩:=W5 ca;have aE:∀D T J V,ae T J V->(∀r,T r->B<=r/\¬D r)->fJ ab ad R n s gs bC bk a1 aJ sc W v B0 D J->fJ ab ad R n s gs bC bk a1 aJ sc W v B0 D V:=λD T J V bi bH h=>h.own bi λr X=>⟨Y7 cc (bH r X).1,(bH r X).2⟩;have bj:∀ {ao:x3} {K:x1->Prop},ac ao bC am [aJ]->K aJ->U x7 (u5 am (Γ bC)) ao K:=λbl bn=>by rw[aA (v:=aJ) Ψ (bl.Qz rfl)];exact bn
 have bo:∀ {bq p:Nat} {tl:Λ} {D:Nat->Prop} {w V ao:x3} {I:Nat} {b:Bool},Ext w V->w.heap.size<=I->I<V.heap.size->(∀r,D r->B<=r/\r<w.heap.size)->B<=w.heap.size->(gy<w.heap.size/\gtb<w.heap.size/\ga<w.heap.size/\gt<w.heap.size)->
   AtR l gy gt gtb ga (jE bC gy gtb bk a1 ga gs) (fJ ab ad R n s gs bC bk a1 aJ sc W v B0) av (λr=>r<B\/D r\/r=gt\/r=I) D V sc.length bq p tl ao->ac ao I eW [.bool b]->
   ax x7 (o7 eW (Γ I) (.bool true)) ao λ(_:Unit) a6=>U x7 (do loadVar eW (<-asAddr (Γ I))) a6 λr=>tN w.heap.size a6 λbI=>r= .bool true/\AtR l gy gt gtb ga (jE bC gy gtb bk a1 ga gs) (fJ ab ad R n s gs bC bk a1 aJ sc W v B0) av (λr=>r<B\/D r\/r=gt) D w sc.length bq p tl bI:=by
  intro bq p tl D w V ao I b ak bJ aG Y aH aO br bt;have ce:∀r,r=I->r<V.heap.size/\¬D r/\B<=r/\(r<B\/D r\/r=gt\/r=I)/\r≠gy/\r≠gtb/\r≠ga/\r≠gt:=by
   rintro r rfl;exact⟨aG,λh=>by have:=(Y _ h).2;omega,Ω,.inr (.inr (.inr rfl)),Ω,Ω,Ω,Ω⟩
  refine ax.ck (bz eW.i rfl rfl bt Ξ λa6 cg dh bw ch=>?_);have bw:ac a6 I eW [.bool true]:=bw;have ci:=br.own aE au cg ch.o ce;rw[Oh (x:=.bool true) Ψ (bw.Qz rfl)];intro bI cj cl;refine⟨rfl,((ci.own aE au (cj.aa λ_=>False) (cl.2.mono aH) λ_ h=>h.elim).base ak λr X h=>?_)⟩;rcases h with h|h|h|h
  .exact .inl h
  .exact .inr (.inl h)
  .exact .inr (.inr h)
  .omega
 intro q;induction q with
 |zero=>
  intro p tl k D w cm aP Y aH af aQ bx bA aR;refine ie func179 ?_;refine ax.ck (bm λg1 J cn aT ah bB=>?_);refine ax.ck (bN eW.i λI V bJ az ap bD=>?_);have ak:=aT.trans az;have cp:=aT.size;have cq:=az.size;have ah:ac V g1 ag [Δ (p:Int)]:=ac.ext ah az;have ap:ac V I eW [.bool false]:=ap;have aG:=ap.lt;have a7:=au D k w V (ak.aa _) (bB.trans bD).o bA;have an:=bx.ext ak;have al:=aQ.ext ak;rw[aA (v:=Δ (p:Int)) Ψ (ah.Qz rfl)];refine bj an.1.2.1 ?_;rw[aV am.u an.2.2.1,be,ai];refine⟨λ_=>?_,λh=>absurd Ω h⟩;rw[aA (v:=.func (.yield l) #[] #[]) Ψ (al.1.Qz rfl),aA (v:=.slice (σ ⟨gt,0,ν⟩) sc.length sc.length) Ψ (al.2.1.Qz rfl)];have cr:L[k]? =σ tl:=aR 0 tl rfl;refine (show hh x7 l [.slice (σ ⟨gt,0,ν⟩) sc.length sc.length] V _ from hh.mono (cd D k tl _ V (λr X=>⟨(Y r X).1,by have:=(Y r X).2;omega⟩) Ω an cr al.2.2.2.ls a7) ?_);rintro _ bK ⟨rfl,⟨D',d1,d2,ct,cu⟩,cw,cz,bE⟩;refine⟨cw,?_⟩;have aO:=aQ.lt;have a8:∀ {g:Nat},w.heap.size<=g->¬D g:=λh1 aU=>by have:=(Y _ aU).2;omega
  have aW:∀ {g:Nat},B<=g->¬D g->¬(g<B\/D g):=λh1 aU cA=>cA.elim Ω aU;have bt:ac bK I eW [.bool false]:=ap.aa bE (aW Ω (a8 Ω));have br:AtR l gy gt gtb ga (jE bC gy gtb bk a1 ga gs) (fJ ab ad R n s gs bC bk a1 aJ sc W v B0) av (λr=>r<B\/D r\/r=gt\/r=I) D V sc.length (k+1) p tl bK:=
   ⟨cz,D',tl,aP,rfl,al.aa bE ⟨aW af.1.1 af.1.2,aW af.2.1.1 af.2.1.2,aW af.2.2.1.1 af.2.2.1.2,aW af.2.2.2.1 af.2.2.2.2⟩,⟨d1,d2⟩,ct,cu,bE.mono λr _ h=>h.imp id .inl⟩
  exact bo ak Ω aG Y aH aO br bt
 |succ q bL=>
  intro p tl k D w cm aP Y aH af aQ bx bA aR;refine ie func179 ?_;refine ax.ck (bm λg1 J cn aT ah bB=>?_);refine ax.ck (bN eW.i λI V bJ az ap bD=>?_);have ak:=aT.trans az;have cp:=aT.size;have cq:=az.size;have ah:ac V g1 ag [Δ (p:Int)]:=ac.ext ah az;have ap:ac V I eW [.bool false]:=ap;have aG:=ap.lt;have h1:=ah.lt;have a7:=au D k w V (ak.aa _) (bB.trans bD).o bA;have an:=bx.ext ak;have al:=aQ.ext ak;have aO:=aQ.lt;have a8:∀ {g:Nat},w.heap.size<=g->¬D g:=λh1 aU=>by have:=(Y _ aU).2;omega
  rw[aA (v:=Δ (p:Int)) Ψ (ah.Qz rfl)];refine bj an.1.2.1 ?_;rw[aV am.u an.2.2.1,be,ai];refine⟨λh=>absurd h Ω,λ_=>?_⟩;rw[aA (v:=Δ (p:Int)) Ψ (ah.Qz rfl),aA (v:=Δ (W:Int)) Ψ (an.1.2.2.1.Qz rfl),be,ai];have bM:∀ {ao:x3} {K:x1->Prop},ac ao gtb am [.slice (σ ⟨gt,0,ν⟩) sc.length sc.length]->K (.slice (σ ⟨gt,0,ν⟩) sc.length sc.length)->U x7 (u5 am (Γ gtb)) ao K:=λbl bn=>by rw[aA (v:=.slice (σ ⟨gt,0,ν⟩) sc.length sc.length) Ψ (bl.Qz rfl)];exact bn
  have bb:∀ {D:Nat->Prop} (r:Nat),qy D B gy gtb ga gt->r=gt->B<=r/\¬D r:=λr h e=>e▸⟨h.2.2.2.1,h.2.2.2.2⟩;refine⟨λhe=>?_,λcB=>?_⟩
  .refine bM al.2.1 ?_;rw[aA (v:=Δ (p:Int)) Ψ (ah.Qz rfl),aA (v:=Δ v) Ψ (an.1.2.2.2.Qz rfl),hs rfl am.u ag.i al.2.2.2 Ω];refine ax.ck (ht ag.i al.2.2.2 Ω λaI ay di cC cD=>?_);have bO:jD aI l gy gt gtb ga (jE bC gy gtb bk a1 ga gs) sc.length (tl.set p v):=⟨al.1.aa ay λh=>aD.1 h.symm,al.2.1.aa ay λh=>aD.2.1 h.symm,al.2.2.1.aa ay λh=>aD.2.2 h.symm,cC⟩;have cE:=aE D _ _ _ ay (λr h=>bb r af h) an;have cF:=au D k V aI (ay.mono λr _ h=>bb r af h) cD.o a7;have cG:ac aI g1 ag [Δ (p:Int)]:=ah.aa ay Ω;have cH:ac aI I eW [.bool false]:=ap.aa ay Ω;rw[aA (v:=.func (.func ll) #[] (jE bC gy gtb bk a1 ga gs)) Ψ (bO.2.2.1.Qz rfl),aA (v:=Δ (p:Int)) Ψ (cG.Qz rfl),aL,wrap_i64 Ω Ω];have hw:fz s sc W v (q+1) p tl=fz s sc W v q (p+1) (tl.set p v):=by rw[fz,if_pos he]
   rw[hw];rw[hw] at aR;refine (show aj x7 ll (tk (p+1) bC gy gtb bk a1 ga gs) aI _ from aj.mono (bL (p+1) (tl.set p v) k D aI Ω (by rw[Z4];exact aP) (λr X=>⟨(Y r X).1,by have:=(Y r X).2;omega⟩) Ω af bO cE cF aR) ?_);rintro _ cI dj ⟨rfl,bP⟩;have cJ:ac cI I eW [.bool false]:=by
    obtain⟨_,_,_,_,_,_,_,_,_,cK⟩:=bP;exact cH.aa cK λh=>by
     rcases h with h|h|h
     .omega
     .exact a8 Ω h
     .omega
   exact bo ak Ω aG Y aH aO (AtR.comp (λr h=>h.imp id λh=>h.imp id .inl) (λr h=>.inl h) (λ_ h=>h) (ay.mono λr _ h=>.inr (.inr (.inl h))) rfl bP) cJ
  intro dl bc _ cL;have bd:=an.ext bc;obtain⟨A,s',bp,bQ,cM,dm⟩:=id bd.2.2.2.2.2;obtain⟨u,hu⟩:=aF (l:=sc) (i:=p) Ω;obtain⟨cN,dn⟩:=cb u (x5 hu);have dp:=bQ.2.2.2.1.vars;obtain⟨x,bR⟩:=aF (l:=s'.vars) (i:=u.toNat) Ω;rw[aA (v:=Γ ab) Ψ (bd.1.1.Qz rfl)];refine bj bd.1.2.1 ?_;rw[aA (v:=Δ (p:Int)) Ψ ((ah.ext bc).Qz rfl),ba am.u ag.i Ψ bd.2.2.1 hu];refine (lK (i:=u) bQ).mono ?_;rintro _ dq cO ⟨⟨b,cP,rfl,bS⟩,bT⟩;refine (pG (b:=b) (n:=cP)).mono ?_;rintro _ bf cQ ⟨cR,bU,rfl,dr,bV⟩;have bW:=oV bS cN bR;have cS:dk s (sc.getD p 0)=aK x:=by
   rw[<-cM,u4,hu,V4];unfold dk;rw[bR]
  have bX:fz s sc W v (q+1) p tl=(aK x).flatMap λy=>fz s sc W v q (p+1) (tl.set p y):=by rw[fz,if_neg cB,cS]
  have aB:=(bc.trans bT).trans cR;have cT:=(cL.trans cO).trans cQ;have z12:=aB.size;have ds:=(bc.trans bT).size;have dt:=bV.lt;have bY:B<=bf.heap.size:=Ω
  have cU:=au D k V bf (aB.aa _) cT.o a7;have bZ:=an.ext aB;have b0:=al.ext aB;refine⟨Nat,false,false,kA,#[Γ bU],0,_,_,λ_=>_,λ_ j w'=>AtR l gy gt gtb ga (jE bC gy gtb bk a1 ga gs) (fJ ab ad R n s gs bC bk a1 aJ sc W v B0) av (λr=>r<B\/D r\/r=gt) D bf sc.length (k+(((aK x).take j).flatMap λy=>fz s sc W v q (p+1) (tl.set p y)).length) p tl w'/\ac w' g1 ag [Δ (p:Int)]/\ac w' I eW [.bool false],
   λ_ _ _ _=>False,rfl,(pF (g:=bU) bS.1).s.x,?_,λ_ _ _ aM h=>⟨h.1.ext aM,h.2.ext aM⟩,?_,λ_ _ _ _ _ _ _ h=>h,⟨bV,bZ.2.2.2.2.1.1⟩,?_,?_,?_,λ_ _ _ h=>h.elim,λ_ _ _ _ h=>h.elim⟩
  .rintro _ _ _ _ ⟨_,_,_,_,rfl⟩;rfl
  .rintro _ j du dv bi cV ⟨aC,aY,aq⟩;have aM:=bi.ext λ_ _ h=>nomatch h.1;exact⟨aC.own aE au (aM.aa λ_=>False) (cV.mono bY) λ_ h=>h.elim,aY.ext aM,aq.ext aM⟩
  .exact⟨⟨p9 _,D,tl,aP,rfl,b0,⟨λ_ h=>.inl h,λ_ h=>h⟩,bZ,by simpa using cU,ae.refl _ _⟩,ah.ext aB,ap.ext aB⟩
  .rintro _ _ j _ dw _ _ ⟨cW,dx⟩ ⟨dy,rfl,y,cX,cY⟩ ⟨cZ,b1,c0⟩;cases cY;intro b2 aZ c1 _;have b3:(aK x)[j]? =σ (y:Int):=by rw[<-bW,x8,cX];rfl
   have c2:=cZ.own aE au (aZ.aa λ_=>False) (c1.2.mono bY) λ_ h=>h.elim;obtain⟨dz,a2,bg,aC,aY,aq,⟨bh,c3⟩,c4,c5,c6⟩:=c2;have c7:=b0.lt;have bF:=af.go bh c7;have b4:∀r,a2 r->B<=r/\r<b2.heap.size:=λr X=>(bh r X).elim (λh=>⟨(Y r h).1,by have:=(Y r h).2;omega⟩) λh=>⟨Ω,h.2⟩;refine bM aq.2.1 ?_;rw[aA (v:=Δ (p:Int)) Ψ ((b1.ext aZ).Qz rfl),hs rfl am.u ag.i aq.2.2.2 Ω];refine ax.ck (ht ag.i aq.2.2.2 Ω λaN aw dA c8 c9=>?_);have b5:jD aN l gy gt gtb ga (jE bC gy gtb bk a1 ga gs) sc.length (bg.set p y):=⟨aq.1.aa aw λh=>aD.1 h.symm,aq.2.1.aa aw λh=>aD.2.1 h.symm,aq.2.2.1.aa aw λh=>aD.2.2 h.symm,c8⟩;have da:=aE a2 _ _ _ aw (λr h=>bb r bF h) c4;have db:=au a2 _ b2 aN (aw.mono λr _ h=>bb r bF h) c9.o c5;have b6:ac aN g1 ag [Δ (p:Int)]:=(b1.ext aZ).aa aw Ω;have dc:ac aN I eW [.bool false]:=(c0.ext aZ).aa aw Ω;have dd:=(cW.ext aZ).aa aw Ω;rw[aA (v:=.func (.func ll) #[] (jE bC gy gtb bk a1 ga gs)) Ψ (b5.2.2.1.Qz rfl),aA (v:=Δ (p:Int)) Ψ (b6.Qz rfl),aL,wrap_i64 Ω Ω];have b7:fz s sc W v q (p+1) (bg.set p (y:Int))=fz s sc W v q (p+1) (tl.set p (y:Int)):=Oc Ω (by rw[Z4];exact aP) (by rw[Z4];exact aC) (by rw[tj Ω,tj Ω,aY]);refine (show aj x7 ll (tk (p+1) bC gy gtb bk a1 ga gs) aN _ from aj.mono (bL (p+1) (bg.set p y) _ a2 aN Ω (by rw[Z4];exact aC) (λr X=>⟨(b4 r X).1,by have:=(b4 r X).2;omega⟩) Ω bF b5 da db λi dC hi=>?_) ?_)
   .rw[b7] at hi;rw[S2];refine aR _ _ ?_;rw[bX];exact Og b3 hi
   rintro _ dD dE ⟨rfl,b8⟩;rw[bu,Z8,aS];have b9:=AtR.comp (S:=λr=>r<B\/D r\/r=gt) (λr h=>h) (λr h=>(bh r h).imp id λh=>⟨h.1,Ω⟩) c3 (c6.trans (aw.mono λr _ h=>.inr (.inr h))) aY b8;obtain⟨_,_,_,_,_,_,_,de,_,bG⟩:=b8;have aX:∀ {g:Nat},w.heap.size<=g->g<bf.heap.size->¬(g<B\/a2 g\/g=gt):=λdf dF h=>by
    rcases h with h|h|h
    .omega
    .exact (bh _ h).elim (a8 df) λh=>Ω
    .omega
   refine⟨⟨dd.aa bG (aX Ω Ω),de.2.2.2.2.1.1⟩,⟨?_,b6.aa bG (aX Ω Ω),dc.aa bG (aX Ω Ω)⟩,λh=>by cases h⟩;have e:k+(((aK x).take j).flatMap λy=>fz s sc W v q (p+1) (tl.set p y)).length+(fz s sc W v q (p+1) (bg.set p (y:Int))).length=k+(((aK x).take (j+1)).flatMap λy=>fz s sc W v q (p+1) (tl.set p y)).length:=by
    rw[b7,r8,b3,l9,List.flatMap_append,List.flatMap_singleton,o5];omega
   rw[e] at b9;exact b9
  .rintro _ j dG rfl ⟨aC,aY,aq⟩;rw[j6 (by rw[<-bW,u7];exact p9 _),<-bX] at aC;exact bo ak Ω aG Y aH aO (aC.base aB λr _ h=>h.imp id λh=>h.imp id .inl) aq
end
section
variable {ab ad gs bC bk a1 B0:Nat} {R:ah} {n:aQ} {s:au} {aJ:x1} {sc:Λ} {v:Int}
theorem DU {X:Nat} (aF:∀u∈sc,0<=u/\u<n.sizes.length) (aG:sc.length<=6):
  pj x7 true false lk [Γ bC,Γ bk,Γ a1,Γ gs] 0 (λk=>k=(cb s sc X v).length)
   (λk vs aH w=>aH=k+1/\ ∃tl aI,(cb s sc X v)[k]? =σ tl/\vs=[aI]/\aB .i64 w aI tl) (fJ ab ad R n s gs bC bk a1 aJ sc X v B0):=by
 refine⟨lk.enters,λl av bq w aK _ aL haf aM=>?_⟩;have ao:∀D k J V,ae (λr=>w.heap.size<=r/\¬D r) J V->fg w.heap.size J V->av D k J->av D k V:=λD k J V aN aO=>aK D k J V (aN.mono λr _ h=>⟨rfl,h⟩) aO;have I:=haf.2.2.1;have aP:=haf.2.2.2.2.1.2;obtain⟨_,_,_,br⟩:=df I;refine pt func178 ?_;refine ax.ck (bm λgy J bt ah aq aQ=>?_);have aR:∀ {au:x3} {K:x1->Prop},ac au bC am [aJ]->K aJ->U x7 (u5 am (Γ bC)) au K:=λaS aT=>by rw[aA (v:=aJ) Ψ (aS.Qz rfl)];exact aT
 refine aR (haf.1.2.1.ext ah) ?_;rw[aV am.u (I.ext ah)];refine ax.ck (iR (k:=.i64) am.u ag.i Ω Ω λgt V bu al aw aU=>?_);refine ax.ck (bN am.i λgtb bw bx ai ay aW=>?_);refine ax.ck (bz am.i rfl rfl ay (by simp[x1.cells]) λbA an bB aX aY=>?_);refine ax.ck (bN n2.i λga bD bE Y az aZ=>?_);rw[lZ];refine ax.ck (bz n2.i rfl rfl az (by simp[x1.cells]) λW aj bF a2 a6=>?_);have bG:=ah.size;have bH:=al.size;have z3:=ai.size;have z5:=Y.size;have bI:=aq.lt;have bJ:=aw.lt;have bK:=ay.lt;have bL:=az.lt;have a7:ac W gy y5 [.func (.yield l) #[] #[]]:=(((((ac.ext aq al).ext ai).aa an Ω).ext Y).aa aj Ω);have a8:ac W gt ag (ints .i64 (p8 sc.length 0)):=((((aw.ext ai).aa an Ω).ext Y).aa aj Ω);have ba:ac W gtb am [.slice (σ ⟨gt,0,ν⟩) sc.length sc.length]:=((ac.ext aX Y).aa aj Ω);have aC:ac W ga n2 [.func (.func ll) #[] (jE bC gy gtb bk a1 ga gs)]:=a2;rw[aA (v:=.func (.func ll) #[] (jE bC gy gtb bk a1 ga gs)) Ψ (aC.Qz rfl)];have hm:ap .i64 ag W gt (.slice (σ ⟨gt,0,ν⟩) sc.length sc.length) (p8 sc.length 0):=by
  have:=bT.full (n:=sc.length) (k:=1) a8 Ξ (by simp only[maxLen];omega);unfold ap;rw[List.length_replicate];exact this
 have bb:=(ah.trans al).trans ai;have aD:ae (λr=>w.heap.size<=r/\¬False) w W:=(((bb.aa _).trans (an.mono λr _ h=>⟨by have h:r=gtb:=h;omega,id⟩)).trans (Y.aa _)).trans (aj.mono λr _ h=>⟨by have h:r=ga:=h;omega,id⟩);have bc:cG w W:=((((aQ.trans aU).trans aW).trans aY).trans aZ).trans a6;have bd:fJ ab ad R n s gs bC bk a1 aJ sc X v B0 (λ_=>False) W:=haf.own aD λr be=>⟨Ω,be.2⟩;have aE:=Od (s:=s) (sc:=sc) (pos:=X) (v:=v) (tl:=p8 sc.length 0) Ξ;refine (show gb x7 ll (tk 0 bC gy gtb bk a1 ga gs) W _ from (Oi (L:=cb s sc X v) (B:=w.heap.size) (l:=l) (gy:=gy) (gt:=gt) (gtb:=gtb) (ga:=ga) (pos:=X) Ω aF aG aP ⟨Ω,Ω,Ω⟩ ao ?_ sc.length 0 (p8 sc.length 0) 0 (λ_=>False) W Ω Ξ (λ_ h=>h.elim) Ω ⟨⟨Ω,id⟩,⟨Ω,id⟩,⟨Ω,id⟩,Ω,id⟩ ⟨a7,ba,aC,hm⟩ bd (ao _ _ _ _ aD bc.o aM) λi x hi=>?_).free.mono ?_)
 .intro D k tl aI w' bf bg bh bi bj ak;refine hh.mono (aL D k (k+1) [aI] w' bf bg bh ⟨rfl,tl,aI,bi,rfl,bj⟩ ak) ?_;rintro u bM (⟨h1,bl,bn,bo,bp⟩|⟨h,_⟩)
  .exact⟨h1,bl,bn (.inr rfl),bo,bp rfl⟩
  .cases h
 .rw[aE] at hi;rw[X1];exact hi
 .rintro _ bO ⟨_,rfl,_,D',_,_,_,_,_,_,ak,_⟩;rw[aE,X1] at ak;exact .inl ⟨D',_,rfl,ak⟩
end
def DV (m gs bC bk a1:Nat) (aJ:x1):Prop:=(m<=gs/\m<=bC/\m<=bk/\m<=a1)/\ ∀r,leads aJ r->m<=r
section
variable {ab ad gs bC bk a1 B0 m:Nat} {A R:ah} {n:aQ} {s s':au} {t:ay} {aJ:x1} {sc:Λ} {pos v:Int} {w w':x3}
theorem bJ.lt (h:bJ w ab ad A R n s t) {r:Nat} (I:A r\/R r):r<w.heap.size:=by
 obtain⟨⟨V,W,X,Y,⟨_,_,J,U⟩,_⟩,_⟩:=h;exact I.elim (U r) (J r)
theorem fJ.put {D':Nat->Prop} (h:fJ ab ad R n s gs bC bk a1 aJ sc pos v B0 D w) (J:ae S w w') (hm:DV m gs bC bk a1 aJ) (X:∀r,S r->r<m\/B0<=r) (Y:Laid w') (ac:bJ w' ab ad A R n s' t) (af:∀i,dk s' i=dk s i) (ag:∀r,A r\/R r->r<B0\/D' r):fJ ab ad R n s gs bC bk a1 aJ sc pos v B0 D' w':=by
 obtain⟨h1,I,U,V,ah,_⟩:=h;have no:∀ {r:Nat},m<=r->r<B0->¬S r:=λh1 I U=>by have:=X _ U;omega
 exact⟨h1.aa J ⟨no hm.1.1 I.1,no hm.1.2.1 I.2.1,no hm.1.2.2.1 I.2.2.1,no hm.1.2.2.2 I.2.2.2⟩,I,hv U J λr ai a n c e W=>no (hm.2 r ⟨a,n,c,e,W⟩) (V r ⟨a,n,c,e,W⟩) ai,V,⟨Y,Y7 ah.2 J.size⟩,A,s',t,ac,af,ag⟩
theorem DW {f:cJ} {aa:x3->Prop} (h:bJ w ab ad A R n s t) (ac:Laid w) (ae:s.funs[j]? =σ f)
  (af:∀aJ gs bC bk a1 w',Ext w w'->DV w.heap.size gs bC bk a1 aJ->fJ ab ad R n s gs bC bk a1 aJ f.sc pos v w'.heap.size (λ_=>False) w'->K (.func (.func lk) #[] #[Γ bC,Γ bk,Γ a1,Γ gs]) w'):
  aj x7 rn [Γ ab,Δ (j:Int)] w λaJ J=>(Ext w J\/aa J)/\aj x7 yQ [Γ ab,aJ,Δ pos,Δ v] J K:=by
 refine (wK h ae).mono ?_;rintro aJ J _ ⟨X,g,ag,hm⟩;refine⟨.inl X,(Oe hm.ls).mono ?_⟩;rintro _ V _ ⟨Y,gs,bC,bk,a1,rfl,I,ah,ai,ak,al⟩;have W:=X.trans Y;have am:=X.size;have z:=W.size;refine af aJ gs bC bk a1 V W ⟨⟨Ω,Ω,Ω,Ω⟩,λr U=>(bR hm U).1▸ag⟩ ⟨I,⟨I.1.lt,I.2.1.lt,I.2.2.1.lt,I.2.2.2.lt⟩,hm.ls.ext Y,λr U=>?_,⟨ac.ext W,p9 _⟩,A,s,t,h.ext W,λ_=>rfl,λr U=>.inl ?_⟩
 .have:=bR hm U;have:=Y.size;omega
 .have:=h.lt U;omega
end
section
variable {k:Int} {sizes:Λ} {s:au} {f:cJ} {j pos:Nat} {v:Int} {tl:Λ}
theorem DX (I:s.funs[j]? =σ f) (J:f.live≠0) (hm:cC f.af tl 0=σ (m:Int)):(fI s j tl).isSome=true/\hF s j tl=bl f.af f.cs tl:=by
 unfold fI hF;rw[I];simp[J,hm]
end
section
variable {w:x3} {ab ad:Nat} {A R:ah} {n:aQ} {s:au} {t:ay}
theorem DY {f:cJ} (h:bJ w ab ad A R n s t) (aM:Laid w) (av:s.funs[j]? =σ f) (aV:f.live≠0) (aW:∀u,f.sc[pos]? =σ u->v∈dk s u):
  aj x7 Fs [Γ ab,Δ (j:Int),Δ (pos:Int),Δ v] w λr w'=>r=Δ (fY n.k s f pos v)/\Ext w w':=by
 have aN:=h.2.2.2.1;have aO:=x5 av;obtain⟨aw,bq,_⟩:=aN.funs f aO;refine ie func48 ?_;refine bm λg1 J br ay Y=>?_;refine bm λaz V bt ap aq=>?_;have Y:ac V g1 dH [Γ ab]:=ac.ext Y ap;have aq:ac V az ag [Δ (j:Int)]:=aq;rw[aA (v:=Γ ab) Ψ (Y.Qz rfl)];refine (k0 (h.ext (ay.trans ap))).mono ?_;rintro _ bu _ ⟨rfl,aB⟩;refine bN al.i λae bw bx aC aP=>?_;have bA:=ay.size;have bB:=ap.size;have z3:=aB.size;have z4:=aC.size;have bD:=Y.lt;have bE:=aq.lt;have bF:=aP.lt;refine bz al.i rfl rfl aP (by simp[x1.cells]) λaY aD bG aE=>?_;have aE:ac aY ae al [Δ n.k]:=aE;intro aF ah _ _;have bH:=ah.size;have aQ:=aB.trans aC;have aG:Ext w aF:=((((ay.trans ap).trans aB).trans aC).then aD (by rintro r U rfl;omega)).trans ah;have aH:ac aF g1 dH [Γ ab]:=((Y.ext aQ).aa aD Ω).ext ah;have aR:ac aF az ag [Δ (j:Int)]:=((aq.ext aQ).aa aD Ω).ext ah;have aS:=aE.ext ah;have bI:=aS.lt;rw[aA (v:=Γ ab) Ψ (aH.Qz rfl),aA (v:=Γ ab) Ψ (aH.Qz rfl),aA (v:=Δ (j:Int)) Ψ (aR.Qz rfl)];refine DW (h.ext aG) (aM.ext aG) av λaJ gs bC bk a1 aZ ai a2 a6=>?_;have bK:=ai.size;refine⟨Nat,true,false,lk,#[Γ bC,Γ bk,Γ a1,Γ gs],0,_,_,_,λD k w'=>Ext w w'/\ac w' g1 dH [Γ ab]/\ac w' az ag [Δ (j:Int)]/\ac w' ae al [Δ ((((cb s f.sc pos v).take k).map (bl f.af f.cs)).foldl min n.k)],
  λ_ _ _ _=>False,rfl,DU (λu hu=>⟨(aw.scope.1 u hu).1,aw.vars u hu⟩) aw.scope.2,?_,λ_ _ _ a7 h=>h.ext a7,?_,λ_ _ _ _ _ _ _ h=>h,a6,?_,?_,?_,λ_ _ _ h=>h.elim,λ_ _ _ _ h=>h.elim⟩
 .rintro _ _ _ _ ⟨_,_,_,_,rfl,_⟩;rfl
 .rintro D k a8 ba au bL ⟨W,ak,am,X⟩;have aX:∀ {g:Nat} {e:r9} {cs:List x1},g<aZ.heap.size->ac a8 g e cs->ac ba g e cs:=λbM bb=>bb.aa au λh=>by have:=h.2.1;omega
  exact⟨W.then au λr U h=>by have:=h.2.1;omega,aX Ω ak,aX Ω am,aX Ω X⟩
 .exact⟨aG.trans ai,aH.ext ai,aR.ext ai,aS.ext ai⟩
 .rintro aI D k bO bP bQ bR bc ⟨rfl,tl,bS,aT,e,bd⟩ ⟨W,ak,am,X⟩;cases e;intro bT an _ be;obtain⟨m,hm⟩:=te aN aO aW (x5 aT);obtain⟨bh,au⟩:=DX av aV hm;rw[aA (v:=Γ ab) Ψ ((ak.ext an).Qz rfl),aA (v:=Δ (j:Int)) Ψ ((am.ext an).Qz rfl)];refine (oT (j:=j) (h.ext (W.trans an)) (bd.ext an)).mono ?_;rintro _ bU bi ⟨rfl,bj⟩;have I:=an.trans bj;rw[if_pos bh,au,bf,bg,aA (v:=Δ ((((cb s f.sc pos v).take k).map (bl f.af f.cs)).foldl min n.k)) Ψ ((X.ext I).Qz rfl),kE];refine ax.ck (bz al.i rfl rfl (X.ext I) Ξ λaU ao bV aK bn=>?_);have bW:=I.size;have aL:Ext w aU:=(W.trans I).then ao (by rintro r U rfl;omega);have bo:=h.ext aL;refine⟨⟨D,λr h=>.inl h,λ_ h=>h,(bc.ext I).put ao a2 (λr U=>.inl (by have U:r=ae:=U;omega)) (aM.ext aL) bo (λ_=>rfl) λr U=>.inl (by have:=h.lt U;omega),aL,(ak.ext I).aa ao Ω,(am.ext I).aa ao Ω,?_⟩,be.trans (bi.jJ.trans bn.jJ),(I.aa _).trans (ao.mono λr _ h=>.inl (by have h:r=ae:=h;omega))⟩;have aK:ac aU ae al [Δ (min ((((cb s f.sc pos v).take k).map (bl f.af f.cs)).foldl min n.k) (bl f.af f.cs tl))]:=aK;rw[r8,aT,l9,c8,List.foldl_append];exact aK
 .rintro D k bX rfl ⟨W,ak,am,X⟩;rw[aA (v:=Δ ((((cb s f.sc pos v).take (cb s f.sc pos v).length).map (bl f.af f.cs)).foldl min n.k)) Ψ (X.Qz rfl)];intro bY bp _;refine⟨?_,W.trans bp⟩;rw[j6 (p9 _)];rfl
theorem Oj {j pos:Int} (h:bJ w ab ad A R n s t) (Y:Laid w):aj x7 ui [Γ ab,Δ j,Δ pos,Δ v] w λr w'=>Ext w w'/\r=(match ds s j pos v with|some (f,_,_)=>.tuple #[Δ (fY n.k s f pos.toNat v),Δ 0]|none=>.tuple #[Δ 0,Δ 1]):=by
 refine aw func12 ?_;refine (wZ h).mono ?_;rintro _ J _ ⟨U,u,e,rfl,I⟩;rw[bf,bg];rcases I with⟨rfl,f,x,I⟩|⟨rfl,I⟩
 .rw[I,bh,ai];refine⟨λh=>absurd rfl h,λ_=>?_⟩;obtain⟨h1,aa,ac,ae,W,af⟩:=jb I;obtain⟨al,ag,am,ah⟩:=h6 af;obtain⟨j,rfl⟩:=W5 h1;obtain⟨pos,rfl⟩:=W5 aa;refine (DY (j:=j) (pos:=pos) (h.ext U) (Y.ext U) ac ae λu' X=>?_).mono ?_
  .have W:f.sc[pos]? =σ u:=W;rw[W] at X;cases X;unfold dk;rw[ag];exact ah
  .rintro _ V _ ⟨rfl,ak⟩;exact⟨U.trans ak,rfl⟩
 .rw[I,bh,ai];exact⟨λ_=>⟨U,rfl⟩,λh=>absurd Φ h⟩
end
def ev (w:x3) (ab ad:Nat) (A R:ah) (n:aQ) (s':au) (w':x3):Prop:=ae (eE w) w w'/\Laid w'/\ ∃aN bp,Grow A w aN w'/\bJ w' ab ad aN R n s' bp/\ee bp []/\¬aN 0
def fZ (w:x3) (ab ad:Nat) (A R:ah) (n:aQ) (m:Nat) (D:Nat->Prop) (s':au) (w':x3):Prop:=
 ae (λr=>eE w r\/w.heap.size<=r) w w'/\(Laid w'/\w.heap.size<=m/\0<w.heap.size/\(∀r,A r\/R r->r<w.heap.size))/\ ∃aN bp,Grow A w aN w'/\bJ w' ab ad aN R n s' bp/\(ee bp []/\¬aN 0)/\ ∀r,aN r->r<m\/D r
section
variable {w J V:x3} {ab ad m:Nat} {A R:ah} {n:aQ} {s s' tm:au} {t:ay} {D D' S:Nat->Prop}
theorem fZ.start (h:bJ w ab ad A R n s t) (V:Laid w) (W:¬A 0) (X:ee t []) (I:Ext w J) (hm:w.heap.size<=m):fZ w ab ad A R n m D s J:=
 ⟨I.aa _,⟨V.ext I,hm,by
  obtain⟨ac,ae,af,ag,⟨h1,_,_,Y⟩,_⟩:=h.1;have:=Y _ h1;omega,λr U=>h.lt U⟩,A,t,Grow.ext I,h.ext I,⟨X,W⟩,λr U=>.inl (by have:=h.lt (.inl U);omega)⟩
theorem fZ.own (h:fZ w ab ad A R n m D s' J) (W:ae S J V) (X:∀r,S r->m<=r/\¬D r):fZ w ab ad A R n m D s' V:=by
 obtain⟨h1,⟨ag,ah,ai,Y⟩,aN,bp,⟨g1,aj,ak⟩,ac,al,af⟩:=h;refine⟨h1.trans (W.mono λr _ h=>.inr (by have:=(X r h).1;omega)),⟨jQ W (λh=>by have:=(X _ h).1;omega) ag,ah,ai,Y⟩,aN,bp,⟨?_,aj,ak⟩,⟨ac.1.aa W λr _ U I=>?_,ac.2⟩,al,af⟩
 .exact ((g1.mono λr _ h=>.inl h).trans (W.mono λr _ h=>.inr (X r h).1):ae (λr=>A r\/m<=r) w V).mono λr U h=>h.elim id λh=>Ω
 .obtain⟨an,am⟩:=X r I;rcases U with U|U
  .exact (af r U).elim Ω am
  .have:=Y r (.inr U);omega
theorem fZ.ext (h:fZ w ab ad A R n m D s' J) (I:Ext J V):fZ w ab ad A R n m D s' V:=h.own (I.aa λ_=>False) λ_ h=>h.elim
theorem fZ.open (h:fZ w ab ad A R n m D s' J):∃aN bp,bJ J ab ad aN R n s' bp/\ee bp []/\ ∀ {V:x3} {tm:au} {D' U:Nat->Prop} {Y:ay},ae (eE J) J V->Grow aN J U V->bJ V ab ad U R n tm Y->ee Y []->(∀r,D r->D' r)->(∀r,J.heap.size<=r->r<V.heap.size->D' r)->
  fZ w ab ad A R n m D' tm V/\ae (λr=>r<m\/D r) J V/\ ∀r,U r->r<m\/D' r:=by
 obtain⟨h1,⟨ah,ai,aj,ak⟩,aN,bp,al,am,aa,ac⟩:=h;refine⟨aN,bp,am,aa.1,λ{V tm D' U Y} an W af ao ap aq=>?_⟩;have az:=h1.size;have av:¬U 0:=λh=>(W.2.1 0 h).elim aa.2 λh=>Ω
 have ag:∀r,U r->r<m\/D' r:=λr X=>(W.2.1 r X).elim (λh=>(ac r h).imp id (ap r)) λh=>.inr (aq r h (af.lt (.inl X)));refine⟨⟨h1.trans (an.mono λr _ h=>?_),⟨jQ W.1 aa.2 ah,ai,aj,ak⟩,U,Y,al.trans W,af,⟨ao,av⟩,ag⟩,W.1.mono λr _ h=>ac r h,ag⟩;by_cases X:w.heap.size<=r
 .exact .inr X
 .exact .inl (ny (λo aw I ax=>h1.aX r o aw I λh=>h.elim ax X) h)
theorem fZ.done (h:fZ w ab ad A R n m D s' J) (U:Ext J V):ev w ab ad A R n s' V:=by
 obtain⟨h1,⟨W,aa,ac,ae⟩,aN,bp,X,Y,I,af⟩:=h.ext U;exact⟨h1.mono λr ag h=>h.elim id λh=>Ω,W,aN,bp,X,Y,I.1,I.2⟩
end
section
variable {w:x3} {ab ad:Nat} {A R:ah} {n:aQ} {s:au} {t:ay}
theorem oZ {u:Nat} {x:bP} (I:bH n.k n.sizes s) (U:s.vars[u]? =σ x) (V:v∈aK x):fy n (u:Int) v:=by
 have X:=(x4.1 U).1;have Y:=I.vars;obtain⟨z,J⟩:=aF (l:=n.sizes) (i:=u) Ω;have aa:=(I.var _ x z U J).1;have ab:=I.gp.2.2 z (x5 J);have W:=(hd.1 V).1;refine⟨Ω,Ω,W.1,?_⟩;rw[u9,u4,J,V4];omega
theorem DZ {f:cJ} {g:Int->Int} (J:bH k sizes s) (I:s.funs[j]? =σ f):dF s j f (dr g [] f.af f.cs)=s:=by
 obtain⟨U,V⟩:=k2 J (x5 I);rw[NU U Ω (λ_ h=>absurd h List.not_mem_nil)];have:s.funs.set j f=s.funs:=by
  apply Y8;intro i;by_cases e:j=i
  .subst e;rw[c7 (x4.1 I).1,I]
  .rw[Y5 e]
 unfold dF;show {s with funs:=s.funs.set j f}=s;rw[this]
theorem D0 {u:Nat} {f:cJ} {x:bP} {F1 F2:S6} {tup un:Int->Int} (h:bJ w ab ad A R n s t) (bh:Laid w) (bI:¬A 0) (bK:ee t []) (ak:s.funs[j]? =σ f) (bL:f.live≠0) (hu:f.sc[pos]? =σ (u:Int)) (W:s.vars[u]? =σ x) (bi:v∈aK x)
  (h1:∀tl∈cb s f.sc pos v,(0<=tup (bl f.af f.cs tl)/\tup (bl f.af f.cs tl)<=n.k)/\ ∀ {w:x3} {A:ah} {s:au} {t:ay},bJ w ab ad A R n s t->aj x7 F1 [Γ ab,Δ (bl f.af f.cs tl),Δ c] w λr w'=>r=Δ (tup (bl f.af f.cs tl))/\Ext w w')
  (bj:(0<=un (x.un.getD v.toNat 0)/\un (x.un.getD v.toNat 0)<=n.k)/\ ∀ {w:x3} {A:ah} {s:au} {t:ay},bJ w ab ad A R n s t->aj x7 F2 [Γ ab,Δ (x.un.getD v.toNat 0),Δ c] w λr w'=>r=Δ (un (x.un.getD v.toNat 0))/\Ext w w'):
  aj x7 Fu [.agg #[.func (.func F1) #[] #[],.func (.func F2) #[] #[]],Γ ab,Δ (j:Int),Δ (pos:Int),Δ v,Δ c] w λ_ w'=>ev w ab ad A R n (iE s j f pos u x v tup un) w':=by
 have an:=h.2.2.2.1;have aP:=x5 ak;obtain⟨aQ,cn,_⟩:=an.funs f aP;have bn:∀u',f.sc[pos]? =σ u'->v∈dk s u':=λu' bo=>by
  rw[hu] at bo;cases bo;unfold dk;rw[u9,W];exact bi
 have bM:=DN an aP bn;refine ie func52 ?_;refine bm λbN J cp bp aB=>?_;refine bm λg1 V cq aR I=>?_;refine bm λbO cr ct aL Y=>?_;refine bm λbQ X cu aM aC=>?_;have aB:ac X bN pr [.func (.func F1) #[] #[],.func (.func F2) #[] #[]]:=((ac.ext aB aR).ext aL).ext aM;have I:ac X g1 dH [Γ ab]:=(ac.ext I aL).ext aM;have Y:ac X bO ag [Δ (j:Int)]:=ac.ext Y aM;have aC:ac X bQ al [Δ c]:=aC;have aS:=((bp.trans aR).trans aL).trans aM;have cw:=bp.size;have cz:=aR.size;have z3:=aL.size;have cA:=aS.size;have bq:=aB.lt;have ao:=I.lt;have br:=Y.lt;have bt:=aC.lt;rw[aA (v:=Γ ab) Ψ (I.Qz rfl),aA (v:=Δ (j:Int)) Ψ (Y.Qz rfl)];refine (wK (h.ext aS) ak).mono ?_;rintro cB cC _ ⟨bR,_,_,bS⟩;rw[ba am.u ag.i Ψ bS.ls hu];intro cD bT _ _;have ap:=bR.trans bT;have aT:=aS.trans ap;have z46:=ap.size;rw[aA (v:=Γ ab) Ψ ((I.ext ap).Qz rfl),aA (v:=Γ ab) Ψ ((I.ext ap).Qz rfl),aA (v:=Δ (j:Int)) Ψ ((Y.ext ap).Qz rfl)];refine DW (h.ext aT) (bh.ext aT) ak λaJ gs bC bk a1 bu aU bU bV=>?_;have cE:=aU.size;have bW:=ap.trans aU;refine⟨Nat,true,false,lk,#[Γ bC,Γ bk,Γ a1,Γ gs],0,_,_,_,
  λD k w'=>fZ w ab ad A R n w.heap.size D (dF s j f (dr tup ((cb s f.sc pos v).take k) f.af f.cs)) w'/\(ae (λr=>r<w.heap.size\/bu.heap.size<=r) X w'/\bu.heap.size<=w'.heap.size),
  λ_ _ _ _=>False,rfl,DU (λu hu=>⟨(aQ.scope.1 u hu).1,aQ.vars u hu⟩) aQ.scope.2,?_,λ_ _ _ W h=>h.ext W,?_,λ_ _ _ _ _ _ _ h=>h,bV,?_,?_,?_,λ_ _ _ h=>h.elim,λ_ _ _ _ h=>h.elim⟩
 .rintro _ _ _ _ ⟨_,_,_,_,rfl,_⟩;rfl
 .rintro D k cF cG aE cH ⟨aq,av,aV⟩;exact⟨aq.own aE λr U=>⟨Ω,U.2.2⟩,av.trans (aE.mono λr _ h=>.inr h.2.1),Y7 aV aE.size⟩
 .refine⟨?_,bW.aa _,p9 _⟩;have e:dF s j f (dr tup ((cb s f.sc pos v).take 0) f.af f.cs)=s:=DZ an ak;rw[e];exact fZ.start h bh bI bK (aT.trans aU) (p9 _)
 .rintro aI D k cI aW bw cK bX ⟨rfl,tl,cL,aY,e,bx⟩ ⟨aq,av,aV⟩;cases e;intro cM aF _ bY;obtain⟨m,hm⟩:=te an aP bn (x5 aY);obtain⟨bZ,b0⟩:=DO (g:=tup) an ak bM aY hm;obtain⟨⟨b1,b2⟩,b3⟩:=h1 tl (x5 aY);have aX:∀ {aG:x3} {g:Nat} {e:r9} {cs:List x1},Ext aW aG->w.heap.size<=g->g<X.heap.size->ac X g e cs->ac aG g e cs:=λW aw aZ a2=>(a2.aa av Ω).ext W;have b4:=(x4.1 ak).1;have bz:(dF s j f (dr tup ((cb s f.sc pos v).take k) f.af f.cs)).funs[j]? =σ {f with cs:=dr tup ((cb s f.sc pos v).take k) f.af f.cs}:=c7 b4;obtain⟨aw,aE⟩:=DX (tl:=tl) bz bL hm;obtain⟨A9,t9,a6,bA,a7⟩:=aq.open;rw[aA (v:=Γ ab) Ψ ((aX aF Ω ao I).Qz rfl),aA (v:=Δ (j:Int)) Ψ ((aX aF Ω br Y).Qz rfl)];refine (oT (j:=j) (a6.ext aF) (bx.ext aF)).mono ?_;rintro _ cN b5 ⟨rfl,b6⟩;rw[if_pos aw,aE,bf,bg];intro b7 b8 _ b9;have ai:=(aF.trans b6).trans b8;rw[aA (v:=Γ ab) Ψ ((aX ai Ω ao I).Qz rfl),aA (v:=Δ (j:Int)) Ψ ((aX ai Ω br Y).Qz rfl),
   aD pr.p 0 (aX ai Ω bq aB) rfl,aA (v:=Γ ab) Ψ ((aX ai Ω ao I).Qz rfl),aA (v:=Δ c) Ψ ((aX ai Ω bt aC).Qz rfl)]
  show aj x7 F1 [Γ ab,Δ (bl f.af (dr tup ((cb s f.sc pos v).take k) f.af f.cs) tl),Δ c] b7 _;rw[bZ];refine (b3 (a6.ext ai)).mono ?_;rintro _ cO ca ⟨rfl,bB⟩;have aH:=ai.trans bB;refine⟨.inl bB,(NC (j:=j) (a6.ext aH) (.inl bA.1) (bx.ext aH)).mono ?_⟩;rintro r bD cc ⟨_,_,a8⟩;obtain⟨_,aO,aN,cd,ce,bb,ax⟩:=a8 aw ⟨b1,b2⟩ _ m bz hm;rw[b0] at ax;have cP:=aH.size;have cQ:=aO.size;obtain⟨bE,bc,cg⟩:=a7 (D':=λr=>D r\/aW.heap.size<=r/\r<bD.heap.size) (jy aH aO) ((Grow.ext aH).trans bb) ax bA.set (λr h=>.inl h) λr aw aZ=>.inr ⟨aw,aZ⟩;refine⟨⟨λr=>D r\/aW.heap.size<=r/\r<bD.heap.size,λr h=>h,λr h=>.inl h,?_,bE,av.trans (bc.mono λr _ h=>h.imp id λh=>(bw r h).1),Ω⟩,bY.trans ((((b5.trans b9).trans ca).trans cc).jJ),bc.mono λr _ h=>h.imp (λh=>Ω) id⟩;refine bX.put bc bU (λr U=>?_) bE.2.1.1 ax (λ_=>rfl) λr U=>?_
  .rcases U with U|U
   .exact .inl Ω
   .exact .inr (bw r U).1
  .rcases U with U|U
   .exact (cg r U).imp (λh=>Ω) id
   .exact .inl (by have:=h.lt (.inr U);omega)
 .rintro D k ch rfl ⟨aq,av,aV⟩;rw[j6 (p9 _)] at aq;have bF:=oZ an W bi;obtain⟨cR,cS,bd,bG,a7⟩:=aq.open;have aX:∀ {aG:x3} {g:Nat} {e:r9} {cs:List x1},Ext ch aG->w.heap.size<=g->g<X.heap.size->ac X g e cs->ac aG g e cs:=λW aw aZ a2=>(a2.aa av Ω).ext W;rw[aA (v:=Γ ab) Ψ ((aX (Ext.refl _) Ω ao I).Qz rfl)];refine (mn (i:=(u:Int)) (v:=v) bd).mono ?_;rintro _ cT _ ⟨rfl,ci⟩;have cj:gK (dF s j f (dr tup (cb s f.sc pos v) f.af f.cs)) (u:Int).toNat v.toNat=x.un.getD v.toNat 0:=by
   unfold gK;rw[u9,show (dF s j f (dr tup (cb s f.sc pos v) f.af f.cs)).vars[u]? =σ x from W]
  rw[if_pos bF,cj,bf,bg];intro ck cl _ _;have az:=ci.trans cl;rw[aA (v:=Γ ab) Ψ ((aX az Ω ao I).Qz rfl),aD pr.p 1 (aX az Ω bq aB) rfl,aA (v:=Γ ab) Ψ ((aX az Ω ao I).Qz rfl),aA (v:=Δ c) Ψ ((aX az Ω bt aC).Qz rfl)];show aj x7 F2 [Γ ab,Δ (x.un.getD v.toNat 0),Δ c] ck _;refine (bj.2 (bd.ext az)).mono ?_;rintro _ cU _ ⟨rfl,bH⟩;have be:=az.trans bH;refine⟨.inl bH,(Ds (i:=(u:Int)) (v:=v) (bd.ext be) (.inl bG.1)).mono ?_⟩;rintro r cV _ ⟨_,_,a8⟩;obtain⟨_,aO,aN,cd,ce,bb,ax⟩:=a8 bF bj.1;have e:kj (dF s j f (dr tup (cb s f.sc pos v) f.af f.cs)) (u:Int).toNat v.toNat (un (x.un.getD v.toNat 0))=iE s j f pos u x v tup un:=by
   unfold kj iE eu;rw[u9,show (dF s j f (dr tup (cb s f.sc pos v) f.af f.cs)).vars[u]? =σ x from W]
  rw[e] at ax;intro cW cm _;exact (a7 (D':=λ_=>True) (jy be aO) ((Grow.ext be).trans bb) ax bG.set (λ_ _=>trivial) λ_ _ _=>trivial).1.done cm
end
end Go.Proofs.YtjjhhcfgfdepdaaGreatDoor
