/- own texts, made small by a tool (wip/ holds them as they were written): no statement of the seat. -/
import Derived.Test.YtmgflbkdggdhoaaGreatDoorYd
set_option linter.unusedVariables false
set_option linter.unusedSimpArgs false
set_option linter.unnecessarySimpa false
open Array renaming getElem?_eq_some_iff→n9
open BitVec renaming ofInt→U5
open Bool renaming not_true→Y6,not_false→X9,and_eq_true→V1,eq_iff_iff→V6,true_and→T3
open Decidable renaming not_not→Z9
open Go renaming Value→x1,World→x3,TypeId→r9,IntKind→o5,Program→W5
open Go.Addr renaming add_mid→T0
open Go.Builtin renaming append_→b9
open Go.Instr renaming loadAt→u4,fieldAt→u5,storeAt→o6,indexAt→j4,buildSlice→Y4
open Go.IntKind renaming i64→X2
open Go.Proofs.Tryz renaming prog→x7
open Int renaming toNat_natCast→u6,eq_ofNat_of_zero_le→W6
open List renaming getElem?_eq_some_iff→x4,mem_of_getElem?→x5,getElem?_eq_getElem→x6,getElem?_map→x8,getD_eq_getElem?_getD→v8,length_map→u7,take_add_one→u9,replicate→r8,take_length→p9,length_append→o4,mem_append→o7,mem_singleton→o8,mem_map→l9,eq_nil_of_length_eq_zero→j5,length_take→j6,getElem?_set_self→c7,length_set→c8,length_cons→c9,take_of_length_le→b8,map_append→Z0,getElem?_eq_none→Z6,getElem?_take_of_lt→Z8,getElem?_set_ne→Y0,getElem?_append_left→Y1,getElem?_append_right→Y2,ext_getElem?→Y3,getElem?_set→Y7,mem_iff_getElem?→X1,range→X4,drop_eq_getElem_cons→X5,flatMap_cons→X7,mem_or_eq_of_mem_set→X8,length_eq_one_iff→W7,mem_cons→W9,pairwise_iff_getElem→V3,map_set→V8,append_nil→U4,append_assoc→U6,map_cons→U7,foldl_cons→U8,mem_filter→T6,map_map→T7,foldl_append→S1,length→S6,getElem_mem→R8
open Nat renaming le_refl→p8,le_trans→Y9,zero_add→X0,zero_le→X3,mul_le_mul_right→X6,sub_self→V7,mul_one→U1,add_mul→U2,pow_le_pow_right→T8,add_assoc→S8,add_sub_cancel_left→R2,lt_of_lt_of_le→R6
open Option renaming toList_some→o9,map_some→Z3,isNone_some→Z4,map_eq_some_iff→Y5,map→V5,getD_some→V9,isSome_some→T1,isSome_none→S5
open Option.some renaming inj→b6
set_option maxHeartbeats 16000000
open Option renaming some→σ,none→ν
variable {w w':x3}{B C ae gT ga gs gt gtb gy j m:Nat}{aG aI sv szv:x1}{S:Nat->Prop}{O e:r9}{a c k pos v y:Int}{aj cs l sc sizes t tl:Λ}{K:x1->x3->Prop}{L:List (Λ)}
namespace Go.Proofs.YtmgflbkdggdhoaaGreatDoor
open Go Go.Vc Go.RowKit Go.Proofs Go.Proofs.Tryz
set_option maxRecDepth 100000
def Od (w:x3) (f:b2) (v:x1) (w':x3):Prop:=Ext w w'/\ ∃go a,bk dj 3 aY w' go v a/\(∀h∈a,fI w' f.sizes h/\ ∀r,pf h r->w.heap.size<=r)/\a.map dt=fB f/\ ∀r,leadsTo v r->w.heap.size<=r
def k8 (k:Int) (sc cs:Λ) (h:cK):cK:=if h.1=sc then (h.1,dU k h.2 cs) else h
theorem Oe {N:Nat} {bI:Nat} {f:b2} (cH:nR w bI f) (P:e6 N f):am x7 GL [Γ bI] w (Od w f):=by
 have hk:=P.k;obtain⟨szv,gz,au,gr,a1,bJ,cI⟩:=id cH;obtain⟨bK,a2,cJ,cK⟩:=id cI;refine az func101 ?_;rw[aQ dB.p 3 a1 rfl,fh dw.u a2];refine bZ.range bK.length (λi l V=>∃g L,Ext w V/\ku V w.heap.size g l f.sizes L/\L.map dt=eK f i) a2.le
  ⟨0,[],Ext.refl _,⟨bk.nil _ _ _ _ _,λh aJ=>(by cases aJ),λi j x y J=>(by simp at J),λr m=>(fg m).elim⟩,rfl⟩ ?_ ?_
 rotate_left
 .rintro l V cL ⟨g,L,Q,m,R⟩;rw[<-cJ,CI] at R;rw[aO,al];refine⟨λh=>Ω,λ_=>Oc P m R λout w' go cM J a8 cN S cO cP=>?_⟩;have cQ:=Q.size;exact⟨Q.trans J,go,cM,a8,λh aJ=>⟨S h aJ,(m.2.1 h (cN h aJ)).2⟩,cO,λr m=>by have:=cP r m;omega⟩
 rintro i l V cL hi ⟨g,L,Q,m,R⟩ cR;obtain⟨bb,bL⟩:=aH (l:=bK) hi;obtain⟨x,bd⟩:=aH (l:=f.funs) (i:=i) Ω;have be:=x5 bd;have bf:=cK i bb x bL bd;have bM:=o2 P be;obtain⟨cS,dJ,dK⟩:=CH P i;have bN:L.length=(eK f i).length:=by rw[<-R,u7]
 have dL:=P.kS;have bP:=a2.ext Q;refine bH Ω ?_;refine aV (λl' aa=>∃g L,Ext w aa/\ku aa w.heap.size g l' f.sizes L/\L.map dt=eK f (i+1)) ?_ ?_
 .rintro l' aa bg;rw[aP];exact cR _ _ bg
 intro aA bQ;rw[dx rfl dw.u ba.i bP hi,bR ba.p ba.i rfl (bP.range bL)];refine bD ba.i λaq dM dN cT cV=>?_;refine ch (vs:=eU bb) ba.i rfl rfl bf.one cV λcW cX dO cY=>?_;have bT:Ext V cW:=cT.put cX Ω;have dP:=bT.size;refine aV (λa7 av=>∃E c,a7=Γ E/\Ext V av/\ag av E aY (dj c)/\c.sc=bl x.scope/\c.cs=(hR f.sizes f.k x).2/\fI av f.sizes c/\V.heap.size<=E/\ ∀r,pf c r->V.heap.size<=r) ?_ ?_
 rotate_left
 .intro dQ bU;intro cZ bV _ _;have aw:=bT.trans bV;have aB:=Q.trans aw;have c0:=cY.ext bV;have bW:=a1.ext aB;have dR:=aw.size;rw[bR ba.p ba.i rfl (show cZ.rangeAt aq 0 (eU bb) from c0.range),aQ dB.p 2 bW rfl,aQ dB.p 1 bW rfl];refine⟨?_,?_⟩
  .refine (Dl (bf.ext aB) P be (bJ.ext aB)).mono ?_;rintro _ dS _ ⟨bh,c,rfl,h1,bi,S,K⟩;refine bD aY.i λE dT bX bj aC=>?_;refine⟨.inl (bh.trans bj),?_⟩;refine ch (vs:=dj c) aY.i rfl rfl S.one aC λdV bY dW c1=>?_;have dX:=bh.size;refine bU _ _ ⟨E,c,rfl,(aw.trans bh).trans (bj.then bY λr m he=>by have he:r=E:=he;omega),c1,h1,bi,?_,Ω,λr m=>by have:=K r m;omega⟩;exact mB (S.ext bj) bY λr m=>.inl ⟨_,_,by have m:r=E:=m;subst m;exact aC,Φ,Φ⟩
  .refine bD aY.i λE dY bX aD aC=>?_;refine⟨.inl aD,?_⟩;have b0:=aB.trans aD;refine (Dl (bf.ext b0) P be (bJ.ext b0)).mono ?_;rintro _ dZ _ ⟨b1,c,rfl,h1,bi,S,K⟩;have b3:=aC.ext b1;have ea:=aD.size;refine ch (vs:=dj c) aY.i rfl rfl S.one b3 λec b4 ed c2=>?_;refine bU _ _ ⟨E,c,rfl,aw.trans ((aD.trans b1).then b4 λr m he=>by have he:r=E:=he;omega),c2,h1,bi,?_,Ω,λr m=>by have:=K r m;omega⟩;exact mB S b4 λr m=>.inl ⟨_,_,by have m:r=E:=m;subst m;exact b3,Φ,Φ⟩
 rintro _ av ⟨E,c,rfl,bm,c3,ae,aE,c4,bX,K⟩;have b5:=m.ext bm;have c5:∀h∈L,∀r,leads h.a6 r->r<V.heap.size:=λh aJ r c6=>by
  obtain⟨⟨_,_,c7,b7⟩,_⟩:=m.2.1 h aJ;have:=bO b7 c6;omega
 have c9:∀ {j:Nat},decide (c.sc∈(L.take j).map (·.sc))=decide (bl x.scope∈((eK f i).take j).map (·.1)):=λ{j}=>by
  rw[ae,<-R,<-List.map_take,T7];rfl
 have cQ:=Q.size;rw[fh cU.u b5.1];refine bZ.range L.length (λj au M=>∃C,au= .bool (decide (c.sc∈(L.take j).map (·.sc)))/\Ext w M/\V.heap.size<=M.heap.size/\ku M w.heap.size g l f.sizes C/\C.map dt=((eK f i).map (k8 f.k c.sc c.cs)).take j++(eK f i).drop j/\ag M E aY (dj c)/\fI M f.sizes c/\ ∀h∈C,∀r,leads h.a6 r->r<V.heap.size) m.1.le
  ⟨L,Ξ,Q.trans bm,bm.size,b5,by simpa using R,c3,c4,c5⟩ ?_ ?_
 .rintro j _ M da b9 ⟨C,rfl,ah,db,aF,I,bn,bo,W⟩ dc;have dd:C.length=L.length:=by
   have:=congrArg S6 I;simp only[u7,o4,j6,List.length_drop] at this;omega
  obtain⟨h,aJ⟩:=aH (l:=C) (i:=j) Ω;have aI:(eK f i)[j]? =σ (dt h):=by
   have ca:(C.map dt)[j]? =σ (dt h):=by rw[x8,aJ];rfl
   rw[I,Do (by rw[u7];omega)] at ca;exact ca
  have aK:((eK f i).map (k8 f.k c.sc c.cs))[j]? =σ (k8 f.k c.sc c.cs (dt h)):=by rw[x8,aI];rfl
  have de:∃y,L[j]? =σ y/\y.sc=h.sc:=by
   refine⟨_,x6 b9,?_⟩;rw[<-R,x8,x6 b9] at aI;exact congrArg Prod.fst (b6 aI)
  obtain⟨y,H,df⟩:=de;have bp:(c.sc∈(L.take (j+1)).map (·.sc))↔c.sc∈(L.take j).map (·.sc)\/h.sc=c.sc:=by
   rw[u9,H,o9,Z0,o7,List.map_singleton,o8,df];exact or_congr Iff.rfl ⟨λe=>e.symm,λe=>e.symm⟩
  have cb:fD f.sizes f.k (dt h):=cS _ (x5 aI);refine bH Ω ?_;refine aV (λau O=>∃C,au= .bool (decide (c.sc∈(L.take (j+1)).map (·.sc)))/\Ext w O/\V.heap.size<=O.heap.size/\ku O w.heap.size g l f.sizes C/\C.map dt=((eK f i).map (k8 f.k c.sc c.cs)).take (j+1)++(eK f i).drop (j+1)/\ag O E aY (dj c)/\fI O f.sizes c/\ ∀h∈C,∀r,leads h.a6 r->r<V.heap.size) ?_ ?_
  .rintro ee O bg;rw[aP];exact dc _ _ bg
  intro ef cc;intro dg aj _ _;have aL:=aF.ext aj;have cd:=bn.ext aj;have cg:=bo.ext aj;obtain⟨dh,eg⟩:=aL.2.1 h (x5 aJ);obtain⟨⟨g1,h1⟩,_,c7,b7⟩:=id dh;obtain⟨⟨eh,di⟩,_,ei,ci⟩:=id cg;rw[dx rfl cU.u aY.i aL.1 Ω,aU aY.p rfl,ay (v:=h.aG) Ψ (aL.1.range aJ 0 _ rfl),aM aY.p 0 cd rfl];refine (Aw h1.ls di.ls).mono ?_;rintro _ ej _ ⟨rfl,Z⟩;have cj:=aL.ext Z;have bq:=cd.ext Z;have ck:=cg.ext Z;have cl:=(ah.trans aj).trans Z;have z9:=(aj.trans Z).size;rw[al];refine⟨λbr=>?_,λcm=>?_⟩
  rotate_left
  .refine cc _ _ ⟨C,?_,cl,Ω,cj,?_,bq,ck,W⟩
   .congr 1;exact decide_eq_decide.2 ⟨λh=>bp.2 (.inl h),λh=>(bp.1 h).resolve_right cm⟩
   .have e:k8 f.k c.sc c.cs (dt h)=dt h:=if_neg cm;rw[e] at aK;rw[<-wz Ω aK,<-I];symm;refine Y3 λp=>?_;rw[Y7];by_cases ak:j=p
    .subst ak;rw[if_pos rfl,if_pos Θ,x8,aJ];rfl
    .rw[if_neg ak]
  have dk:h.cs.length=c.cs.length:=by
   have dl:h.cs.length=_:=cb.len;have dm:c.cs.length=(aN (bS f.sizes (hR f.sizes f.k x).1)).toNat:=by rw[aE];exact bM.len
   rw[dl,dm,show (dt h).1=h.sc from rfl,br,ae];rfl
  have ek:(dU f.k h.cs c.cs).length=h.cs.length:=by unfold dU;rw[List.length_zipWith];omega
  rw[aM aY.p 2 bq rfl,aW ax.u (ci.ext Z).ls];refine cz.range c.cs.length (λs X=>Ext w X/\V.heap.size<=X.heap.size/\ku X w.heap.size g l f.sizes (C.set j {h with cs:=(dU f.k h.cs c.cs).take s++h.cs.drop s})/\ag X E aY (dj c)/\fI X f.sizes c) ci.ls.le
   ⟨cl,Ω,?_,bq,ck⟩ ?_ ?_
  .have e:C.set j {h with cs:=(dU f.k h.cs c.cs).take 0++h.cs.drop 0}=C:=by
    refine Y3 λp=>?_;rw[Y7];by_cases ak:j=p
    .subst ak;rw[if_pos rfl,if_pos Ω,aJ];rfl
    .rw[if_neg ak]
   rw[e];exact cj
  .rintro s X dn U ⟨bt,cn,aR,bu,bw⟩ dp;refine bH Ω ?_;intro em an _ _;have ac:=aR.ext an;have cq:=bu.ext an;have cr:=bw.ext an;have ct:=bt.trans an;have aS:(C.set j {h with cs:=(dU f.k h.cs c.cs).take s++h.cs.drop s})[j]? =σ {h with cs:=(dU f.k h.cs c.cs).take s++h.cs.drop s}:=by
    rw[Y7,if_pos rfl,if_pos Ω]
   have cu:j<(C.set j {h with cs:=(dU f.k h.cs c.cs).take s++h.cs.drop s}).length:=by rw[c8];omega
   obtain⟨⟨_,_,dq,bx⟩,dr⟩:=ac.2.1 _ (x5 aS);obtain⟨_,_,en,ds⟩:=id cr;obtain⟨a,bz⟩:=aH (l:=h.cs) (i:=s) Ω;obtain⟨b,ao⟩:=aH (l:=c.cs) U;have du:s<({h with cs:=(dU f.k h.cs c.cs).take s++h.cs.drop s}:fl).cs.length:=by show s<((dU f.k h.cs c.cs).take s++h.cs.drop s).length;rw[o4,j6,List.length_drop];omega
   have dv:((dU f.k h.cs c.cs).take s++h.cs.drop s)[s]? =σ a:=by rw[Do Ω];exact bz
   have bA:(dU f.k h.cs c.cs)[s]? =σ (min (a+b) f.k):=by
    unfold dU;rw[List.getElem?_zipWith,bz,ao]
   have eo:=cb.hT a (x5 bz);have ep:=bM.hT b (by rw[<-aE];exact x5 ao);have dy:=a1.ext ct;rw[dx rfl cU.u aY.i ac.1 cu,aU aY.p rfl,ay (v:=h.a6) Ψ (ac.1.range aS 2 _ rfl),dx rfl cU.u aY.i ac.1 cu,aU aY.p rfl,ay (v:=h.a6) Ψ (ac.1.range aS 2 _ rfl),bc ax.u ap.i Ψ bx.ls dv,aM aY.p 2 cq rfl,bc ax.u ap.i Ψ ds.ls ao,aQ dB.p 1 dy rfl];refine (mp Ω Ω).mono ?_;rintro _ er _ ⟨rfl,ad⟩;refine⟨.inl ad,?_⟩;have z12:=(an.trans ad).size;refine N9 (h:={h with cs:=(dU f.k h.cs c.cs).take s++h.cs.drop s}) (ac.ext ad) aS du λes aT cw bB=>?_;rw[aP];have dz:=cr.ext ad;have cA:=cq.ext ad;have et:=aT.size;refine dp _ ⟨(ct.trans ad).then aT λr m he=>by have:=dr r (.inl he);omega,Ω,?_,?_,?_⟩
   .rw[List.set_set] at bB;have e:=wz (A:=dU f.k h.cs c.cs) (B:=h.cs) (s:=s) Ω bA;simp only[e] at bB;exact bB
   .exact cA.ab aT λU=>by
     obtain⟨eu,dA⟩:=cw _ U;exact absurd (e7 cA dA) Φ
   .refine mB dz aT λr m=>.inr (.inr ⟨cw r m,λdC=>?_⟩);have:=K r (.inl dC);have:=W h (x5 aJ) r m;omega
  .rintro X dn ⟨bt,cn,aR,bu,bw⟩;refine cp Ω ?_;have e:(dU f.k h.cs c.cs).take c.cs.length++h.cs.drop c.cs.length=dU f.k h.cs c.cs:=by
    rw[<-dk,List.drop_length,U4,b8 Ω]
   simp only[e] at aR;refine cc _ _ ⟨_,?_,bt,cn,aR,?_,bu,bw,λz G r m=>?_⟩
   .congr 1;symm;exact decide_eq_true (bp.2 (.inr br))
   .have dD:k8 f.k c.sc c.cs (dt h)=dt {h with cs:=dU f.k h.cs c.cs}:=if_pos br;rw[dD] at aK;rw[V8,I,wz Ω aK]
   .rcases X8 G with G|rfl
    .exact W z G r m
    .exact W h (x5 aJ) r m
 rintro _ M da ⟨C,rfl,ah,db,aF,I,bn,bo,W⟩;refine cp Ω ?_;rw[c9,bN,p9,bG,ce];have cB:=vX bd;have bA:((eK f i).map (k8 f.k c.sc c.cs)).take L.length++(eK f i).drop L.length=(eK f i).map (k8 f.k c.sc c.cs):=by
  rw[bN,List.drop_length,U4,b8 (by rw[u7];exact p8 _)]
 rw[bA] at I;have dd:C.length=L.length:=by
  have:=congrArg S6 I;rw[u7,u7] at this;omega
 refine⟨λaX=>?_,λaf=>?_⟩
 .have aX:bl x.scope∉(eK f i).map (·.1):=by simpa using aX
  have dE:(eK f i).map (k8 f.k c.sc c.cs)=eK f i:=by
   refine (List.map_congr_left λz G=>?_).trans (List.map_id _);exact if_neg λhe=>aX (l9.2 ⟨z,G,by rw[he,ae]⟩)
  rw[dE] at I;rw[bR aY.p aY.i rfl (show M.rangeAt E 0 (dj c) from bn.range)];refine ia (f:=dj) (k:=3) (a:=c) cU.u aY.i Ω rfl rfl λev dq O ew aZ bx=>?_;have Y:=aF.ext aZ;have cC:=bo.ext aZ;refine iD (f:=dj) (a:=c) cU.u aY.i rfl Y.1 (by simpa using bx.sl) cC.one Ω Ω λey dF dg a8 dG bC=>?_;have cD:∀r,leadsTo l r-> ∃e c,ag O r e c/\e≠ai/\e≠ap:=λr m=>by
   obtain⟨rfl,c,ao⟩:=eb Y.1 m;exact⟨_,c,ao,Φ,Φ⟩
  have ez:=aZ.size;have eA:=ah.size;refine bQ _ _ ⟨dF,C++[c],(ah.trans aZ).then bC λr m he=>by have:=Y.2.2.2 r he;omega,⟨a8,λz G=>?_,λp q y z H G dH r bE bF=>?_,λr m=>(dG r m).elim (Y.2.2.2 r) λh=>Ω⟩,?_⟩
  .rcases o7.1 G with G|G
   .exact⟨mB (Y.2.1 z G).1 bC λr m=>.inl (cD r m),(Y.2.1 z G).2⟩
   .rw[o8.1 G];exact⟨mB cC bC λr m=>.inl (cD r m),λr m=>by have:=K r m;omega⟩
  .have cE:∀ {p:Nat} {y:fl},(C++[c])[p]? =σ y->C[p]? =σ y\/(p=C.length/\y=c):=λ{p y} H=>by
    rw[List.getElem?_append] at H;split at H
    .exact .inl H
    .by_cases dI:p-C.length=0
     .rw[dI] at H;cases H;exact .inr ⟨Ω,rfl⟩
     .rw[Z6 Θ] at H;cases H
   rcases cE H with cF|⟨eB,rfl⟩<;>rcases cE G with cG|⟨eq,rfl⟩
   .exact Y.2.2.1 p q y z cF cG dH r bE bF
   .have:=W y (x5 cF) r bE;have:=K r (.inl bF);omega
   .have:=W z (x5 cG) r bF;have:=K r (.inl bE);omega
   .omega
  .rw[Z0,I,cB,CG λz G he=>aX (l9.2 ⟨z,G,he⟩)];show _++[(c.sc,c.cs)]=_;rw[ae,aE];rfl
 .have af:bl x.scope∈(eK f i).map (·.1):=by simpa using af
  refine bQ _ _ ⟨g,C,ah,aF,?_⟩;rw[I,cB];unfold h7;rw[if_pos (show (hR f.sizes f.k x).1∈_ from af)];refine List.map_congr_left λz _=>?_;unfold k8;rw[ae,aE];rfl
def wA (w:x3) (B:Nat) (v:x1) (n:aR):Prop:=∃szv gz a f aX e gr L,v= .agg #[Δ n.k,szv,Δ n.zero,a,e]/\au .i64 ai w gz szv n.sizes/\hs w f a aX/\aX.map (·.l)=n.unary/\bk dj 3 aY w gr e L/\(∀h∈L,fI w n.sizes h)/\L.map dt=n.funs/\(∀r,leads szv r->B<=r)/\ ∀h∈L,∀r,pf h r->B<=r
def z9:List x1:=[Δ 0,.slice ν 0 0,Δ 0,.slice ν 0 0,.slice ν 0 0]
def mC (w:x3) (C gt gs go:Nat) (szv a6:x1) (f:b2) (a:List fl) (w':x3):Prop:=Ext w w'/\C<=w'.heap.size/\ag w' gt dA z9/\au .i64 ai w' gs szv f.sizes/\bk dj 3 aY w' go a6 a/\(∀r,leadsTo a6 r->r<C)/\ ∀h∈a,fI w' f.sizes h
theorem mC.ext {aa:x3} {go:Nat} {a6:x1} {f:b2} {a:List fl} (h:mC w C gt gs go szv a6 f a w') (J:Ext w' aa):mC w C gt gs go szv a6 f a aa:=by
 obtain⟨h1,s,e,j,m,p,q⟩:=h;have:=J.size;exact⟨h1.trans J,Ω,e.ext J,j.ext J,m.ext J,p,λx r=>(q x r).ext J⟩
def Of (w w':x3) (C gt:Nat) (r:Nat):Prop:=w.heap.size<=r/\r≠gt/\((∃c,ag w' r dA c)\/(∃c,ag w' r ax c)\/((∃c,ag w' r aY c)/\C<=r))
theorem mC.ab {aa:x3} {go:Nat} {a6:x1} {f:b2} {s:List fl} (h:mC w C gt gs go szv a6 f s w') (m:ah S w' aa) (p:∀r,S r->Of w w' C gt r):mC w C gt gs go szv a6 f s aa:=by
 obtain⟨h1,G,B,y,q,z,E⟩:=h;have:=m.size;have A:∀r,S r-> ∃e c,ag w' r e c/\e≠ai/\e≠ap:=λr j=>by
  obtain⟨_,_,⟨c,a⟩|⟨c,a⟩|⟨⟨c,a⟩,_⟩⟩:=p r j
  .exact⟨_,c,a,Φ,Φ⟩
  .exact⟨_,c,a,Φ,Φ⟩
  .exact⟨_,c,a,Φ,Φ⟩
 refine⟨h1.then m λr j U=>by have:=(p r U).1;omega,Ω,B.ab m λU=>(p _ U).2.1 rfl,br y m λr j U=>?_,q.ab m λr j U=>?_,z,λx J=>mB (E x J) m λr j=>.inl (A r j)⟩
 .obtain⟨e,c,a,F,_⟩:=A r U;exact b7 y a (λhe=>F he.symm) j rfl
 .obtain⟨_,_,⟨c,a⟩|⟨c,a⟩|⟨_,H⟩⟩:=p r U
  .exact cR q a Φ j
  .exact cR q a Φ j
  .have:=z r j;omega
def Ds (w:x3) (C f:Nat) (szv:x1) (k:Int) (n:aR) (j:List fl) (w':x3):Prop:=∃a m aX e gr L,ag w' f dA [Δ k,szv,Δ n.zero,a,e]/\hs w' m a aX/\aX.map (·.l)=n.unary/\(∀r,leadsTo a r->w.heap.size<=r)/\bk dj 3 aY w' gr e L/\(∀h∈L,h∈j)/\L.map dt=n.funs/\ ∀r,leadsTo e r->C<=r
theorem Dt {N:Nat} {bY:Nat} {f:b2} (bZ:nR w bY f) (O:e6 N f):am x7 F5 [Γ bY] w λv w'=>Ext w w'/\wA w' w.heap.size v (cQ f):=by
 have hk:=O.k;have dz:=O.sizes.2.1;obtain⟨dC,dE,dF,dG,b0,b1,dH⟩:=id bZ;refine az func31 ?_;refine bD dA.i λgt V dI aS aT=>?_;have aT:ag V gt dA z9:=aT;rw[aQ dB.p 1 (b0.ext aS) rfl,dn (cs:=#[Δ f.k,.slice ν 0 0,Δ 0,.slice ν 0 0,.slice ν 0 0]) Ψ];refine bD dA.i λs aa dJ b3 cJ=>?_;refine ch (vs:=[Δ f.k,.slice ν 0 0,Δ 0,.slice ν 0 0,.slice ν 0 0]) dA.i rfl rfl (by intro u hu;simp at hu;rcases hu with rfl|rfl|rfl|rfl<;>rfl) cJ λcK b4 dK cL=>?_;have bw:Ext w cK:=(aS.trans b3).then b4 λr m he=>by have he:r=s:=he;have:=aS.size;omega
 have dL:=aT.lt;have C:s≠gt:=Ω
 have cM:=(aT.ext b3).ab b4 λhe=>by have he:gt=s:=he;omega
 rw[aQ dB.p 2 (b0.ext bw) rfl,aW ax.u (b1.ext bw).ls];have dM:=aS.size;refine cz.range f.sizes.length (λi R=>Ext w R/\ag R gt dA z9/\ ∃szv gs A G aX,ag R s dA [Δ f.k,szv,Δ 0,A,.slice ν 0 0]/\au .i64 ai R gs szv (f.sizes.take i)/\(∀r,leads szv r->w.heap.size<=r)/\hs R G A aX/\aX.map (·.l)=(f.sizes.take i).map (λz=>r8 z.toNat 0)/\ ∀r,leadsTo A r->w.heap.size<=r) Ω
  ⟨bw,cM,_,0,_,0,[],cL,au.nil _ _ _ _,(λr m=>by obtain⟨a,n,c,cN,dN⟩:=m;cases cN),⟨bk.nil _ _ _ _ _,λx J=>(by cases J)⟩,rfl,λr m=>(fg m).elim⟩ ?_ ?_
 .rintro i R cO hi ⟨S,bx,szv,gs,A,G,aX,aD,aV,aZ,bz,aE,a1⟩ cP;obtain⟨z,B⟩:=aH (l:=f.sizes) hi;have dO:=O.sizes.2.2 z (x5 B);have dP:aX.length=i:=by have:=congrArg S6 aE;simp only[u7,j6] at this;omega
  refine bH Ω ?_;rw[bc ax.u ap.i Ψ (b1.ext S).ls B,aM dA.p 1 aD rfl];refine ew (k:=.i64) an.u ai.i rfl λa5 dQ b5 dR aj cS=>?_;have aF:=aV.ext aj;refine hx an.u ai.i rfl aF cS.ls Θ Θ λbA b6 dS a2 cT b8=>?_;have bB:=aD.ext aj;have b9:=bx.ext aj;have ca:=bB.ab b8 λhe=>b7 aF bB Φ he rfl;rw[aU dA.p rfl];refine bq (g:=s) (o:=1) an.i a2.ls.cells.1 a2.ls.cells.2 ca Ξ λa7 cb dT a8=>?_;have a8:ag a7 s dA [Δ f.k,bA,Δ 0,A,.slice ν 0 0]:=a8;have bC:ah (λr=>leads szv r\/r=s) b5 a7:=(b8.mono λr _ h=>.inl h).trans (cb.mono λr _ h=>.inr h);have cV:au .i64 ai a7 b6 bA (f.sizes.take (i+1)):=by
   rw[u9,B];exact br a2 cb λr m he=>by
    have he:r=s:=he;subst he;exact b7 a2 ca Φ m rfl
  have ak:∀r,(leads szv r\/r=s)-> ∃e c,ag b5 r e c/\e≠ap/\e≠ax:=λr m=>by
   rcases m with m|rfl
   .obtain⟨rfl,_⟩:=bO aF m;obtain⟨_,⟨ad,_⟩|⟨cap,full,_,q,_⟩⟩:=aF
    .obtain⟨a,n,c,e,_⟩:=m;rw[ad] at e;cases e
    .exact⟨_,_,q,Φ,Φ⟩
   .exact⟨_,_,bB,Φ,Φ⟩
  have cW:=(bz.ext aj).ab bC ak;have z4:=S.size;have z5:=aj.size;have cc:Ext w a7:=(S.trans aj).then bC λr m he=>by
   rcases he with he|he
   .have:=aZ r he;omega
   .omega
  have cX:=b9.ab bC λU=>by
   rcases U with U|U
   .exact b7 aF b9 Φ U rfl
   .omega
  intro dU cd _ _;have cY:=a8.ext cd;rw[aM dA.p 3 cY rfl];obtain⟨W,rfl⟩:∃n:Nat,z=n:=⟨z.toNat,Ω⟩;refine jx (k:=.i64) ax.u ap.i Ω Ω λba cZ dW bE c0=>?_;refine⟨.inl bE,?_⟩;have c1:au .i64 ap cZ ba (.slice (σ ⟨ba,0,ν⟩) W W) (r8 W 0):=au.of (bW.full (k:=1) (n:=W) c0 Ξ (by simp[maxLen];omega));let a:k2:=⟨.slice (σ ⟨ba,0,ν⟩) W W,r8 W 0⟩;refine ia (f:=nF) (a:=a) dV.u ax.i Ω rfl rfl λdX dY bF dZ bG c2=>?_;refine⟨.inl (bE.trans bG),?_⟩;have ao:=(cd.trans bE).trans bG;have aG:=cW.ext ao;refine iD (f:=nF) (a:=a) dV.u ax.i rfl aG.1 (by simpa using c2.sl) (λu hu=>by rw[o8.1 (show u∈[a.v] from hu)];rfl) Ω Ω λbI bJ ea H bK ce=>?_;have aq:∀ {r:Nat},leadsTo A r-> ∃c,ag bF r ax c:=λm=>by
   obtain⟨rfl,c,q⟩:=eb aG.1 m;exact⟨c,q⟩
  have bL:=a8.ext ao;have cg:=bL.ab ce λhe=>cR aG.1 bL Φ he;rw[aU dA.p rfl];refine bq dV.i (eL H.sl).1 (eL H.sl).2 cg Ξ λc3 ci ec c4=>?_;rw[aP];have P:ah (λr=>leadsTo A r\/r=s) bF c3:=(ce.mono λr _ h=>.inl h).trans (ci.mono λr _ h=>.inr h);have bM:∀r,(leadsTo A r\/r=s)-> ∃e c,ag bF r e c/\e≠ap/\e≠ai:=λr m=>by
   rcases m with m|rfl
   .obtain⟨c,q⟩:=aq m;exact⟨_,c,q,Φ,Φ⟩
   .exact⟨_,_,bL,Φ,Φ⟩
  have cj:=cV.ext ao;have ed:=cc.size;have ee:=ao.size;have ck:=cX.ext ao;refine cP _ ⟨(cc.trans ao).then P (λr m he=>?_),ck.ab P (λU=>?_),bA,b6,bI,bJ,aX++[a],c4,br cj P (λr m U=>?_),λr m=>?_,⟨H.ab ci λr m he=>?_,λy I=>?_⟩,?_,λr m=>?_⟩
  .rcases he with he|rfl
   .have:=a1 r he;omega
   .omega
  .rcases U with U|U
   .exact cR aG.1 ck Φ U
   .omega
  .obtain⟨e,c,q,_,C⟩:=bM r U;exact b7 cj q (λhe=>C he.symm) m rfl
  .rcases cT r m with h|h
   .exact aZ r h
   .omega
  .have he:r=s:=he;subst he;exact cR H cg Φ m
  .rcases o7.1 I with I|I
   .exact aG.qE P (λr m=>by obtain⟨e,c,q,C,_⟩:=bM r m;exact⟨e,c,q,C⟩) y I
   .rw[o8.1 I];have cl:=c1.ext bG;exact⟨ba,br cl P λr m U=>by
     obtain⟨e,c,q,C,_⟩:=bM r U;exact b7 cl q (λhe=>C he.symm) m rfl⟩
  .rw[Z0,aE,u9,B,o9,Z0];rfl
  .rcases bK r m with h|h
   .exact a1 r h
   .omega
 rintro R cO ⟨S,bx,szv,gs,A,G,aX,aD,aV,aZ,bz,aE,a1⟩;refine cp Ω ?_;rw[p9] at aV aE;refine (Oe (bZ.ext S) O).mono ?_;rintro a6 bb _ ⟨av,go,K,H,cm,cn,ef⟩;have cq:K.length=(fB f).length:=by rw[<-cn,u7]
 have eg:K.length<=256:=by
  have h1:=(qu O).2.length_eq;have bd:=(kZ O).2.2;have eh:=List.length_filter_le fA (ff f);have ei:=O.kS;omega
 have z4:=S.size;have ej:=av.size;have ek:=aD.lt;rw[fh cU.u H];refine cz.range K.length (λi X=>mC w bb.heap.size gt gs go szv a6 f K X/\Ds w bb.heap.size s szv f.k (dD f i) K X) H.le
  ⟨⟨S.trans av,p8 _,bx.ext av,aV.ext av,H,λr m=>by have:=H.leads m;omega,λh aJ=>(cm h aJ).1⟩,A,G,aX,_,0,[],aD.ext av,bz.ext av,aE,a1,bk.nil _ _ _ _ _,λx J=>(by cases J),rfl,λr m=>(fg m).elim⟩ ?_ ?_
 rotate_left
 .rintro X c5 ⟨aw,A,G,aX,Y,gr,L,be,bf,Z,aI,aK,aB,ac,aL⟩;obtain⟨c6,em,cr,bN,en,eo,c7⟩:=id aw;have bh:=pb f K.length;rw[cq,s3] at bh;rw[cq,s3] at be Z ac;refine cp Ω ?_;rw[bR dA.p dA.i rfl (show X.rangeAt s 0 [Δ f.k,szv,Δ (cQ f).zero,A,Y] from be.range)];refine ch (vs:=[Δ f.k,szv,Δ (cQ f).zero,A,Y]) dA.i rfl rfl (λu hu=>?_) cr λep aO er c8=>?_
  .simp at hu;rcases hu with rfl|rfl|rfl|rfl|rfl
   .rfl
   .exact bN.ls.cells.2
   .rfl
   .exact (eL bf.1.sl).2
   .exact (eL aK.sl).2
  rw[fN dA.p dA.i rfl c8.range];have ak:∀r,r=gt-> ∃e c,ag X r e c/\e≠ap/\e≠ax/\e≠ai/\e≠aY:=λr m=>by
   subst m;exact⟨_,_,cr,Φ,Φ,Φ,Φ⟩
  refine⟨c6.then aO λr m he=>by have he:r=gt:=he;omega,szv,gs,A,G,aX,Y,gr,L,?_,?_,bf.ab aO (λr m=>?_),Z,aK.ab aO (λr m U=>?_),λh aJ=>?_,ac,aZ,λh aJ r m=>by have:=(cm h (aB h aJ)).2 r m;omega⟩
  .rw[bh.1]
  .rw[bh.2.1];refine br bN aO λr m U=>?_;obtain⟨e,c,q,_,_,C,_⟩:=ak r U;exact b7 bN q (λhe=>C he.symm) m rfl
  .obtain⟨e,c,q,h1,bd,_⟩:=ak r m;exact⟨e,c,q,h1,bd⟩
  .obtain⟨e,c,q,_,_,_,C⟩:=ak r U;exact cR aK q (λhe=>C he.symm) m
  .rw[bh.2.1];exact mB (c7 h (aB h aJ)) aO λr m=>by
    obtain⟨e,c,q,h1,_,bd,_⟩:=ak r m;exact .inl ⟨e,c,q,bd,h1⟩
 rintro i X c5 hi ⟨aw,A,G,aX,Y,gr,L,be,bf,Z,aI,aK,aB,ac,aL⟩ c9;obtain⟨y,I⟩:=aH (l:=K) hi;have bi:=x5 I;have ct:(fB f)[i]? =σ (dt y):=by rw[<-cn,x8,I];rfl
 have bP:fD f.sizes f.k (dt y):=sG O _ (x5 ct);have bQ:=vZ ct;obtain⟨es,et,eu,ev⟩:=pb f i;refine bH Ω ?_;refine dg (λbT=>mC w bb.heap.size gt gs go szv a6 f K bT/\Ds w bb.heap.size s szv f.k (dD f (i+1)) K bT) ?_ ?_
 .rintro bT h;rw[aP];exact c9 _ h
 intro aA bU;rw[dx rfl cU.u aY.i aw.2.2.2.2.1 hi,bR aY.p aY.i rfl (aw.2.2.2.2.1.range I)];refine bD aY.i λda ey ez db dc=>?_;refine ch (vs:=dj y) aY.i rfl rfl (aw.2.2.2.2.2.2 y bi).one dc λcu dd eA bj=>?_;have bl:Ext X cu:=db.put dd Ω;have bm:=aw.ext bl;have ae:=be.ext bl;have bV:=bf.ext bl;have bn:=aK.ext bl;obtain⟨eB,eC,cw,eD,eE,eF,cA⟩:=id bm;obtain⟨⟨eH,cB⟩,_,de,cC⟩:=cA y bi;rw[aM aY.p 0 bj rfl,aW an.u cB.ls];have eI:aX.length=f.sizes.length:=by have:=congrArg S6 Z;rw[u7] at this;omega
 have eJ:L.length<=256:=by have:=congrArg S6 ac;rw[u7] at this;omega
 rw[bg,al];refine⟨λeK=>?_,λeM=>?_⟩
 .
  have af:y.sc=[]:=j5 Ω;have E:dD f (i+1)={dD f i with zero:=y.cs.getD 0 0}:=by rw[bQ];unfold iH;simp only[dt,af]
  have eN:y.cs.length=1:=by have:=bP.len;simpa[dt,af,bS,aN] using this
  have df:y.cs[0]? =σ (y.cs.getD 0 0):=by rw[v8,x6 Ω];rfl
  rw[aM aY.p 2 bj rfl,fM (y:=0) (i:=0) rfl ax.u ap.i Ψ cC.ls df,aU dA.p rfl];refine bq ap.i rfl rfl ae Ξ λdh M di dk=>?_;refine bU _ ⟨bm.ab M λr m=>?_,A,G,aX,Y,gr,L,?_,bV.ab M (λr m=>?_),by rw[E];exact Z,aI,bn.ab M (λr m U=>?_),aB,by rw[E];exact ac,aL⟩
  .have m:r=s:=m;subst m;exact⟨Ω,C,.inl ⟨_,ae⟩⟩
  .rw[E];exact dk
  .have m:r=s:=m;subst m;exact⟨_,_,ae,Φ,Φ⟩
  .have U:r=s:=U;subst U;exact cR bn ae Φ m
 rw[bg,al];refine⟨λh1=>?_,λeO=>?_⟩
 .
  obtain⟨v,af⟩:∃v,y.sc=[v]:=W7.1 Ω;have eP:=bP.scope.1 v (by show v∈y.sc;rw[af];exact .head _);have eQ:=bP.vars v (by show v∈y.sc;rw[af];exact .head _);have E:dD f (i+1)={dD f i with unary:=(dD f i).unary.set v.toNat y.cs}:=by rw[bQ];unfold iH;simp only[dt,af]
  intro dl Q _ _;have bX:=ae.ext Q;have cD:=bj.ext Q;have aR:=bV.ext Q;have dm:=bm.ext Q;have cE:=bn.ext Q;rw[aM dA.p 3 bX rfl,aM aY.p 0 cD rfl];refine oE (y:=0) (i:=0) rfl an.u ai.i (cB.ls.ext Q) (show y.sc[0]? =σ v by rw[af];rfl) λb o dp=>?_;rw[ay Ψ dp,aM aY.p 2 cD rfl];obtain⟨u,hu⟩:=aH (l:=aX) (i:=v.toNat) Ω;rw[dx (i:=v.toNat) Ω dV.u ax.i aR.1 Ω];let a:k2:=⟨y.a6,y.cs⟩;have bo:=cC.ext Q;refine oW (f:=nF) (j:=0) (a:=u) (a':=a) ax.i bo.ls.cells.1 bo.ls.cells.2 aR.1 hu rfl Ω λdh M di dq=>?_;have aq:∀ {r:Nat},leadsTo A r-> ∃c,ag dl r ax c:=λm=>by
   obtain⟨rfl,c,q⟩:=eb aR.1 m;exact⟨c,q⟩
  refine bU _ ⟨dm.ab M λr m=>?_,A,G,aX.set v.toNat a,Y,gr,L,?_,⟨dq,λz B=>?_⟩,?_,aI,cE.ab M (λr m U=>?_),aB,by rw[E];exact ac,aL⟩
  .obtain⟨c,q⟩:=aq m;exact⟨aI r m,λhe=>(by subst he;exact absurd (e7 q (cw.ext Q)) Φ),.inr (.inl ⟨c,q⟩)⟩
  .rw[E];exact bX.ab M λhe=>cR aR.1 bX Φ he
  .rcases X8 B with B|rfl
   .exact aR.qE M (λr m=>by obtain⟨c,q⟩:=aq m;exact⟨_,c,q,Φ⟩) z B
   .exact⟨de,br bo M λr m U=>by
     obtain⟨c,q⟩:=aq U;exact b7 bo q Φ m rfl⟩
  .rw[E,V8,Z]
  .obtain⟨c,q⟩:=aq U;exact cR cE q Φ m
 .
  have E:dD f (i+1)={dD f i with funs:=(dD f i).funs++[dt y]}:=by
   rw[bQ];unfold iH;have cF:2<=(dt y).1.length:=by show 2<=y.sc.length;omega
   generalize dt y=g at cF ⊢;obtain⟨sc,cs⟩:=g
   match sc,cF with
   |_::_::_,_=>rfl
  rw[aM dA.p 4 ae rfl,bR aY.p aY.i rfl (show cu.rangeAt da 0 (dj y) from bj.range)];refine ia (f:=dj) (k:=3) (a:=y) cU.u aY.i Ω rfl rfl λeR eS dr eU aC ds=>?_;have bp:=bn.ext aC;have du:=bV.ext aC;have bt:=ae.ext aC;have dv:=bm.ext aC;refine iD (f:=dj) (a:=y) cU.u aY.i rfl bp (by simpa using ds.sl) (cA y bi).one Ω Ω λbI bJ eV bu bK cG=>?_;have cH:=bt.ab cG λhe=>cR bp bt Φ he;rw[aU dA.p rfl];refine bq cU.i (eL bu.sl).1 (eL bu.sl).2 cH Ξ λdw cI eW dy=>?_;have P:ah (λr=>leadsTo Y r\/r=s) dr dw:=(cG.mono λr _ h=>.inl h).trans (cI.mono λr _ h=>.inr h);have eX:=aC.size;refine bU _ ⟨dv.ab P λr m=>?_,A,G,aX,bI,bJ,L++[y],?_,du.ab P (λr m=>?_),by rw[E];exact Z,aI,bu.ab cI (λr m U=>?_),λz B=>?_,?_,λr m=>?_⟩
  .rcases m with m|rfl
   .obtain⟨rfl,c,q⟩:=eb bp m;have:=aL _ m;refine⟨Ω,λhe=>?_,.inr (.inr ⟨⟨c,q⟩,this⟩)⟩;subst he;exact absurd (e7 q (cw.ext aC)) Φ
   .exact⟨Ω,C,.inl ⟨_,bt⟩⟩
  .rw[E];exact dy
  .rcases m with m|rfl
   .obtain⟨rfl,c,q⟩:=eb bp m;exact⟨_,c,q,Φ,Φ⟩
   .exact⟨_,_,bt,Φ,Φ⟩
  .have U:r=s:=U;subst U;exact cR bu cH Φ m
  .rcases o7.1 B with B|B
   .exact aB z B
   .rw[o8.1 B];exact bi
  .rw[E,Z0,ac];rfl
  .rcases bK r m with h|h
   .exact aL r h
   .omega
def qP (w:x3) (S:Nat->Prop) (e:r9):Prop:=∀r,S r-> ∃c,ag w r e c
theorem wB {a:r9} {k:o5} {g:Nat} {v:x1} (h:au k a w g v l) (f:ah S w w') (j:qP w S e) (m:a≠e):au k a w' g v l:=br h f λr p U=>by
 obtain⟨c,q⟩:=j r U;exact b7 h q m p rfl
theorem Du {α:Type} {f:α->List x1} {k:Nat} {a:r9} {g:Nat} {v:x1} {L:List α} (h:bk f k a w g v L) (j:ah S w w') (m:qP w S e) (p:a≠e):bk f k a w' g v L:=h.ab j λr q U=>by
 obtain⟨c,s⟩:=m r U;exact cR h s p q
theorem wC {a:r9} {r:Nat} {c:List x1} (h:ag w r a c) (f:ah S w w') (j:qP w S e) (m:a≠e):ag w' r a c:=h.ab f λU=>by
 obtain⟨c,p⟩:=j r U;exact m (e7 h p)
theorem Dv {g:Nat} {c:List x1} (h:ag w g e c):qP w (λr=>r=g) e:=λr a=>by
 have a:r=g:=a;subst a;exact⟨c,h⟩
theorem Og {k:o5} {g:Nat} {v:x1} (h:au k e w g v l):qP w (λr=>leads v r) e:=λr f=>by
 have f:leads v r:=f;obtain⟨rfl,_⟩:=bO h f;obtain⟨_,⟨ad,_⟩|⟨cap,full,_,m,_⟩⟩:=h
 .obtain⟨a,n,c,j,_⟩:=f;rw[ad] at j;cases j
 .exact⟨_,m⟩
def aB (x:bB):Λ:=((X4 x.un.length).map λv:Nat=>(v:Int)).filter λv=>!dropped x.mask v
theorem wD {P:W5} {k:o5} {t:r9} {b:Nat} {z:x1} (a:P.underlying t=σ (.slice e)) (hi:aT P e 1 b z)
  (f:∀v g w',g=w.heap.size->Ext w w'->au k e w' g v []->K v w'):aD P (Y4 t 0 #[]) w K:=
 j8 a hi Ω (cs:=#[]) (by simp[Instr.fill]) λg w' h j m=>f _ g w' h j (au.of (n:=0) (bW.full (by simpa using m) Ξ (by simp[maxLen])))
theorem Oh {v:x1} {n:aR} (h:wA w B v n) {g:Nat} (j:ag w' g dA v.cells.toList):∃szv gz a f aX e gr L,ag w' g dA [Δ n.k,szv,Δ n.zero,a,e]/\au .i64 ai w gz szv n.sizes/\hs w f a aX/\aX.map (·.l)=n.unary/\bk dj 3 aY w gr e L/\(∀h∈L,fI w n.sizes h)/\L.map dt=n.funs/\(∀r,leads szv r->B<=r)/\ ∀h∈L,∀r,pf h r->B<=r:=by
 obtain⟨szv,gz,a,f,aX,e,gr,L,rfl,m,p,s,q,x,y⟩:=h;obtain⟨_,_,_,z⟩:=c4 m.ls;obtain⟨_,_,_,_,_,A,_⟩:=p.1.sl;obtain⟨_,_,_,_,_,C,_⟩:=q.sl;refine⟨szv,gz,a,f,aX,e,gr,L,?_,m,p,s,q,x,y⟩;rw[z,A,C] at j ⊢;exact j
def z12:List x1:=[Δ 0,.slice ν 0 0,Δ 0,.slice ν 0 0,.slice ν 0 0,.slice ν 0 0,.slice ν 0 0,.slice ν 0 0]
end Go.Proofs.YtmgflbkdggdhoaaGreatDoor
namespace Go.Vc
open Go Go.RowKit
section
variable {P:W5} {w:x3} {α:Type} [ao α] {S R:ak}
theorem Dw {k:Nat} {vs:List (List x1)} {i:Nat} {c:List x1} (h:∀x∈vs,x.length=k) (e:c.length=k) (hi:i<vs.length):over vs.flatten (i*k) c=(vs.set i c).flatten:=by
 have:=vx (f:=id) (k:=k) (L:=vs) (i:=i) (a:=c) h e hi;rw[List.flatMap_id,List.flatMap_id] at this;exact this
theorem Oi {v:x1} {l:List α} {i:Nat} (h:bE S R w [v] l) (O:i<l.length):∃g cap full m,v= .slice (σ ⟨g,0,ν⟩) l.length cap/\ag w g m full/\S g/\i*ao.n α+ao.n α<=full.length/\
  ∀ {A:ak} {cs:List x1} {a:α},bE A R w cs a->(∀r,r<w.heap.size->S r->¬A r/\¬R r)-> ∀w',ah (λr=>r=g) w w'->ag w' g m (over full (i*ao.n α) cs)->bE (λr=>S r\/A r) R w' [v] (l.set i a):=by
 obtain⟨vs,g,F,p,he,U,hm⟩:=ja h;obtain⟨P,m,Q⟩:=hm rfl;obtain⟨ac,⟨rfl,ad⟩|⟨cap,full,rfl,C,G,T,af,V⟩⟩:=id Q
 .omega
 have H:vs.length=l.length:=he.1;have W:(i+1)*ao.n α<=l.length*ao.n α:=X6 _ O;have X:l.length*ao.n α<=full.length:=by rw[af];exact X6 _ G
 rw[U2,Nat.one_mul] at W;have x:S g:=P.resolve_left Ξ;refine⟨g,cap,full,m,rfl,C,x,Ω,λ{A cs a} I y w' J Y=>?_⟩;have K:=ao.len I;have L:¬A g:=(y g C.lt x).1;have M:¬R g:=(y g C.lt x).2;have Z:∀c∈vs.set i cs,c.length=ao.n α:=λc s=>by
  rcases X8 s with e|rfl
  .exact he.len c e
  .exact K
 have N:bW w' g m (ao.n α) (.slice (σ ⟨g,0,ν⟩) l.length cap) (l.set i a).length (vs.set i cs).flatten:=by
  refine⟨by rw[pR Z,c8,c8,H],.inr ⟨cap,_,by rw[c8],Y,by rw[c8];exact G,T,by rw[lH,af],?_⟩⟩;rw[c8,sw Ω X,V,Dw he.len K Ω]
 refine⟨_,rfl,vs.set i cs,g,λj r=>if j=i then A r/\r<w.heap.size else F j r/\r<w.heap.size,⟨λj r f=>?_,λ_ j f=>?_,λ_ j q r aa h1 e=>?_⟩,⟨by simp[H],λj c a' s z=>?_⟩,?_,λ_=>⟨.inr (.inl x),m,N⟩⟩
 .split at f
  .exact .inr f.1
  .exact .inl (p.sub j r f.1)
 .split at f
  .exact L f.1
  .exact p.top rfl j f.1
 .split at h1<;>split at e
  .omega
  .exact (y r e.2 (p.sub q r e.1)).1 h1.1
  .exact (y r h1.2 (p.sub j r h1.1)).1 e.1
  .exact p.gC rfl j q r aa h1.1 e.1
 .by_cases B:j=i
  .subst B;rw[c7 Ω] at s z;cases s;cases z;have E:bE (λr=>if j=j then A r/\r<w.heap.size else F j r/\r<w.heap.size) R w cs a:=ao.mono I (λr f h=>by rw[if_pos rfl];exact⟨h,f⟩) λ_ _ h=>h;refine ao.ab E J λr f h1 e=>?_;have e:r=g:=e;subst e;rcases h1 with h1|h1
   .simp only[if_true] at h1;exact L h1.1
   .exact M h1
  .rw[Y0 (Ne.symm B)] at s z;have E:bE (λr=>if j=i then A r/\r<w.heap.size else F j r/\r<w.heap.size) R w c a':=ao.mono (he.2 j c a' s z) (λr f h=>by rw[if_neg B];exact⟨h,f⟩) λ_ _ h=>h;refine ao.ab E J λr f h1 e=>?_;have e:r=g:=e;subst e;rcases h1 with h1|h1
   .simp only[if_neg B] at h1;exact p.top rfl j h1.1
   .exact M h1
 .have:=oz (S:=λr=>(S r\/A r)\/R r) N (.inr (.inl (.inl x)));exact this
theorem Dx {t:r9} {B:o5} {i b:Nat} {z v x:x1} {l:List α} {a:α} {A:ak} {K:Unit->x3->Prop} (j:ao.n α=1) (C:y=(i:Int)) (E:P.underlying t=σ (.slice e)) (hi:aT P e 1 b z)
  (h:bE S R w [v] l) (m:i<l.length) (J:x.cells= #[x]) (q:bE A R w [x] a) (F:∀r,r<w.heap.size->S r->¬A r/\¬R r)
  (G:∀w',ah S w w'->bE (λr=>S r\/A r) R w' [v] (l.set i a)->K () w'):ac P (j4 t v (.int B y)) w λp=>aD P (o6 e p x) w K:=by
 subst C;obtain⟨g,cap,full,O,rfl,H,I,L,M⟩:=Oi h m;rw[j] at L;rw[e5 E hi m λ_=>rfl];refine bq (o:=0+i*1) hi J (ao.one q x (.head _)) H Ω λw' s _ N=>G w' (s.mono λr _ f=>by have f:r=g:=f;subst f;exact I) (M q F w' s ?_);rw[j,X0] at*;exact N
end
end Go.Vc
namespace Go.Proofs.YtmgflbkdggdhoaaGreatDoor
open Go Go.Vc Go.RowKit Go.Proofs Go.Proofs.Tryz
set_option maxRecDepth 100000
abbrev ij:Type:=(Rd (Λ)×Rd (Λ)×Λ)×Bool
abbrev nS:Type:=Int×Rd (Λ)×Rd (Λ)
def hb (f:cb):ij:=((f.sc,f.aj,f.cs),decide (f.live≠0))
def Dy (e:wb):nS:=(e.v,e.sc,e.sY)
def cg (m:Bool) (A:Nat->ak) (R:ak) (w:x3) (cs:List x1) (k:Int) (sizes:Λ) (zero:Int) (D:List (Λ)) (G:List Bool) (aX:List (Λ)) (H:List ij) (E:List nS):Prop:=
 ∃szv a e f h p,cs=[Δ k,szv,Δ zero,a,e,f,h,p]/\Seen R w [szv] sizes/\
 ao.rep m (A 0) R w [a] D/\ao.rep m (A 1) R w [e] G/\ao.rep m (A 2) R w [f] aX/\ao.rep m (A 3) R w [h] H/\ao.rep m (A 4) R w [p] E/\
 (m=true->(∀i j r,i≠j->A i r->¬A j r)/\ ∀i r,A i r->¬R r)
abbrev ik (m:Bool) (A:Nat->ak) (R:ak) (w:x3) (cs:List x1) (k:Int) (sizes:Λ) (s:av):Prop:=
 cg m A R w cs k sizes s.zero (s.vars.map aB) (s.vars.map λx=>decide (x.gone≠0)) (s.vars.map (·.un)) (s.funs.map hb) (s.gW.map Dy)
def iN (w:x3) (v:x1) (k:Int) (sizes:Λ) (s:av):Prop:=∃cs,v= .agg cs.toArray/\ik false (λ_ _=>False) ee w cs k sizes s
def il (A:Nat->ak) (i:Nat) (B:ak):Nat->ak:=λj=>if j=i then B else A j
section
variable {m:Bool} {A:Nat->ak} {R:ak} {w w':x3} {cs:List x1} {k zero:Int} {sizes:Λ} {D:List (Λ)} {G:List Bool} {aX:List (Λ)} {H:List ij} {E:List nS} {s:av}
theorem cg.len (h:cg m A R w cs k sizes zero D G aX H E):cs.length=8/\ ∀u∈cs,u.oneCell'=true:=by
 obtain⟨szv,q,r,s,x,y,rfl,h1,a,e,f,j,p,_⟩:=h;refine⟨rfl,λu hu=>?_⟩;simp only[W9,List.not_mem_nil,or_false] at hu;rcases hu with rfl|rfl|rfl|rfl|rfl|rfl|rfl|rfl
 .rfl
 .exact gD h1
 .rfl
 .exact gD a
 .exact gD e
 .exact gD f
 .exact gD j
 .exact gD p
theorem cg.ab {T:ak} (h:cg m A R w cs k sizes zero D G aX H E) (a:ah T w w') (f:∀r,r<w.heap.size->(∃i,A i r)\/R r->¬T r):cg m A R w' cs k sizes zero D G aX H E:=by
 obtain⟨szv,j,p,q,s,x,rfl,h1,y,z,B,C,F,I⟩:=h;have aJ:∀i r,r<w.heap.size->A i r\/R r->¬T r:=λi r e h=>f r e (h.imp (λh=>⟨i,h⟩) id);exact⟨szv,j,p,q,s,x,rfl,ao.ab h1 a λr e h=>f r e (h.elim False.elim .inr),ao.ab y a (aJ 0),ao.ab z a (aJ 1),ao.ab B a (aJ 2),ao.ab C a (aJ 3),ao.ab F a (aJ 4),I⟩
theorem cg.ext (h:cg m A R w cs k sizes zero D G aX H E) (J:Ext w w'):cg m A R w' cs k sizes zero D G aX H E:=h.ab (J.ab λ_=>False) λ_ _ _ h=>h
theorem ik.Oj (h:ik m A R w cs k sizes s):iN w (.agg cs.toArray) k sizes s:=by
 obtain⟨szv,a,e,f,j,p,rfl,h1,q,r,x,y,z,B⟩:=h;exact⟨_,rfl,szv,a,e,f,j,p,rfl,i7 h1,i7 q,i7 r,i7 x,i7 y,i7 z,λh=>by cases h⟩
theorem cg.old (h:cg true A R w cs k sizes zero D G aX H E):cg true (λi r=>A i r/\r<w.heap.size) R w cs k sizes zero D G aX H E:=by
 obtain⟨szv,f,m,p,q,s,rfl,h1,a,x,y,z,B,e⟩:=h;obtain⟨e,C⟩:=e rfl;have hm:∀i r,r<w.heap.size->A i r->A i r/\r<w.heap.size:=λi r F h=>⟨h,F⟩;exact⟨szv,f,m,p,q,s,rfl,h1,ao.mono a (hm 0) λ_ _ h=>h,ao.mono x (hm 1) λ_ _ h=>h,ao.mono y (hm 2) λ_ _ h=>h,ao.mono z (hm 3) λ_ _ h=>h,ao.mono B (hm 4) λ_ _ h=>h,
  λ_=>⟨λi j r I h1 a=>e i j r I h1.1 a.1,λi r h=>C i r h.1⟩⟩
theorem tb {i:Nat} {B:ak} (h:∀i j r,i≠j->A i r->¬A j r) (e:∀j r,j≠i->B r->¬A j r):∀p q r,p≠q->il A i B p r->¬il A i B q r:=λp q r f h1 a=>by
 unfold il at h1 a;split at h1<;>split at a
 .omega
 .exact e q r (by assumption) h1 a
 .exact e p r (by assumption) a h1
 .exact h p q r f h1 a
theorem tc {i:Nat} {B:ak} (h:∀i r,A i r->¬R r) (a:∀r,B r->¬R r):∀p r,il A i B p r->¬R r:=λp r h1=>by
 unfold il at h1;split at h1
 .exact a r h1
 .exact h p r h1
theorem cg.Dz {B:ak} {x:x1} {D':List (Λ)} (h:cg true A R w cs k sizes zero D G aX H E) {T:ak} (e:ah T w w') (m:∀r,T r->A 0 r\/(∀j,¬A j r)/\¬R r) (s:bE B R w' [x] D') (y:∀j r,j≠0->B r->¬A j r) (z:∀r,B r->¬R r):cg true (il A 0 B) R w' (cs.set 3 x) k sizes zero D' G aX H E:=by
 obtain⟨szv,P,C,F,I,J,rfl,h1,a,K,L,M,N,f⟩:=h;obtain⟨f,p⟩:=f rfl;have q:∀r,R r->¬T r:=λr h a=>(m r a).elim (λa=>p 0 r a h) λa=>a.2 h;have aJ:∀j r,j≠0->r<w.heap.size->A j r\/R r->¬T r:=λj r O _ h a=>h.elim (λh=>(m r a).elim (λa=>f j 0 r O h a) λa=>a.1 j h) λh=>q r h a;refine⟨szv,x,C,F,I,J,rfl,ao.ab h1 e λr _ h=>h.elim False.elim (q r),?_,?_,?_,?_,?_,λ_=>⟨tb f y,tc p z⟩⟩
 .exact s
 .exact ao.ab K e λr=>aJ 1 r Ω
 .exact ao.ab L e λr=>aJ 2 r Ω
 .exact ao.ab M e λr=>aJ 3 r Ω
 .exact ao.ab N e λr=>aJ 4 r Ω
theorem cg.Ol {B:ak} {x:x1} {m:List Bool} (h:cg true A R w cs k sizes zero D G aX H E) {T:ak} (e:ah T w w') (p:∀r,T r->A 1 r\/(∀j,¬A j r)/\¬R r) (y:bE B R w' [x] m) (z:∀j r,j≠1->B r->¬A j r) (C:∀r,B r->¬R r):cg true (il A 1 B) R w' (cs.set 4 x) k sizes zero D m aX H E:=by
 obtain⟨szv,F,P,I,J,K,rfl,h1,a,Q,L,M,N,f⟩:=h;obtain⟨f,q⟩:=f rfl;have s:∀r,R r->¬T r:=λr h a=>(p r a).elim (λa=>q 1 r a h) λa=>a.2 h;have aJ:∀j r,j≠1->r<w.heap.size->A j r\/R r->¬T r:=λj r O _ h a=>h.elim (λh=>(p r a).elim (λa=>f j 1 r O h a) λa=>a.1 j h) λh=>s r h a;refine⟨szv,F,x,I,J,K,rfl,ao.ab h1 e λr _ h=>h.elim False.elim (s r),?_,?_,?_,?_,?_,λ_=>⟨tb f z,tc q C⟩⟩
 .exact ao.ab a e λr=>aJ 0 r Ω
 .exact y
 .exact ao.ab L e λr=>aJ 2 r Ω
 .exact ao.ab M e λr=>aJ 3 r Ω
 .exact ao.ab N e λr=>aJ 4 r Ω
theorem cg.kv {B:ak} {x:x1} {m:List (Λ)} (h:cg true A R w cs k sizes zero D G aX H E) {T:ak} (e:ah T w w') (p:∀r,T r->A 2 r\/(∀j,¬A j r)/\¬R r) (y:bE B R w' [x] m) (z:∀j r,j≠2->B r->¬A j r) (C:∀r,B r->¬R r):cg true (il A 2 B) R w' (cs.set 5 x) k sizes zero D G m H E:=by
 obtain⟨szv,F,I,P,J,K,rfl,h1,a,L,Q,M,N,f⟩:=h;obtain⟨f,q⟩:=f rfl;have s:∀r,R r->¬T r:=λr h a=>(p r a).elim (λa=>q 2 r a h) λa=>a.2 h;have aJ:∀j r,j≠2->r<w.heap.size->A j r\/R r->¬T r:=λj r O _ h a=>h.elim (λh=>(p r a).elim (λa=>f j 2 r O h a) λa=>a.1 j h) λh=>s r h a;refine⟨szv,F,I,x,J,K,rfl,ao.ab h1 e λr _ h=>h.elim False.elim (s r),?_,?_,?_,?_,?_,λ_=>⟨tb f z,tc q C⟩⟩
 .exact ao.ab a e λr=>aJ 0 r Ω
 .exact ao.ab L e λr=>aJ 1 r Ω
 .exact y
 .exact ao.ab M e λr=>aJ 3 r Ω
 .exact ao.ab N e λr=>aJ 4 r Ω
theorem cg.kw {B:ak} {x:x1} {m:List ij} (h:cg true A R w cs k sizes zero D G aX H E) {T:ak} (e:ah T w w') (p:∀r,T r->A 3 r\/(∀j,¬A j r)/\¬R r) (y:bE B R w' [x] m) (z:∀j r,j≠3->B r->¬A j r) (C:∀r,B r->¬R r):cg true (il A 3 B) R w' (cs.set 6 x) k sizes zero D G aX m E:=by
 obtain⟨szv,F,I,J,P,K,rfl,h1,a,L,M,Q,N,f⟩:=h;obtain⟨f,q⟩:=f rfl;have s:∀r,R r->¬T r:=λr h a=>(p r a).elim (λa=>q 3 r a h) λa=>a.2 h;have aJ:∀j r,j≠3->r<w.heap.size->A j r\/R r->¬T r:=λj r O _ h a=>h.elim (λh=>(p r a).elim (λa=>f j 3 r O h a) λa=>a.1 j h) λh=>s r h a;refine⟨szv,F,I,J,x,K,rfl,ao.ab h1 e λr _ h=>h.elim False.elim (s r),?_,?_,?_,?_,?_,λ_=>⟨tb f z,tc q C⟩⟩
 .exact ao.ab a e λr=>aJ 0 r Ω
 .exact ao.ab L e λr=>aJ 1 r Ω
 .exact ao.ab M e λr=>aJ 2 r Ω
 .exact y
 .exact ao.ab N e λr=>aJ 4 r Ω
theorem cg.Om {z:Int} (h:cg m A R w cs k sizes zero D G aX H E):cg m A R w (cs.set 2 (Δ z)) k sizes z D G aX H E:=by
 obtain⟨szv,a,e,f,j,p,rfl,h1,q,r,s,x,y,B⟩:=h;exact⟨szv,a,e,f,j,p,rfl,h1,q,r,s,x,y,B⟩
end
theorem td {α:Type} [ao α] {st t H:r9} {pl:List (Nat×Nat)} {c q b I:Nat} {z J y v:x1} {box cs:List x1} {S A R:ak} {l:List α} {a:α} {K:x3->Prop}
  (L:bN x7 st pl) (M:pl[c]? =σ (c,q+1)) (N:x7.underlying t=σ (.slice e)) (O:aT x7 t 1 I J) (hi:aT x7 e (ao.n α) b z) (P:z.cells.size=ao.n α)
  (B:ag w gs st box) (ad:box[c]? =σ v) (h:bE S R w [v] l) (U:cd w (ao.n α) y 1 cs) (Q:bE A R w cs a) (T:∀r,r<w.heap.size->S r->¬A r/\¬R r) (m:¬S gs/\¬A gs/\¬R gs) (Z:(l.length+1)*b<=140737488355328) (ae:l.length+1<=1000000)
  (V:∀j w',ah (λr=>S r\/r=gs) w w'->ag w' gs st (box.set c j)->bE (λr=>S r\/A r\/w.heap.size<=r) R w' [j] (l++[a])->K w'):
  aD x7 (b9 #[t,t] H #[v,y]) w λj aa=>ac x7 (u5 st (Γ gs) c) aa λW=>aD x7 (o6 t W j) aa λ_ p=>K p:=by
 have X:=(x4.1 ad).1;refine nl (A:=A) N hi P h U Q (λr C U f=>?_) Ω Ω λj aa s E=>?_
 .have:=T r C U;exact f.elim this.1 this.2
 have Y:ag aa gs st box:=B.ab E m.1;rw[aU L M];refine bq (o:=0+c) O (pS s) (gD s) Y (by rw[X0];exact X) λp F af G=>?_;refine V j p ((E.mono λr _ h=>.inl h).trans (F.mono λr _ h=>.inr h)) (by rw[X0] at G;exact G) (ao.ab s F λr C f x=>?_);have x:r=gs:=x;subst x;have ai:=B.lt;rcases f with f|f
 .rcases f with f|f|f
  .exact m.1 f
  .exact m.2.1 f
  .omega
 .exact m.2.2 f
section
variable {A:Nat->ak} {B R:ak} {w:x3} {cs xs:List x1} {gs:Nat} {y v:x1} {k zero:Int} {sizes:Λ} {D:List (Λ)} {G:List Bool} {aX:List (Λ)} {H:List ij} {E:List nS} {K:x3->Prop}
theorem cg.On {a:Λ} (h:cg true A R w cs k sizes zero D G aX H E) (C:ag w gs a8 cs) (ad:cs[3]? =σ v) (f:∀j r,A j r->gs<r) (q:∀r,R r->r<gs) (U:cd w 1 y 1 xs) (P:bE B R w xs a) (m:∀r,r<w.heap.size->B r->(∀j,¬A j r)/\gs<r) (ai:D.length<=1000)
  (Q:∀aS ca w',ah (λr=>gs<=r) w w'->ag w' gs a8 ca->cg true aS R w' ca k sizes zero (D++[a]) G aX H E->(∀j r,aS j r->gs<r)->(∀j,j≠3->ca[j]? =cs[j]?)->K w'):
  aD x7 (b9 #[c5,c5] O #[v,y]) w λF aa=>ac x7 (u5 a8 (Γ gs) 3) aa λS=>aD x7 (o6 c5 S F) aa λ_ s=>K s:=by
 have I:=h.old;have V:=C.lt;obtain⟨szv,W,aj,ak,al,J,X,h1,Y,am,ap,aq,au,x⟩:=id I;obtain⟨x,L⟩:=x rfl;have J:v=W:=by rw[X] at ad;exact (b6 ad).symm
 subst J;have Z:bE (λr=>B r/\r<w.heap.size) R w xs a:=ao.mono P (λr e h=>⟨h,e⟩) λ_ _ h=>h;refine td (pl:=_) (l:=D) a8.p rfl c5.u c5.i an.i rfl C ad Y U Z (λr e M=>⟨λab=>(m r e ab.1).1 0 M.1,L 0 r M⟩) ⟨λh=>by have:=f 0 gs h.1;omega,λh=>by have:=(m gs V h.1).2;omega,λh=>by have:=q gs h;omega⟩ Ω Ω λF s N ae af=>?_;refine Q _ _ s (N.mono λr _ h=>h.elim (λh=>by have:=f 0 r h.1;omega) λh=>Ω) ae (I.Dz N (λr e=>?_) af (λj r z e=>?_) λr e=>?_) (λj r e=>?_) λj z=>?_
 .rcases e with e|rfl
  .exact .inl e
  .exact .inr ⟨λj h=>by have:=f j r h.1;omega,λh=>by have:=q r h;omega⟩
 .rcases e with e|e|e
  .exact x 0 j r (Ne.symm z) e
  .exact λh=>(m r e.2 e.1).1 j h.1
  .exact λh=>by have:=h.2;omega
 .rcases e with e|e|e
  .exact L 0 r e
  .exact λh=>by have:=(m r e.2 e.1).2;have:=q r h;omega
  .exact λh=>by have:=q r h;omega
 .unfold il at e;split at e
  .rcases e with e|e|e
   .exact f 0 r e.1
   .exact (m r e.2 e.1).2
   .omega
  .exact f j r e.1
 .rw[Y0 (Ne.symm z)]
theorem cg.Oo {a:Bool} (h:cg true A R w cs k sizes zero D G aX H E) (C:ag w gs a8 cs) (ad:cs[4]? =σ v) (f:∀j r,A j r->gs<r) (q:∀r,R r->r<gs) (U:cd w 1 y 1 xs) (P:bE B R w xs a) (m:∀r,r<w.heap.size->B r->(∀j,¬A j r)/\gs<r) (ai:G.length<=1000)
  (Q:∀aS ca w',ah (λr=>gs<=r) w w'->ag w' gs a8 ca->cg true aS R w' ca k sizes zero D (G++[a]) aX H E->(∀j r,aS j r->gs<r)->(∀j,j≠4->ca[j]? =cs[j]?)->K w'):
  aD x7 (b9 #[j3,j3] O #[v,y]) w λF aa=>ac x7 (u5 a8 (Γ gs) 4) aa λS=>aD x7 (o6 j3 S F) aa λ_ s=>K s:=by
 have I:=h.old;have V:=C.lt;obtain⟨szv,aj,W,ak,al,J,X,h1,am,Y,an,ap,aq,x⟩:=id I;obtain⟨x,L⟩:=x rfl;have J:v=W:=by rw[X] at ad;exact (b6 ad).symm
 subst J;have Z:bE (λr=>B r/\r<w.heap.size) R w xs a:=ao.mono P (λr e h=>⟨h,e⟩) λ_ _ h=>h;refine td (pl:=_) (l:=G) a8.p rfl j3.u j3.i fa.i rfl C ad Y U Z (λr e M=>⟨λab=>(m r e ab.1).1 1 M.1,L 1 r M⟩) ⟨λh=>by have:=f 1 gs h.1;omega,λh=>by have:=(m gs V h.1).2;omega,λh=>by have:=q gs h;omega⟩ Ω Ω λF s N ae af=>?_;refine Q _ _ s (N.mono λr _ h=>h.elim (λh=>by have:=f 1 r h.1;omega) λh=>Ω) ae (I.Ol N (λr e=>?_) af (λj r z e=>?_) λr e=>?_) (λj r e=>?_) λj z=>?_
 .rcases e with e|rfl
  .exact .inl e
  .exact .inr ⟨λj h=>by have:=f j r h.1;omega,λh=>by have:=q r h;omega⟩
 .rcases e with e|e|e
  .exact x 1 j r (Ne.symm z) e
  .exact λh=>(m r e.2 e.1).1 j h.1
  .exact λh=>by have:=h.2;omega
 .rcases e with e|e|e
  .exact L 1 r e
  .exact λh=>by have:=(m r e.2 e.1).2;have:=q r h;omega
  .exact λh=>by have:=q r h;omega
 .unfold il at e;split at e
  .rcases e with e|e|e
   .exact f 1 r e.1
   .exact (m r e.2 e.1).2
   .omega
  .exact f j r e.1
 .rw[Y0 (Ne.symm z)]
theorem cg.Oq {a:Λ} (h:cg true A R w cs k sizes zero D G aX H E) (C:ag w gs a8 cs) (ad:cs[5]? =σ v) (f:∀j r,A j r->gs<r) (q:∀r,R r->r<gs) (U:cd w 1 y 1 xs) (P:bE B R w xs a) (m:∀r,r<w.heap.size->B r->(∀j,¬A j r)/\gs<r) (ai:aX.length<=1000)
  (Q:∀aS ca w',ah (λr=>gs<=r) w w'->ag w' gs a8 ca->cg true aS R w' ca k sizes zero D G (aX++[a]) H E->(∀j r,aS j r->gs<r)->(∀j,j≠5->ca[j]? =cs[j]?)->K w'):
  aD x7 (b9 #[dV,dV] O #[v,y]) w λF aa=>ac x7 (u5 a8 (Γ gs) 5) aa λS=>aD x7 (o6 dV S F) aa λ_ s=>K s:=by
 have I:=h.old;have V:=C.lt;obtain⟨szv,aj,ak,W,al,J,X,h1,am,an,Y,ap,aq,x⟩:=id I;obtain⟨x,L⟩:=x rfl;have J:v=W:=by rw[X] at ad;exact (b6 ad).symm
 subst J;have Z:bE (λr=>B r/\r<w.heap.size) R w xs a:=ao.mono P (λr e h=>⟨h,e⟩) λ_ _ h=>h;refine td (pl:=_) (l:=aX) a8.p rfl dV.u dV.i ax.i rfl C ad Y U Z (λr e M=>⟨λab=>(m r e ab.1).1 2 M.1,L 2 r M⟩) ⟨λh=>by have:=f 2 gs h.1;omega,λh=>by have:=(m gs V h.1).2;omega,λh=>by have:=q gs h;omega⟩ Ω Ω λF s N ae af=>?_;refine Q _ _ s (N.mono λr _ h=>h.elim (λh=>by have:=f 2 r h.1;omega) λh=>Ω) ae (I.kv N (λr e=>?_) af (λj r z e=>?_) λr e=>?_) (λj r e=>?_) λj z=>?_
 .rcases e with e|rfl
  .exact .inl e
  .exact .inr ⟨λj h=>by have:=f j r h.1;omega,λh=>by have:=q r h;omega⟩
 .rcases e with e|e|e
  .exact x 2 j r (Ne.symm z) e
  .exact λh=>(m r e.2 e.1).1 j h.1
  .exact λh=>by have:=h.2;omega
 .rcases e with e|e|e
  .exact L 2 r e
  .exact λh=>by have:=(m r e.2 e.1).2;have:=q r h;omega
  .exact λh=>by have:=q r h;omega
 .unfold il at e;split at e
  .rcases e with e|e|e
   .exact f 2 r e.1
   .exact (m r e.2 e.1).2
   .omega
  .exact f j r e.1
 .rw[Y0 (Ne.symm z)]
theorem cg.Ot {a:ij} (h:cg true A R w cs k sizes zero D G aX H E) (C:ag w gs a8 cs) (ad:cs[6]? =σ v) (f:∀j r,A j r->gs<r) (q:∀r,R r->r<gs) (U:cd w 4 y 1 xs) (P:bE B R w xs a) (m:∀r,r<w.heap.size->B r->(∀j,¬A j r)/\gs<r) (ai:H.length<=1000)
  (Q:∀aS ca w',ah (λr=>gs<=r) w w'->ag w' gs a8 ca->cg true aS R w' ca k sizes zero D G aX (H++[a]) E->(∀j r,aS j r->gs<r)->(∀j,j≠6->ca[j]? =cs[j]?)->K w'):
  aD x7 (b9 #[eN,eN] O #[v,y]) w λF aa=>ac x7 (u5 a8 (Γ gs) 6) aa λS=>aD x7 (o6 eN S F) aa λ_ s=>K s:=by
 have I:=h.old;have V:=C.lt;obtain⟨szv,aj,ak,al,W,J,X,h1,am,an,ap,Y,aq,x⟩:=id I;obtain⟨x,L⟩:=x rfl;have J:v=W:=by rw[X] at ad;exact (b6 ad).symm
 subst J;have Z:bE (λr=>B r/\r<w.heap.size) R w xs a:=ao.mono P (λr e h=>⟨h,e⟩) λ_ _ h=>h;refine td (pl:=_) (l:=H) a8.p rfl eN.u eN.i dm.i rfl C ad Y U Z (λr e M=>⟨λab=>(m r e ab.1).1 3 M.1,L 3 r M⟩) ⟨λh=>by have:=f 3 gs h.1;omega,λh=>by have:=(m gs V h.1).2;omega,λh=>by have:=q gs h;omega⟩ Ω Ω λF s N ae af=>?_;refine Q _ _ s (N.mono λr _ h=>h.elim (λh=>by have:=f 3 r h.1;omega) λh=>Ω) ae (I.kw N (λr e=>?_) af (λj r z e=>?_) λr e=>?_) (λj r e=>?_) λj z=>?_
 .rcases e with e|rfl
  .exact .inl e
  .exact .inr ⟨λj h=>by have:=f j r h.1;omega,λh=>by have:=q r h;omega⟩
 .rcases e with e|e|e
  .exact x 3 j r (Ne.symm z) e
  .exact λh=>(m r e.2 e.1).1 j h.1
  .exact λh=>by have:=h.2;omega
 .rcases e with e|e|e
  .exact L 3 r e
  .exact λh=>by have:=(m r e.2 e.1).2;have:=q r h;omega
  .exact λh=>by have:=q r h;omega
 .unfold il at e;split at e
  .rcases e with e|e|e
   .exact f 3 r e.1
   .exact (m r e.2 e.1).2
   .omega
  .exact f j r e.1
 .rw[Y0 (Ne.symm z)]
end
theorem Ou (u:Λ):aB (newVar u)=(X4 u.length).map λv:Nat=>(v:Int):=by
 unfold aB newVar dropped;rw[List.filter_eq_self.2];intro a _;simp
theorem mD {R:ak} {v:x1} {g:Nat} (h:au .i64 e w g v l):bE (λr=>leads v r) R w [v] l:=by
 have h1:=nn (R:=R) h;by_cases f:v= .slice ν 0 0
 .subst f;have:l=[]:=by
   obtain⟨j,⟨_,a⟩|⟨_,_,a,_⟩⟩:=h
   .exact j5 a
   .cases a
  subst this;exact gE
 .obtain⟨j,⟨a,_⟩|⟨cap,cs,a,_⟩⟩:=id h
  .exact absurd a f
  .refine ao.mono h1 (λr _ m=>?_) λ_ _ h=>h;rw[a];exact⟨_,_,_,rfl,m.symm⟩
theorem wE {R:ak} {v:x1} {g:Nat} (e:∀r c,B<=r->ag w r ai c->R r) (h:au .i64 ai w g v l) (ad:∀r,leads v r->B<=r):Seen R w [v] l:=pQ (mD (R:=λ_=>False) h) λr j a=>by
 rcases a with a|a
 .obtain⟨c,f⟩:=Og h r a;exact e r c (ad r a) f
 .exact a.elim
theorem Ov {R:ak} {zero:Int} (h:Seen R w [szv] sizes):cg true (λ_ _=>False) R w [Δ k,szv,Δ zero,.slice ν 0 0,.slice ν 0 0,.slice ν 0 0,.slice ν 0 0,.slice ν 0 0] k sizes zero [] [] [] [] []:=
 ⟨_,_,_,_,_,_,rfl,h,gE,gE,gE,gE,gE,λ_=>⟨λ_ _ _ _ h=>h.elim,λ_ _ h=>h.elim⟩⟩
theorem cg.at {m:Bool} {A:Nat->ak} {R:ak} {cs:List x1} {zero:Int} {D:List (Λ)} {G:List Bool} {aX:List (Λ)} {H:List ij} {E:List nS} (h:cg m A R w cs k sizes zero D G aX H E) (c:Nat) (a:c<8):∃v,cs[c]? =σ v:=⟨_,x6 (by rw[h.len.1];exact a)⟩
def Ow (R:ak) (w:x3) (e gt gs:Nat) (n:aR) (f:List x1) (i j:Nat) (a:x3):Prop:=Ext w a/\ag a e dA f/\ag a gt a8 z12/\ ∃A cs,ag a gs a8 cs/\(∀q r,A q r->gs<r)/\
 cg true A R a cs n.k n.sizes n.zero ((n.unary.take i).map λu=>aB (newVar u)) (r8 i false) (n.unary.take i) ((n.funs.take j).map λg=>hb (kp n.sizes g)) []
theorem DA {bC:x1} {n:aR} {R:ak} (aA:∀r,R r->r<w.heap.size) (a6:∀r c,B<=r->ag w r ai c->R r) (cB:wA w B bC n) (ac:jG n) (af:n.funs.length<=256):am x7 F4 [bC] w λv w'=>Ext w w'/\ ∃A cs,v= .agg cs.toArray/\ik true A R w' cs n.k n.sizes (cL n)/\ ∀q r,A q r->w.heap.size<=r:=by
 have ed:=ac.sizes.2.1;have cC:=ac.ko;refine az func30 ?_;refine be λg1 V ee a7 cD=>?_;obtain⟨szv,gz,cE,ef,bF,cF,eg,ba,aC,aD,cG,bG,bb,cH,bJ,cI,bK⟩:=Oh cB cD;refine bD a8.i λgt aa eh aE aF=>?_;have aF:ag aa gt a8 z12:=aF;have bd:=aC.ext aE;rw[aM dA.p 0 bd rfl,aM dA.p 1 bd rfl,aM dA.p 2 bd rfl,
  dn (cs:=#[Δ n.k,szv,Δ n.zero,.slice ν 0 0,.slice ν 0 0,.slice ν 0 0,.slice ν 0 0,.slice ν 0 0]) (by obtain⟨_,_,_,e⟩:=c4 aD.ls;rw[e];kernel_rfl)]
 refine bD a8.i λgs ei ej aI cJ=>?_;have cK:Seen R w [szv] n.sizes:=wE a6 aD cI;have ek:=a7.size;have em:=aE.size;have z3:=aI.size;have cM:=(a7.trans aE).trans aI;have bL:=Ov (k:=n.k) (zero:=n.zero) (bI cK cM);refine ch (vs:=[Δ n.k,szv,Δ n.zero,.slice ν 0 0,.slice ν 0 0,.slice ν 0 0,.slice ν 0 0,.slice ν 0 0]) a8.i rfl rfl bL.len.2 cJ λcN bf en cO=>?_;have eo:=aF.lt;have ep:=aC.lt;have cP:gt≠gs:=Ω
 have bg:Ext V cN:=(aE.trans aI).put bf Ω;have bM:=a7.trans bg;have cQ:=(aF.ext aI).ab bf λhe=>cP he;have er:w.heap.size<gs:=Ω
 rw[aM dA.p 1 (aC.ext bg) rfl,aW an.u (aD.ext bM).ls];have cR:=bL.ab bf λr f h he=>by
  have he:r=gs:=he;rcases h with⟨_,h⟩|h
  .exact h
  .have:=aA r h;omega
 refine cz.range n.sizes.length (λi O=>Ow R w g1 gt gs n [Δ n.k,szv,Δ n.zero,cE,cF] i 0 O) Ω ⟨bM,aC.ext bg,cQ,_,_,cO,(λ_ _ h=>h.elim),cR⟩ ?_ ?_
 .rintro i O cS hi ⟨P,bh,bi,A,cs,ad,bj,aJ⟩ cT;obtain⟨z,bk⟩:=aH (l:=n.sizes) hi;obtain⟨u,hu⟩:=aH (l:=n.unary) (i:=i) Ω;have es:=ac.sizes.2.2 z (x5 bk);obtain⟨et,_⟩:=ac.unary i z u bk hu;refine bH Ω ?_;rw[bc an.u ai.i Ψ (aD.ext P).ls bk];obtain⟨bN,rfl⟩:∃m:Nat,z=m:=⟨z.toNat,Ω⟩;refine bZ.range bN (λj ae aK=>Ext O aK/\ ∃g,au .i64 ai aK g ae ((X4 j).map λv:Nat=>(v:Int))/\ ∀r,leads ae r->O.heap.size<=r) Ω
   ⟨Ext.refl _,0,au.nil _ _ _ _,λr f=>by obtain⟨a,n,c,I,Q⟩:=f;cases I⟩ ?_ ?_
  .rintro j ae aK bl bm ⟨K,cV,S,aL⟩ bn;refine bH Ω ?_;refine ew (k:=.i64) an.u ai.i rfl λeu ev cW ey H cX=>?_;refine hx an.u ai.i rfl (S.ext H) cX.ls Θ Θ λez cY cZ c0 c1 U=>?_;rw[aP];have c2:=K.size;have c3:=H.size;refine bn _ _ ⟨(K.trans H).then U λr f he=>by have:=aL r he;omega,cY,?_,λr f=>(c1 r f).elim (aL r) λh=>Ω⟩;rw[List.range_succ,Z0];exact c0
  rintro ae aK bl ⟨K,cV,S,aL⟩;refine cp Ω ?_;have c6:(X4 bN).map (λv:Nat=>(v:Int))=aB (newVar u):=by rw[Ou];congr 2;omega
  rw[c6] at S;have c2:=K.size;have eA:=P.size;have eB:=ad.lt;have aj:∀r,R r->r<gs:=λr f=>by have:=aA r f;omega
  have low:∀ {s C:x3} {b:Nat} {e:r9} {c:List x1},ah (λr=>gs<=r) s C->b<gs->ag s b e c->ag C b e c:=λL c7 h=>h.ab L λW=>by have W:gs<=_:=W;omega
  have al:∀ {s C:x3},Ext w s->ah (λr=>gs<=r) s C->Ext w C:=λJ L=>J.then L λr f h=>by have h:gs<=r:=h;omega
  have bP:=aJ.old.ext K;have c8:∀q r,(A q r/\r<O.heap.size)->gs<r:=λq r h=>bj q r h.1;obtain⟨eC,bQ⟩:=bP.at 3 Ω;rw[aM a8.p 3 (ad.ext K) bQ];refine kc c5.u an.i Φ (a:=aB (newVar u)) (cs:=[ae]) S.ls.cells.1 (mD (R:=R) S) λeD cW H _ c9=>?_;have c3:=H.size;have aN:=K.trans H;refine cg.On (bP.ext H) (ad.ext aN) bQ c8 aj c9 (bI (mD (R:=R) S) H) (λr f h=>?_) Θ λeE eF cZ U bS bT da _=>?_
  .have:=aL r h;exact⟨λj h=>Ω,Ω⟩
  have eH:=U.size;obtain⟨eI,bU⟩:=bT.at 4 Ω;rw[aM a8.p 4 bS bU];refine kc (a:=false) (cs:=[.bool false]) (A:=λ_=>False) (R:=R) j3.u fa.i Φ rfl rfl λeJ eK X _ db=>?_;refine cg.Oo (a:=false) (xs:=[.bool false]) (B:=λ_=>False) (bT.ext X) (bS.ext X) bU da aj db rfl (λr f h=>h.elim) Θ λdc eL bV aO bW dd de _=>?_;have z9:=X.size;have eM:=aO.size;have df:Ext w bV:=al ((al (P.trans aN) U).trans X) aO;have dg:=low aO Ω ((low U Ω (bh.ext aN)).ext X);have dh:=low aO Ω ((low U Ω (bi.ext aN)).ext X);intro bo Y _ _;have bX:=bW.ext Y;have bY:=dg.ext Y;have b0:=df.trans Y;obtain⟨nT,aQ⟩:∃nT,bF[i]? =σ nT:=⟨_,x6 (by have:=congrArg S6 bG;rw[u7] at this;omega)⟩;have di:nT.l=u:=by
   have b1:(bF.map (·.l))[i]? =σ nT.l:=by rw[x8,aQ];rfl
   rw[bG,hu] at b1;exact (b6 b1).symm
  have bp:=cG.ext b0;obtain⟨eO,b2⟩:=bp.2 nT (x5 aQ);rw[di] at b2;have b3:=dd.old.ext Y;have dk:∀q r,(dc q r/\r<bV.heap.size)->gs<r:=λq r h=>de q r h.1;obtain⟨eP,b4⟩:=b3.at 5 Ω;rw[aM a8.p 5 bX b4,aM dA.p 3 bY rfl,dx rfl dV.u ax.i bp.1 (x4.1 aQ).1,ay (v:=nT.v) (o:=i*1) Ψ (bp.1.range aQ 0 _ rfl)];refine wD (k:=.i64) ax.u ap.i λdl eQ eR eS aS b5=>?_;refine⟨.inl aS,?_⟩;refine hx ax.u ap.i rfl b5 (b2.ext aS).ls Θ Θ λb7 eU dp aT dq dr=>?_;rw[List.nil_append] at aT;have eV:=Y.size;have eW:=aS.size;have b9:∀r,leads dl r->bo.heap.size<=r:=λr f=>by have:=(bO b5 f).1;omega
  have ds:∀r,leads b7 r->bo.heap.size<=r:=λr f=>(dq r f).elim (b9 r) λh=>Ω
  have bq:Ext bo dp:=aS.then dr λr f he=>by have:=b9 r he;omega
  refine⟨.inl bq,?_⟩;have eX:=bq.size;refine kc dV.u ax.i Φ (a:=u) (cs:=[b7]) aT.ls.cells.1 (mD (R:=R) aT) λeY eZ br _ du=>?_;have e0:=br.size;have Z:=bq.trans br;refine⟨.inl Z,?_⟩;refine cg.Oq (b3.ext Z) (bX.ext Z) b4 dk aj du (bI (mD (R:=R) aT) br) (λr f h=>?_) Θ λdv dw e1 bt dy dz dC _=>?_
  .have:=ds r h;have:=bW.lt;exact⟨λj h=>Ω,Ω⟩
  rw[aP];refine cT _ ⟨al (b0.trans Z) bt,low bt Ω (bY.ext Z),low bt Ω ((dh.ext Y).ext Z),dv,dw,dy,dC,?_⟩;rw[u9,hu,o9,Z0,U7,List.map_nil,List.replicate_succ'];exact dz
 rintro O cS ⟨P,bh,bi,A,cs,ad,bj,aJ⟩;refine cp Ω ?_;rw[b8 Ω] at aJ;have e2:ba.length=n.funs.length:=by rw[<-bJ,u7]
 have dD:=bb.ext P;rw[aM dA.p 4 bh rfl,fh cU.u dD];have aj:∀r,R r->r<gs:=λr f=>by have:=aA r f;omega
 have low:∀ {s C:x3} {b:Nat} {e:r9} {c:List x1},ah (λr=>gs<=r) s C->b<gs->ag s b e c->ag C b e c:=λL c7 h=>h.ab L λW=>by have W:gs<=_:=W;omega
 have al:∀ {s C:x3},Ext w s->ah (λr=>gs<=r) s C->Ext w C:=λJ L=>J.then L λr f h=>by have h:gs<=r:=h;omega
 refine cz.range ba.length (λj G=>Ext w G/\ag G gt a8 z12/\ ∃A cs,ag G gs a8 cs/\(∀q r,A q r->gs<r)/\
  cg true A R G cs n.k n.sizes n.zero (n.unary.map λu=>aB (newVar u)) (r8 n.sizes.length false) n.unary ((n.funs.take j).map λg=>hb (kp n.sizes g)) []) bb.le ⟨P,bi,A,cs,ad,bj,aJ⟩ ?_ ?_
 .rintro j G bl bm ⟨M,bu,bw,aU,aV,aX,ao⟩ bn;obtain⟨y,aq⟩:=aH (l:=ba) bm;have ca:n.funs[j]? =σ (dt y):=by rw[<-bJ,x8,aq];rfl
  have cb:=(ac.funs (dt y) (x5 ca)).1;have e3:y.cs.length<=4096:=by
   have h1:y.cs.length=_:=cb.len;have W:=cb.small;omega
  have cc:=cH y (x5 aq);have cd:=cc.ext M;have ce:=bb.ext M;refine bH Ω ?_;rw[dx rfl cU.u aY.i ce bm,bR aY.p aY.i rfl (ce.range aq)];refine bD aY.i λe4 e5 e6 dE dF=>?_;refine ch (vs:=dj y) aY.i rfl rfl cd.one dF λdG dH e7 dI=>?_;have dJ:Ext G dG:=dE.put dH Ω;intro bx ci _ _;have N:=dJ.trans ci;have cj:=aV.ext N;have bz:=dI.ext ci;have dK:=cd.ext N;obtain⟨⟨e8,ck⟩,⟨e9,cl⟩,fb,dL⟩:=id dK;have cm:=ao.old.ext N;have dM:∀q r,(bw q r/\r<G.heap.size)->gs<r:=λq r h=>aX q r h.1;obtain⟨fc,cn⟩:=cm.at 6 Ω;rw[aM a8.p 6 cj cn,aM aY.p 0 bz rfl,aM aY.p 1 bz rfl,aM aY.p 2 bz rfl];refine wD (k:=.i64) ax.u ap.i λv25 fd fe ff aZ cq=>?_;refine⟨.inl aZ,?_⟩;refine hx ax.u ap.i rfl cq (dL.ext aZ).ls Θ Θ λE fg cr a1 dN dO=>?_;rw[List.nil_append] at a1;have fi:=N.size;have z25:=aZ.size;have ct:∀r,leads v25 r->bx.heap.size<=r:=λr f=>by have:=(bO cq f).1;omega
  have dP:∀r,leads E r->bx.heap.size<=r:=λr f=>(dN r f).elim (ct r) λh=>Ω
  have a2:Ext bx cr:=aZ.then dO λr f he=>by have:=ct r he;omega
  refine⟨.inl a2,?_⟩;rw[dn (cs:=#[y.aG,y.szv,E]) (by obtain⟨_,_,_,I⟩:=c4 ck.ls;obtain⟨_,_,_,Q⟩:=c4 cl.ls;obtain⟨_,_,_,av⟩:=c4 a1.ls;rw[I,Q,av];kernel_rfl),
   dn (cs:=#[y.aG,y.szv,E,.bool true]) (by obtain⟨_,_,_,I⟩:=c4 ck.ls;obtain⟨_,_,_,Q⟩:=c4 cl.ls;obtain⟨_,_,_,av⟩:=c4 a1.ls;rw[I,Q,av];kernel_rfl)]
  have fj:=a2.size;have cu:=(M.trans N).trans a2;obtain⟨⟨ga,dQ⟩,⟨fk,dR⟩,_⟩:=id cc;have own:bE (α:=ij) (λr=>leads E r) R cr [y.aG,y.szv,E,.bool true] (hb (kp n.sizes (dt y))):=by
   refine⟨[y.aG,y.szv,E],[.bool true],λr=>leads E r,λ_=>False,rfl,λ_ h=>h,λ_ h=>h.elim,λ_ _ _ h=>h,⟨[y.aG],[y.szv,E],λ_=>False,λr=>leads E r,rfl,λ_ h=>h.elim,λ_ h=>h,λ_ _ h=>h.elim,?_,[y.szv],[E],λ_=>False,λr=>leads E r,rfl,λ_ h=>h.elim,λ_ h=>h,λ_ _ h=>h.elim,?_,?_⟩,rfl⟩
   .exact bI (wE a6 dQ λr f=>bK y (x5 aq) r (.inr (.inl f))) cu
   .exact bI (wE a6 dR λr f=>bK y (x5 aq) r (.inr (.inr f))) cu
   .exact mD a1
  refine kc eN.u dm.i Φ rfl own λfm fo bA _ dS=>?_;have fp:=bA.size;have aw:=a2.trans bA;refine⟨.inl aw,?_⟩;refine cg.Ot (cm.ext aw) (cj.ext aw) cn dM aj dS (bI own bA) (λr f h=>?_) Θ λdT dU fq cw dW dX dY _=>?_
  .have:=dP r h;have:=aV.lt;exact⟨λj h=>Ω,Ω⟩
  rw[aP];refine bn _ ⟨al (M.trans (N.trans aw)) cw,low cw Ω (bu.ext (N.trans aw)),dT,dU,dW,dY,?_⟩;rw[u9,ca,o9,Z0,U7,List.map_nil];exact dX
 rintro G bl ⟨M,bu,bw,aU,aV,aX,ao⟩;rw[b8 Ω] at ao;refine cp Ω ?_;obtain⟨bB,dZ⟩:=ao.len;rw[bR a8.p a8.i bB (show G.rangeAt gs 0 aU from aV.range)];refine ch (vs:=aU) a8.i bB rfl dZ bu λfs cA ft ea=>?_;rw[fN a8.p a8.i bB ea.range];have eb:=ao.ab cA λr f h he=>by
  have he:r=gt:=he;rcases h with⟨q,h⟩|h
  .have:=aX q r h;omega
  .have:=aA r h;omega
 have fu:=M.size;refine⟨M.then cA λr f he=>by have he:r=gt:=he;omega,bw,aU,rfl,?_,λq r h=>by have:=aX q r h;omega⟩;have I:(cL n).vars.map aB=n.unary.map λu=>aB (newVar u):=by show (n.unary.map newVar).map aB=_;rw[T7];rfl
 have Q:(cL n).vars.map (λx=>decide (x.gone≠0))=r8 n.sizes.length false:=by
  show (n.unary.map newVar).map _=_;rw[T7,<-cC];exact List.map_const' ..
 have av:(cL n).vars.map (·.un)=n.unary:=by show (n.unary.map newVar).map _=_;rw[T7];exact List.map_id _
 have ec:(cL n).funs.map hb=n.funs.map λg=>hb (kp n.sizes g):=by show (n.funs.map (kp n.sizes)).map hb=_;rw[T7];rfl
 unfold ik;rw[I,Q,av,ec];exact eb
section
variable {P:W5} {w:x3} {t:r9} {cx cy:Bool} {a b:Nat} {K:x1->Prop}
theorem Ox (f:a<2 ^ 62) (h:b<2 ^ 62):ac P (aL .or t cx cy (Δ a) (Δ b)) w K=K (Δ ((a ||| b:Nat):Int)):=ac.of λw' _=>by
 have e:(U5 64 (a:Int) ||| U5 64 (b:Int)).toNat=a ||| b:=by
  rw[mn,mn,BitVec.toNat_or,BitVec.toNat_ofNat,BitVec.toNat_ofNat,Nat.mod_eq_of_lt Ω,Nat.mod_eq_of_lt Ω]
 have m:a ||| b<2 ^ 62:=Nat.or_lt_two_pow f h;have hw:X2.wrap ((a ||| b:Nat):Int)=((a ||| b:Nat):Int):=wrap_i64 Ω Ω;have j:(U5 X2.bits (a:Int) ||| U5 X2.bits (b:Int)).toNat=a ||| b:=e;simp only[aL,eqGuard,binOp,Op.intBits,j,hw];rfl
theorem DB (j:a<2 ^ 62) (f:b<2 ^ 62):ac P (aL .and t cx cy (Δ a) (Δ b)) w K=K (Δ ((a &&& b:Nat):Int)):=ac.of λw' _=>by
 have e:(U5 64 (a:Int) &&& U5 64 (b:Int)).toNat=a &&& b:=by
  rw[mn,mn,BitVec.toNat_and,BitVec.toNat_ofNat,BitVec.toNat_ofNat,Nat.mod_eq_of_lt Ω,Nat.mod_eq_of_lt Ω]
 have m:a &&& b<2 ^ 62:=Nat.and_lt_two_pow _ f;have hw:X2.wrap ((a &&& b:Nat):Int)=((a &&& b:Nat):Int):=wrap_i64 Ω Ω;have h:(U5 X2.bits (a:Int) &&& U5 X2.bits (b:Int)).toNat=a &&& b:=e;simp only[aL,eqGuard,binOp,Op.intBits,h,hw];rfl
theorem Oy {k:o5} {n:Nat} (a:n<62):ac P (aL .shl t cx cy (Δ 1) (.int k (n:Int))) w K=K (Δ ((2 ^ n:Nat):Int)):=by
 rw[zt Ω];have e:min ((n:Int).toNat) X2.bits=n:=Nat.min_eq_left (by show n<=64;omega);have f:2 ^ n<2 ^ 62:=Nat.pow_lt_pow_right Ω a;rw[e,Int.one_mul,show ((2:Int) ^ n)=((2 ^ n:Nat):Int) by simp];generalize 2 ^ n=q at f ⊢;rw[wrap_i64 Ω Ω]
end
theorem DC (a n:Nat):(a / 2 ^ n &&& 1=1)↔a.testBit n=true:=by
 rw[Nat.and_one_is_mod,Nat.testBit_eq_decide_div_mod_eq,decide_eq_true_eq]
theorem DD {b n:Nat} (m:lL b n):am x7 Gw [jd b n,Δ v] w λr w'=>r= .bool (decide (0<=v/\v<n)&&b.testBit v.toNat)/\Ext w w':=by
 refine az func70 ?_;refine be λg V z e f=>?_;refine aV (λr aa=>r= .bool (decide (0<=v/\v<n)&&b.testBit v.toNat)/\Ext w aa) (λ_ _ h=>h) λaA j=>?_;rw[bR b4.p b4.i rfl f.range];refine AI.mono ?_;rintro _ A _ ⟨rfl,a⟩;rw[al];refine⟨λh=>?_,λh=>j _ _ ⟨by rw[decide_eq_false h];rfl,e.trans a⟩⟩;obtain⟨q,B⟩:=m;obtain⟨s,rfl⟩:∃s:Nat,v=s:=⟨v.toNat,Ω⟩;have x:=f.ext a;have C:(2:Nat) ^ n<=2 ^ 32:=T8 Ω q;have y:b / 2 ^ s<2 ^ 64:=Nat.lt_of_le_of_lt (Nat.div_le_self _ _) Ω;rw[aM b4.p 0 x rfl,kR Ω,show (1:Int)=((1:Nat):Int) from rfl,u64_and y Ω,bg];refine j _ _ ⟨?_,e.trans a⟩;congr 1;rw[decide_eq_true h,T3,V6,decide_eq_true_eq,u6,<-DC];omega
theorem Oz (m v:Nat):dropped (m:Int) (v:Int)=m.testBit v:=by unfold dropped;rw[u6,u6]
def bw (w:x3) (ae gT:Nat) (A R:ak) (n:aR) (s:av) (t:aC):Prop:=StateM w ae gT A R n s t/\t.bT=s.cells/\my t/\bt n.k n.sizes s/\jG n
theorem bw.ext {A R:ak} {n:aR} {s:av} {t:aC} (h:bw w ae gT A R n s t) (J:Ext w w'):bw w' ae gT A R n s t:=⟨h.1.ext J,h.2⟩
theorem StateM.parts {A R:ak} {n:aR} {s:av} {t:aC} (h:StateM w ae gT A R n s t):∃a e f j a7 m L p,ag w ae cI [Γ a,Γ gT,e,f,j]/\fW w a n/\ds w gT p t/\au .i64 ai w a7 e (ih s)/\bk nL 3 fb w m f L/\k4 R w L s:=by
 obtain⟨a,e,f,j,_,a7,m,ge,L,E,p,w0,q,⟨r,x,F⟩,⟨y,G,H,I⟩,z,⟨B,C⟩,J,K⟩:=h;exact⟨a,e,f,j,a7,m,L,p,q,r.ext x,y,z,B,C⟩
theorem te {s:av} {i:Nat} (h:i<s.vars.length):(ih s)[i]? =σ (fF s i:Int):=by
 unfold ih;rw[x8,List.getElem?_range h];rfl
theorem pg {s:av} {t:aC} (ad:t.bT=s.cells) (U:my t):s.cells.length<=100000000:=by
 rw[<-ad];unfold aC.bT;rw[u7];exact U.1
theorem tf {s:av} {i:Nat} {x:bB} (h:s.vars[i]? =σ x):fF s i+x.un.length+2<=s.cells.length:=by
 have h1:=qG h (j:=x.un.length+1) Ω;have a:(ht x)[x.un.length+1]? ≠ν:=by
  rw[Ne,List.getElem?_eq_none_iff];show ¬(x.un.length+1+1<=x.un.length+1);omega
 rw[<-h1] at a;have:=(x4.1 (Option.ne_none_iff_exists'.1 a).choose_spec).1;omega
theorem wF {s:av} {f:cb} (h:s.funs[j]? =σ f):eS s j+f.cs.length+1<=s.cells.length:=by
 have h1:=wc h (j:=f.cs.length) Ω;have a:(fk f)[f.cs.length]? ≠ν:=by
  rw[Ne,List.getElem?_eq_none_iff];show ¬(f.cs.length+1<=f.cs.length);omega
 rw[<-h1] at a;have:=(x4.1 (Option.ne_none_iff_exists'.1 a).choose_spec).1;omega
section
variable {w:x3} {ae gT:Nat} {A R:ak} {n:aR} {s:av} {t:aC}
theorem DE (h:bw w ae gT A R n s t):am x7 G2 [Γ ae] w λv w'=>(∃a,v=Γ a/\fW w' a n)/\Ext w w':=by
 obtain⟨a,j,m,q,a7,r,L,x,e,f,y,z,B,C⟩:=h.1.parts;refine az func120 ?_;rw[db dz.u];simp only[Z4,a1];rw[aQ cI.p 0 e rfl];exact⟨⟨a,rfl,f⟩,Ext.refl _⟩
theorem DF (h:bw w ae gT A R n s t):am x7 Gq [Γ ae] w λv w'=>v=Δ (n.sizes.length:Int)/\Ext w w':=by
 refine az func60 ?_;refine (DE h).mono ?_;rintro _ V _ ⟨⟨j,rfl,a⟩,e⟩;refine (we a).mono ?_;rintro _ aa _ ⟨rfl,f⟩;exact⟨rfl,e.trans f⟩
theorem k9 (h:bw w ae gT A R n s t):am x7 Ge [Γ ae] w λv w'=>v=Δ n.k/\Ext w w':=by
 refine az func43 ?_;refine (DE h).mono ?_;rintro _ V _ ⟨⟨j,rfl,a⟩,e⟩;refine (Nt a).mono ?_;rintro _ aa _ ⟨rfl,f⟩;exact⟨rfl,e.trans f⟩
theorem wG {i:Int} (h:bw w ae gT A R n s t):am x7 G9 [Γ ae,Δ i] w λv w'=>v= .bool (decide (0<=i/\i<n.sizes.length))/\Ext w w':=by
 refine az func128 ?_;refine aV (λv V=>v= .bool (decide (0<=i/\i<n.sizes.length))/\Ext w V) (λ_ _ h=>h) λaA a=>?_;rw[cP,al];refine⟨λe=>?_,λe=>a _ _ ⟨by rw[decide_eq_false Ω],Ext.refl _⟩⟩;refine (DF h).mono ?_;rintro _ V _ ⟨rfl,f⟩;rw[aO];refine a _ _ ⟨?_,f⟩;congr 1;exact decide_eq_decide.2 ⟨λh=>⟨e,h⟩,λh=>h.2⟩
theorem wH (h:bw w ae gT A R n s t):am x7 Gu [Γ ae] w λv w'=>v=Δ s.zero/\Ext w w':=by
 obtain⟨j,m,q,r,a7,x,L,y,a,z,e,B,C,E⟩:=h.1.parts;refine az func64 ?_;rw[db dz.u];simp only[Z4,a1];rw[aQ cI.p 1 a rfl];refine (nK (i:=0) e rfl (show t.bT[0]? =σ s.zero by rw[h.2.1];exact No s)).mono ?_;rintro _ V _ ⟨rfl,f⟩;exact⟨rfl,f⟩
theorem tg (h:bw w ae gT A R n s t):am x7 G1 [Γ ae] w λv w'=>v=Δ (s.funs.length:Int)/\Ext w w':=by
 obtain⟨j,m,q,r,a7,x,L,y,a,z,B,C,e,f⟩:=h.1.parts;refine az func119 ?_;rw[db dz.u];simp only[Z4,a1];rw[aQ cI.p 3 a rfl,fh fv.u e];exact⟨by rw[f.1],Ext.refl _⟩
def ji (s:av) (i:Nat):Bool:=match s.vars[i]? with
 |some x=>decide (x.gone≠0)
 |none=>false
theorem th {i:Int} (h:bw w ae gT A R n s t):am x7 Gr [Γ ae,Δ i] w λv w'=>v= .bool (decide (0<=i)&&ji s i.toNat)/\Ext w w':=by
 refine az func61 ?_;refine aV (λv V=>v= .bool (decide (0<=i)&&ji s i.toNat)/\Ext w V) (λ_ _ h=>h) λaA a=>?_;intro aa e _ _;refine (wG (h.ext e)).mono ?_;rintro _ G _ ⟨rfl,m⟩;have J:=e.trans m;have H:=h.2.2.2.1.vars;rw[al];refine⟨λq=>?_,λI=>a _ _ ⟨?_,J⟩⟩
 .obtain⟨K,M,N,O,a7,P,L,Q,f,S,r,z,U,W⟩:=(h.ext J).1.parts;obtain⟨x,j⟩:=aH (l:=s.vars) (i:=i.toNat) Ω;rw[aQ cI.p 1 f rfl,aQ cI.p 2 f rfl,fM (y:=i) (i:=i.toNat) Ω an.u ai.i Ψ z.ls (te Ω)];have B:t.bT[fF s i.toNat+0]? =σ x.gone:=by rw[h.2.1,qG j Ω];rfl
  refine (nK (i:=fF s i.toNat) r rfl B).mono ?_;rintro _ X _ ⟨rfl,C⟩;rw[bm];refine a _ _ ⟨?_,J.trans C⟩;rw[decide_eq_true q.1,T3];unfold ji;rw[j]
 .by_cases E:0<=i
  .unfold ji;rw[Z6 Ω,Bool.and_false]
  .rw[decide_eq_false E];rfl
def fm (n:aR) (i v:Int):Prop:=0<=i/\i<n.sizes.length/\0<=v/\v<n.sizes.getD i.toNat 0
instance (n:aR) (i v:Int):Decidable (fm n i v):=inferInstanceAs (Decidable (_/\_))
theorem fm.var {i:Int} (ad:fm n i v) (a:bt n.k n.sizes s):∃x,s.vars[i.toNat]? =σ x/\v.toNat<x.un.length/\x.un.length<=32/\n.sizes.getD i.toNat 0=x.un.length:=by
 obtain⟨h1,h,j,f⟩:=ad;have m:=a.vars;obtain⟨x,J⟩:=aH (l:=s.vars) (i:=i.toNat) Ω;obtain⟨z,e⟩:=aH (l:=n.sizes) (i:=i.toNat) Ω;have p:=a.hv.2.2 z (x5 e);have q:=(a.var i.toNat x z J e).1;rw[v8,e,V9] at f ⊢;exact⟨x,J,Ω,Ω,Ω⟩
theorem wI {i:Int} (h:bw w ae gT A R n s t):am x7 Gv [Γ ae,Δ i,Δ v] w λr w'=>r=Δ (if fm n i v then ((fF s i.toNat+2+v.toNat:Nat):Int) else-1)/\Ext w w':=by
 have X:=h.2.2.2.1.vars;refine az func65 ?_;refine aV (λr V=>r= .bool (decide (¬fm n i v))/\Ext w V) ?_ ?_
 .rintro _ V ⟨rfl,m⟩;rw[al];refine⟨λE=>⟨by rw[if_neg E],m⟩,λf=>?_⟩;have f:=Z9.1 f;obtain⟨x,G,Y,Z,_⟩:=f.var h.2.2.2.1;obtain⟨H,I,J,K,a7,M,L,N,a,z,O,B,P,Q⟩:=(h.ext m).1.parts;have C:=tf G;have ab:=pg h.2.1 h.2.2.1;obtain⟨h1,ac,af,ag⟩:=id f;rw[aQ cI.p 2 a rfl,fM (y:=i) (i:=i.toNat) Ω an.u ai.i Ψ B.ls (te Ω),aP,wrap_i64 Ω Ω,aP,wrap_i64 Ω Ω,if_pos f];refine⟨?_,m⟩;congr 1;omega
 .intro aA q;refine (wG h).mono ?_;rintro _ aa _ ⟨rfl,j⟩;rw[bG,ce];refine⟨λa=>?_,λa=>?_⟩
  .have a:¬(0<=i/\i<n.sizes.length):=λS=>by rw[decide_eq_true S] at a;cases a
   exact q _ _ ⟨by rw[decide_eq_true];exact λe=>a ⟨e.1,e.2.1⟩,j⟩
  have a:0<=i/\i<n.sizes.length:=by simpa using a
  rw[aO,al];refine⟨λad=>q _ _ ⟨by rw[decide_eq_true];exact λe=>by have:=e.2.2.1;omega,j⟩,λad=>?_⟩;obtain⟨H,I,J,K,a7,M,L,N,U,z,O,B,P,Q⟩:=(h.ext j).1.parts;rw[aQ cI.p 0 U rfl];refine (CU z h.2.2.2.2).mono ?_;rintro _ ah _ ⟨W,rfl⟩;rw[if_pos a.1,cP];refine q _ _ ⟨?_,j.trans W⟩;congr 1;refine decide_eq_decide.2 ⟨λh e=>?_,λh=>?_⟩
  .have:=e.2.2.2;omega
  .refine Int.not_lt.1 λC=>h ⟨a.1,a.2,Ω,C⟩
def im (s:av) (i v:Nat):Int:=match s.vars[i]? with
 |some x=>x.un.getD v 0
 |none=>0
theorem ph {i:Int} (h:bw w ae gT A R n s t):am x7 y3 [Γ ae,Δ i,Δ v] w λr w'=>r=(if fm n i v then .tuple #[Δ (im s i.toNat v.toNat),Δ 0] else .tuple #[Δ 0,Δ 1])/\Ext w w':=by
 refine az func69 ?_;rw[db dz.u];simp only[Z4,a1];refine (wI h).mono ?_;rintro _ V _ ⟨rfl,e⟩;by_cases a:fm n i v
 .rw[if_pos a,if_pos a];refine cp Ω ?_;obtain⟨x,f,j,B,_⟩:=a.var h.2.2.2.1;obtain⟨C,E,G,H,a7,I,L,J,m,K,q,M,N,O⟩:=(h.ext e).1.parts;rw[aQ cI.p 1 m rfl];have y:t.bT[fF s i.toNat+2+v.toNat]? =σ (x.un.getD v.toNat 0):=by
   rw[h.2.1,S8,qG f Ω,show 2+v.toNat=v.toNat+1+1 by omega];show x.un[v.toNat]? =_;rw[v8,x6 j];rfl
  refine (nK (i:=fF s i.toNat+2+v.toNat) q rfl y).mono ?_;rintro _ aa _ ⟨rfl,z⟩;refine⟨?_,e.trans z⟩;unfold im;rw[f]
 .rw[if_neg a,if_neg a,aO,al];exact⟨λ_=>⟨rfl,e⟩,λh=>Ω⟩
def fo (s:av) (j:Nat):Bool:=match s.funs[j]? with
 |some f=>decide (f.live≠0)
 |none=>false
theorem ti {j:Int} (h:bw w ae gT A R n s t):am x7 Gx [Γ ae,Δ j] w λv w'=>v= .bool (decide (0<=j)&&fo s j.toNat)/\Ext w w':=by
 refine az func72 ?_;refine aV (λv V=>v= .bool (decide (0<=j)&&fo s j.toNat)/\Ext w V) (λ_ _ h=>h) λaA a=>?_;intro aa e _ _;rw[cP,al];refine⟨λm=>?_,λm=>a _ _ ⟨by rw[decide_eq_false m];rfl,e⟩⟩;refine (tg (h.ext e)).mono ?_;rintro _ I _ ⟨rfl,B⟩;have J:=e.trans B;rw[aO,al];refine⟨λK=>?_,λM=>a _ _ ⟨?_,J⟩⟩
 .obtain⟨N,O,P,Q,a7,S,L,U,r,W,C,X,x,q⟩:=(h.ext J).1.parts;obtain⟨f,af⟩:=aH (l:=s.funs) (i:=j.toNat) Ω;obtain⟨y,z⟩:∃y,L[j.toNat]? =σ y:=⟨_,x6 (by rw[q.1];omega)⟩;obtain⟨_,_,E⟩:=q.2 j.toNat y f z af;rw[aQ cI.p 1 r rfl,aQ cI.p 3 r rfl,dx (i:=j.toNat) Ω fv.u fb.i x (by rw[q.1];omega),aU fb.p rfl,ay (v:=Δ (y.at_:Int)) Ψ (x.range z 2 _ rfl)];have G:t.bT[eS s j.toNat+0]? =σ f.live:=by rw[h.2.1,wc af Ω];rfl
  refine (nK (i:=eS s j.toNat) C (by rw[E]) G).mono ?_;rintro _ Y _ ⟨rfl,H⟩;rw[bm];refine a _ _ ⟨?_,J.trans H⟩;rw[decide_eq_true m,T3];unfold fo;rw[af]
 .unfold fo;rw[Z6 Ω,Bool.and_false]
end
def tj (s:av) (n:aR) (i:Int) (b m:Nat):Prop:=lL b m/\(¬(0<=i/\i<n.sizes.length)->b=0/\m=0)/\ ∀x,0<=i->s.vars[i.toNat]? =σ x->m=x.un.length/\ ∀j:Nat,b.testBit j=(decide (j<x.un.length)&& !dropped x.mask (j:Int))
section
variable {w:x3} {ae gT:Nat} {A R:ak} {n:aR} {s:av} {t:aC}
theorem jL {i:Int} (h:bw w ae gT A R n s t):am x7 Gs [Γ ae,Δ i] w λv w'=>(∃b m,v=jd b m/\tj s n i b m)/\Ext w w':=by
 have bm:=h.2.2.2.1.vars;refine az func62 ?_;refine bD b4.i λf V bn ak P=>?_;have P:ag V f b4 [.int .u64 0,Δ 0]:=P;refine (wG (h.ext ak)).mono ?_;rintro _ aa _ ⟨rfl,ao⟩;have Q:=P.ext ao;have S:=ak.trans ao;rw[bG,ce];refine⟨λa=>?_,λa=>?_⟩
 .have a:¬(0<=i/\i<n.sizes.length):=λaM=>by rw[decide_eq_true aM] at a;cases a
  rw[dn (cs:=#[.int .u64 0,Δ 0]) Ψ];refine ch (vs:=[.int .u64 0,Δ 0]) b4.i rfl rfl (by intro u hu;simp at hu;rcases hu with rfl|rfl<;>rfl) Q λbq aN br aO=>?_;rw[fN b4.p b4.i rfl aO.range];refine⟨⟨0,0,rfl,⟨Ω,Ξ⟩,λ_=>⟨rfl,rfl⟩,λx ap J=>?_⟩,S.put aN Ω⟩;have:=(x4.1 J).1;exact absurd ⟨ap,Ω⟩ a
 have a:0<=i/\i<n.sizes.length:=by simpa using a
 obtain⟨x,E⟩:=aH (l:=s.vars) (i:=i.toNat) Ω;obtain⟨z,U⟩:=aH (l:=n.sizes) (i:=i.toNat) Ω;have aR:=h.2.2.2.1.hv.2.2 z (x5 U);obtain⟨bt,_,bu,bx⟩:=h.2.2.2.1.var i.toNat x z E U;obtain⟨aS,aT,aU,aV,a7,aW,L,aX,G,aq,_⟩:=(h.ext S).1.parts;rw[aQ cI.p 0 G rfl];refine (CU aq h.2.2.2.2).mono ?_;rintro _ bz _ ⟨W,rfl⟩;rw[if_pos a.1,v8,U,V9];refine JR.mono ?_;rintro _ bA _ ⟨X,rfl⟩;rw[if_pos aR];obtain⟨m,rfl⟩:∃m:Nat,z=m:=⟨z.toNat,Ω⟩;rw[bo,bp,u6];have au:=(S.trans W).trans X;refine bD b4.i λe bB bC av aY=>?_;refine ch (vs:=[.int .u64 ((2 ^ m-1:Nat):Int),Δ (m:Int)]) b4.i rfl rfl (by intro u hu;simp at hu;rcases hu with rfl|rfl<;>rfl) aY λaw ax bE aZ=>?_;have z5:=au.size;have ay:Ext w aw:=(au.trans av).put ax Ω;have bF:=(((Q.ext W).ext X)).lt;have a1:ag aw f b4 [.int .u64 0,Δ 0]:=(((Q.ext W).ext X).ext av).ab ax λhe=>by have he:f=e:=he;omega
 intro bI Y _ _;have aB:=ay.trans Y;obtain⟨aS,aT,aU,aV,a7,aW,L,aX,G,aq,a2,a6,_⟩:=(h.ext aB).1.parts;have bJ:=tf E;have bK:=pg h.2.1 h.2.2.1;rw[aQ cI.p 1 G rfl,aQ cI.p 2 G rfl,fM (y:=i) (i:=i.toNat) Ω an.u ai.i Ψ a6.ls (te Ω),aP,wrap_i64 Ω Ω];have a8:t.bT[fF s i.toNat+1]? =σ x.mask:=by rw[h.2.1,qG E Ω];rfl
 refine (nK (i:=fF s i.toNat+1) a2 Ω a8).mono ?_;rintro _ ba _ ⟨rfl,Z⟩;have aC:=(aZ.ext Y).ext Z;have bb:=(a1.ext Y).ext Z;obtain⟨mk,aD⟩:∃mk:Nat,x.mask=mk:=⟨x.mask.toNat,Ω⟩;rw[bR b4.p b4.i rfl (show ba.rangeAt e 0 [.int .u64 ((2 ^ m-1:Nat):Int),Δ (m:Int)] from aC.range)];refine (ve (b:=2 ^ m-1) (n:=m)).mono ?_;rintro _ bL _ ⟨rfl,ac⟩;have bc:=aB.trans Z;have bd:f≠e:=Ω
 have bM:=ay.size;have bN:w.heap.size<=e:=Ω
 have bO:w.heap.size<=f:=Ω
 refine cz.range m (λq B=>Ext w B/\ag B f b4 [.int .u64 0,Δ 0]/\ ∃b:Nat,ag B e b4 [.int .u64 (b:Int),Δ (m:Int)]/\lL b m/\ ∀j:Nat,b.testBit j=(decide (j<m)&& !(decide (j<q)&&mk.testBit j))) Ω
  ⟨bc.trans ac,bb.ext ac,_,aC.ext ac,⟨Ω,by have:=Nat.two_pow_pos m;omega⟩,λj=>by rw[AH];simp⟩ ?_ ?_
 .rintro q B be bP ⟨H,I,b,C,K,M⟩ bf;refine bH Ω ?_;refine dg (λN=>Ext w N/\ag N f b4 [.int .u64 0,Δ 0]/\ ∃b:Nat,ag N e b4 [.int .u64 (b:Int),Δ (m:Int)]/\lL b m/\ ∀j:Nat,b.testBit j=(decide (j<m)&& !(decide (j<q+1)&&mk.testBit j))) ?_ ?_
  .rintro N bh;rw[aP];exact bf _ bh
  intro aA aE;have bi:mk / 2 ^ q<2 ^ 62:=Nat.lt_of_le_of_lt (Nat.div_le_self _ _) Ω;rw[aD,BI Ω,show (1:Int)=((1:Nat):Int) from rfl,DB bi Ω,bg,al];have aF:(((mk / 2 ^ q &&& 1:Nat):Int)=((1:Nat):Int))↔mk.testBit q=true:=by rw[<-DC];omega
  refine⟨λad=>?_,λaf=>?_⟩
  .have ad:=aF.1 ad;rw[bR b4.p b4.i rfl (show B.rangeAt e 0 [.int .u64 (b:Int),Δ (m:Int)] from C.range)];refine (JT (v:=(q:Int)) K).mono ?_;rintro _ bQ _ ⟨rfl,ah⟩;rw[if_pos ⟨Ω,Ω⟩,u6];refine ch (vs:=[.int .u64 ((jz b (2 ^ q):Nat):Int),Δ (m:Int)]) b4.i rfl rfl (by intro u hu;simp at hu;rcases hu with rfl|rfl<;>rfl) (C.ext ah) λbS aG bU bj=>?_;have aI:∀j:Nat,(jz b (2 ^ q)).testBit j=(decide (j<m)&& !(decide (j<q+1)&&mk.testBit j)):=λj=>by
    rw[Az,M,Nat.testBit_two_pow];by_cases aJ:j<m
    .by_cases O:j=q
     .subst O;simp[ad]
     .have aj:decide (j<q+1)=decide (j<q):=decide_eq_decide.2 ⟨λh=>Ω,λh=>Ω⟩;rw[aj,decide_eq_true aJ,decide_eq_true (show j<64 by omega),decide_eq_false (show ¬q=j from λh=>O h.symm)];simp
    .simp[aJ]
   refine aE _ ⟨(H.trans ah).then aG λr bV he=>by have he:r=e:=he;omega,(I.ext ah).ab aG λhe=>bd he,_,bj,⟨Ω,JK λj aK=>by rw[aI,decide_eq_false Ω];rfl⟩,aI⟩
  .have af:mk.testBit q=false:=by simpa using λh=>af (aF.2 h)
   refine aE _ ⟨H,I,b,C,K,λj=>?_⟩;rw[M];by_cases O:j=q
   .subst O;simp[af]
   .have aj:decide (j<q+1)=decide (j<q):=decide_eq_decide.2 ⟨λh=>Ω,λh=>Ω⟩;rw[aj]
 .rintro B be ⟨H,I,b,C,K,M⟩;refine cp Ω ?_;rw[bR b4.p b4.i rfl (show B.rangeAt e 0 [.int .u64 (b:Int),Δ (m:Int)] from C.range)];refine ch (vs:=[.int .u64 (b:Int),Δ (m:Int)]) b4.i rfl rfl (by intro u hu;simp at hu;rcases hu with rfl|rfl<;>rfl) I λbW bk bX bl=>?_;rw[fN b4.p b4.i rfl bl.range];refine⟨⟨b,m,rfl,K,λh=>absurd a h,λy ap aL=>?_⟩,H.put bk Ω⟩;rw[E] at aL;cases aL;refine⟨Ω,λj=>?_⟩;rw[M,aD,Oz,show x.un.length=m by omega];by_cases aK:j<m<;>simp[aK]
theorem DG {f:cb} (e:bt k sizes s) (af:f∈s.funs):b1 f.aj/\f.cs.length=(aN f.aj).toNat/\aN f.aj<=4096:=by
 obtain⟨a,U,_⟩:=e.funs f af;rw[U];refine⟨⟨?_,o1 e.hv.2.2 λv ad=>⟨(a.scope.1 v ad).1,a.vars v ad⟩⟩,a.len,a.small⟩;have:=a.scope.2;simp[bS];exact this
def gL (s:av) (j:Nat) (tl:Λ):Option Nat:=match s.funs[j]? with
 |some f=>if f.live≠0 then (ci f.aj tl 0).map λm=>eS s j+1+m.toNat else ν
 |none=>ν
def lU (s:av) (j:Nat) (tl:Λ):Int:=match s.funs[j]? with
 |some f=>bj f.aj f.cs tl
 |none=>0
theorem DH (h:bw w ae gT A R n s t) (J:aF .i64 w aI tl):am x7 G4 [Γ ae,Δ (j:Int),aI] w λv w'=>v=Δ (match gL s j tl with|some p=>(p:Int)|none=>-1)/\Ext w w':=by
 refine az func122 ?_;refine (ti h).mono ?_;rintro _ V _ ⟨rfl,z⟩;rw[decide_eq_true Ω,T3,u6,bG,ce];refine⟨λa=>⟨?_,z⟩,λa=>?_⟩
 .have a:fo s j=false:=by simpa using a
  have:gL s j tl=ν:=by
   unfold gL;unfold fo at a;cases af:s.funs[j]? with
   |none=>rfl
   |some f=>
    rw[af] at a;have a:f.live=0:=by simpa using a
    simp[a]
  rw[this]
 have a:fo s j=true:=by simpa using a
 obtain⟨f,af,K⟩:∃f,s.funs[j]? =σ f/\f.live≠0:=by
  unfold fo at a;cases af:s.funs[j]? with
  |none=>rw[af] at a;cases a
  |some f=>rw[af] at a;exact⟨f,rfl,by simpa using a⟩
 obtain⟨G,ab,ac⟩:=DG h.2.2.2.1 (x5 af);obtain⟨M,N,O,P,a7,H,L,Q,B,S,U,W,r,x⟩:=(h.ext z).1.parts;obtain⟨y,e⟩:∃y,L[j]? =σ y:=⟨_,x6 (by rw[x.1];exact (x4.1 af).1)⟩;have C:=(x4.1 e).1;obtain⟨_,X,I⟩:=x.2 j y f e af;have Y:V.rangeAt H (j*3+1) [y.szv]:=λq v ad=>by
  match q,ad with
  |0,ad=>cases ad;exact r.range e 1 _ rfl
 rw[aQ cI.p 3 B rfl,dx rfl fv.u fb.i r C,aU fb.p rfl,bR (cs:=[y.szv]) bA.p bA.i rfl Y];refine (zP X.ls (J.ext z) G).mono ?_;rintro _ aa _ ⟨rfl,Z⟩;have E:=z.trans Z;unfold kP gL;rw[af];simp only[if_pos K];cases hi:ci f.aj tl 0 with
 |none=>
  simp only[Option.map_none];rw[bo,bp,bm,al];exact⟨λ_=>⟨trivial,E⟩,λh=>absurd (show (3:Int)≠0 by decide) h⟩
 |some m=>
  simp only[Z3];rw[bo,bp,bm,al];refine⟨λh=>absurd rfl h,λ_=>?_⟩;have ag:=np G.2 hi;have ah:=wF af;have ai:=pg h.2.1 h.2.2.1;obtain⟨M,N,O,P,a7,H,L,Q,B,S,U,W,r,x⟩:=(h.ext E).1.parts;obtain⟨y,e⟩:∃y,L[j]? =σ y:=⟨_,x6 (by rw[x.1];exact (x4.1 af).1)⟩;have C:=(x4.1 e).1;obtain⟨_,_,I⟩:=x.2 j y f e af;rw[aQ cI.p 3 B rfl,dx rfl fv.u fb.i r C,aU fb.p rfl,ay (v:=Δ (y.at_:Int)) Ψ (r.range e 2 _ rfl),I,aP,wrap_i64 Ω Ω,aP,wrap_i64 Ω Ω];refine⟨?_,E⟩;congr 1;omega
theorem wJ {p:Nat} (a:bt k sizes s) (h:gL s j tl=σ p):s.cells[p]? =σ (lU s j tl)/\ ∃f,s.funs[j]? =σ f/\f.live≠0/\ ∃m:Nat,ci f.aj tl 0=σ (m:Int)/\m<f.cs.length/\p=eS s j+(m+1):=by
 unfold gL at h;cases af:s.funs[j]? with
 |none=>rw[af] at h;cases h
 |some f=>
  rw[af] at h;simp only at h;split at h
  .rename_i e;obtain⟨m,hm,rfl⟩:=Y5.1 h;obtain⟨r,w,x⟩:=DG a (x5 af);have y:=np r.2 hm;obtain⟨q,rfl⟩:∃q:Nat,m=q:=⟨m.toNat,Ω⟩;refine⟨?_,f,rfl,e,q,hm,Ω,Ω⟩;rw[show eS s j+1+(q:Int).toNat=eS s j+(q+1) by omega,wc af Ω];unfold lU bj;rw[af];simp only[hm];show f.cs[q]? =_;rw[u6,v8,x6 Ω];rfl
  .cases h
theorem wK (h:bw w ae gT A R n s t) (e:aF .i64 w aI tl):am x7 yY [Γ ae,Δ (j:Int),aI] w λv w'=>v=(if (gL s j tl).isSome then .tuple #[Δ (lU s j tl),Δ 0] else .tuple #[Δ 0,Δ 1])/\Ext w w':=by
 refine az func46 ?_;rw[db dz.u];simp only[Z4,a1];refine (DH h e).mono ?_;rintro _ V _ ⟨rfl,a⟩;cases f:gL s j tl with
 |none=>
  simp only;rw[aO,al];exact⟨λ_=>⟨rfl,a⟩,λh=>Ω⟩
 |some p=>
  simp only;refine cp Ω ?_;obtain⟨x,y,z,B,a7,C,L,E,m,G,q,H,I,J⟩:=(h.ext a).1.parts;rw[aQ cI.p 1 m rfl];refine (nK (i:=p) q rfl (by rw[h.2.1];exact (wJ h.2.2.2.1 f).1)).mono ?_;rintro _ aa _ ⟨rfl,r⟩;exact⟨rfl,a.trans r⟩
end
theorem eM.parts {a:Nat} {e f p:x1} {A R:ak} {n:aR} {s:av} {t:aC} (h:eM w ae gT a e f p A R n s t):∃a7 j L m,ag w ae cI [Γ a,Γ gT,e,f,p]/\fW w a n/\ds w gT m t/\au .i64 ai w a7 e (ih s)/\bk nL 3 fb w j f L/\k4 R w L s:=by
 obtain⟨_,a7,j,ge,L,E,m,w0,q,⟨r,x,F⟩,⟨y,G,H,I⟩,z,⟨B,C⟩,J,K⟩:=h;exact⟨a7,j,L,m,q,r.ext x,y,z,B,C⟩
theorem OA {b:Int} (e:0<=a/\a<=k) (f:0<=b/\b<=k) (hk:1<=k/\k<=2147483648):am x7 y4 [Δ a,Δ b,Δ k] w λv w'=>v= .tuple #[Δ (min (a+b) k),Δ 0]/\Ext w w':=by
 refine vq.mono ?_;rintro _ V _ ⟨rfl,J⟩;refine⟨?_,J⟩;unfold ny;rw[if_pos ⟨⟨hk,e.1,e.2⟩,hk,f.1,f.2⟩]
def Room (t:aC):Prop:=t.marks=[]\/t.olds.length<100000000
def ek (s:av) (i v:Nat):av:=match s.vars[i]? with
 |some x=>{s with vars:=s.vars.set i {x with mask:=((x.mask.toNat ||| 2 ^ v:Nat):Int)}}
 |none=>s
theorem bt.tk {s:av} {i:Nat} {x y:bB} (h:bt k sizes s) (J:s.vars[i]? =σ x) (j:y.un.length=x.un.length) (m:∀c∈y.un,0<=c/\c<=k) (hm:0<=y.mask/\y.mask<4294967296):bt k sizes {s with vars:=s.vars.set i y}:=
 ⟨h.eg,h.hv,h.zero,by show (s.vars.set i y).length=_;rw[c8];exact h.vars,λp z q a e=>by
  have a:(s.vars.set i y)[p]? =σ z:=a;rw[Y7] at a;by_cases f:i=p
  .subst f;rw[if_pos rfl,if_pos (x4.1 J).1] at a;cases a;exact⟨j.trans (h.var i x q J e).1,m,hm⟩
  .rw[if_neg f] at a;exact h.var p z q a e,h.funs⟩
theorem bt.DI {s:av} {f g:cb} (h:bt k sizes s) (af:s.funs[j]? =σ f) (h1:g.sc=f.sc) (a:g.aj=f.aj) (e:g.cs.length=f.cs.length) (m:∀c∈g.cs,0<=c/\c<=k):bt k sizes {s with funs:=s.funs.set j g}:=
 ⟨h.eg,h.hv,h.zero,h.vars,h.var,λx J=>by
  rcases X8 J with J|rfl
  .exact h.funs x J
  .obtain⟨⟨p,q,r,w,y,B⟩,z,A⟩:=h.funs f (x5 af);refine⟨⟨?_,?_,?_,?_,?_,m⟩,?_,?_⟩
   .show jg x.sc;rw[h1];exact p
   .show x.sc.Pairwise _;rw[h1];exact q
   .show ∀v∈x.sc,_;rw[h1];exact r
   .show x.cs.length=(aN (bS sizes x.sc)).toNat;rw[h1,e];exact w
   .show aN (bS sizes x.sc)<=_;rw[h1];exact y
   .rw[h1,a];exact z
   .rw[h1];exact A⟩
theorem OB {r:Nat} {c:List x1} (a:ag w r e c) (he:¬(e=fx\/e=eH\/e=kM\/e=gb\/e=cI\/e=fb\/e=uM)):¬eA w r:=by
 rintro (⟨m,p,f,h⟩|j)
 .rw[e7 a f] at he;exact he h
 .exact j _ a rfl
section
variable {w:x3} {ae gT:Nat} {A R:ak} {n:aR} {s:av} {t:aC}
theorem my.set (h:my t) (a:Room t) (p:Nat) (x:Int):my (t.set p x):=by
 refine⟨by rw[aC.CZ];exact h.1,?_,by rw[aC.wg];exact h.2.2⟩;rcases a with a|a
 .rw[aC.wh a];exact h.2.1
 .have:=aC.C0 t p x;omega
theorem DJ {s':av} {p:Nat} {x:Int} (h:bw w ae gT A R n s t) (m:y=(p:Int)) (a:p<s.cells.length) (q:s.cells.set p x=s'.cells) (U:nM s s') (z:bt n.k n.sizes s') (B:Room t):
  am x7 y1 [Γ gT,Δ y,Δ x] w λr w'=>r=Δ 0/\ah (eA w) w w'/\ ∃aS,Grow A w aS w'/\bw w' ae gT aS R n s' (t.set p x):=by
 obtain⟨C,ad,j,_,E⟩:=id h;obtain⟨G,H,I⟩:=C.qM;have J:p<t.cells.length:=by rw[<-ad] at a;unfold aC.bT at a;rw[u7] at a;exact a
 refine (s5 H.min m J j).mono ?_;rintro _ V _ ⟨rfl,K,e,L⟩;obtain⟨aS,M,N⟩:=I (λr=>G r\/K r) V _ ⟨e.1.mono λr _ h=>h.1,λr f=>f.elim .inl λh=>(e.2.1 r h).imp (λh=>h.1) id,λr f=>.inl f⟩ (L.mono λr h=>.inr h);exact⟨rfl,e.1.mono λr _ h=>.inl h.2,aS,M,N.same U,by rw[aC.pX,ad,q],j.set B p x,z,E⟩
theorem wL {i:Int} (h:bw w ae gT A R n s t) (I:Room t):am x7 FW [Γ ae,Δ i,Δ v] w λr w'=>(¬fm n i v->r=Δ 1/\Ext w w')/\
  (fm n i v->r=Δ 0/\ah (eA w) w w'/\ ∃aS x,Grow A w aS w'/\bw w' ae gT aS R n (ek s i.toNat v.toNat) (t.set (fF s i.toNat+1) x)):=by
 refine az func21 ?_;rw[db dz.u];simp only[Z4,a1];refine (wI h).mono ?_;rintro _ V _ ⟨rfl,f⟩;by_cases e:fm n i v
 rotate_left
 .rw[if_neg e,aO,al];exact⟨λ_=>⟨λ_=>⟨by trivial,f⟩,λh=>absurd h e⟩,λh=>Ω⟩
 rw[if_pos e];refine cp Ω ?_;obtain⟨x,a,J,Z,ab⟩:=e.var h.2.2.2.1;obtain⟨h1,ac,ad,af⟩:=id e;have ag:=h.2.2.2.1.vars;obtain⟨z,K⟩:=aH (l:=n.sizes) (i:=i.toNat) Ω;obtain⟨_,M,aj,ak⟩:=h.2.2.2.1.var i.toNat x z a K;have ao:=tf a;have ap:=pg h.2.1 h.2.2.1;obtain⟨aq,au,av,aw,N⟩:=(h.ext f).1;obtain⟨a7,ax,L,ay,C,aA,O,P,aB,aC⟩:=N.parts;rw[aQ cI.p 2 C rfl,fM (y:=i) (i:=i.toNat) Ω an.u ai.i Ψ P.ls (te Ω),aP,wrap_i64 Ω Ω];intro aa j _ _;have Q:=f.trans j;have E:=C.ext j;have S:=O.ext j;obtain⟨q,rfl⟩:∃q:Nat,v=q:=⟨v.toNat,Ω⟩;obtain⟨mk,G⟩:∃mk:Nat,x.mask=mk:=⟨x.mask.toNat,Ω⟩;rw[u6] at J;rw[aQ cI.p 1 E rfl,aQ cI.p 1 E rfl,Oy Ω];have U:t.bT[fF s i.toNat+1]? =σ x.mask:=by rw[h.2.1,qG a Ω];rfl
 refine (nK (i:=fF s i.toNat+1) S Ω U).mono ?_;rintro _ aD _ ⟨rfl,H⟩;refine⟨.inl H,?_⟩;have aE:(2:Nat) ^ q<=2 ^ 31:=T8 Ω Ω;rw[G,Ox Ω Ω];have m:=Q.trans H;have aF:mk ||| 2 ^ q<2 ^ 32:=Nat.or_lt_two_pow Ω Ω;have B:ek s i.toNat (q:Int).toNat={s with vars:=s.vars.set i.toNat {x with mask:=((mk ||| 2 ^ q:Nat):Int)}}:=by
  unfold ek;rw[a];simp only[G,u6]
 refine (DJ (p:=fF s i.toNat+1) (s':=ek s i.toNat (q:Int).toNat) (h.ext m) Ω Ω ?_ ?_ ?_ I).mono ?_
 .rw[B,CR a Ω];rfl
 .rw[B];exact CX a rfl
 .rw[B];exact h.2.2.2.1.tk a rfl M ⟨by simp only;omega,by simp only;omega⟩
 rintro _ aG _ ⟨rfl,W,aS,X,Y⟩;exact⟨λh=>absurd e h,λ_=>⟨rfl,jI m W,aS,_,(Grow.ext m).trans X,Y⟩⟩
end
theorem wM {f:x1} (h:aF .i64 w f l):am x7 GQ [f,Δ v] w λr w'=>r= .bool (decide (v∈l))/\Ext w w':=by
 refine az func107 ?_;rw[aW an.u h];refine bZ.range l.length (λi _ V=>Ext w V/\v∉l.take i) h.le ⟨Ext.refl _,Ξ⟩ ?_ ?_
 .rintro i _ V k hi ⟨J,a⟩ hk;obtain⟨x,e⟩:=aH (l:=l) hi;refine bH Ω ?_;rw[bc an.u ai.i Ψ (h.ext J) e,bg,al];refine⟨λhe=>⟨by rw[decide_eq_true];rw[<-he];exact x5 e,J⟩,λj=>?_⟩;rw[aP];refine hk _ _ ⟨J,λhm=>?_⟩;rw[u9,e,o9,o7,o8] at hm;rcases hm with hm|hm
  .exact a hm
  .exact j hm.symm
 .rintro _ V k ⟨J,a⟩;rw[p9] at a;rw[aO,al];exact⟨λh=>Ω,λ_=>⟨by rw[decide_eq_false a],J⟩⟩
theorem OC {x:bB} (h:0<=v/\v<x.un.length):v∈aB x↔dropped x.mask v=false:=by
 unfold aB;rw[T6,l9];constructor
 .rintro⟨_,a⟩;simpa using a
 .intro a;exact⟨⟨v.toNat,List.mem_range.2 Ω,Ω⟩,by simp[a]⟩
def dk (s:av):Prop:=∀f∈s.funs,f.live≠0-> ∀v∈f.sc,∀x,s.vars[v.toNat]? =σ x->x.gone=0
theorem fW.put {g s:Nat} {c:List x1} {n:aR} (h:fW w s n) (a:ag w g a8 c) (f:ah (λr=>r=g) w w'):fW w' s n:=by
 have m:=Dv a;have x:∀r,r=g-> ∃e c,ag w r e c/\e≠hh/\e≠cW/\e≠ai/\e≠ap/\e≠ax:=λr j=>by
  subst j;exact⟨_,c,a,Φ,Φ,Φ,Φ,Φ⟩
 obtain⟨y,z,A,B,gr,aX,L,nm,szv,gz,fv2,h1,C,E,F,G,H,I⟩:=h;refine⟨y,z,A,B,gr,aX,L,nm,szv,gz,fv2,wC h1 f m Φ,wC C f m Φ,wB E f m Φ,F.ab f λr j=>?_,G,H.ab f λr j=>?_,I⟩
 .obtain⟨e,c,a,_,_,_,p,q⟩:=x r j;exact⟨e,c,a,p,q⟩
 .obtain⟨e,c,a,p,q,J,K,_⟩:=x r j;exact⟨e,c,a,p,q,J,K⟩
theorem StateM.put {g:Nat} {A R:ak} {n:aR} {s:av} {t:aC} {c:List x1} (h:StateM w ae gT A R n s t) (q:ag w g a8 c) (m:ah (λr=>r=g) w w') (P:¬A g):∃R',(∀r,R' r->R r/\r≠g)/\StateM w' ae gT A R' n s t:=by
 obtain⟨Q,S,V,W,⟨h1,X,Y,Z⟩,a7,aa,ge,L,E,ac,w0,ad,⟨H,B,ai⟩,⟨aj,I,al,am⟩,an,⟨ao,K⟩,ap,M⟩:=h;obtain⟨cu,N⟩:=CK;have z:=m.size;have p:=Dv q;have y:∀r,(w0.heap.setIfInBounds g cu)[r]? =if g=r then (if g<w0.heap.size then σ cu else ν) else w0.heap[r]?:=λr=>Array.getElem?_setIfInBounds;have aq:∀r,A r->r≠g:=λr a he=>P (he▸a);have int:∀ {v:x1} {l:Λ},iJ R w v l->iJ (λr=>R r/\r≠g) w' v l:=λ⟨⟨au,hm⟩,aw⟩=>⟨⟨au,wB hm m p Φ⟩,λr a=>⟨aw r a,b7 hm q Φ a⟩⟩;refine⟨λr=>R r/\r≠g,λr h=>h,Q,S,V,W,⟨h1,λr a ax=>X r a ax.1,λr a=>by have:=Y r a.1;omega,λr a=>by have:=Z r a;omega⟩,a7,aa,ge,L,E,ac,{w0 with heap:=w0.heap.setIfInBounds g cu},wC ad m p Φ,⟨?_,?_,?_⟩,
  ⟨aj.ab m λr a=>aq r (I r a),I,al,am⟩,wB an m p Φ,⟨Du ao m p Φ,K.1,λj x f J af=>?_⟩,Du ap m p Φ,M.1,λj x e J he=>?_⟩
 .by_cases U:∃o,w0.heap[g]? =σ o/\fq o=true
  .obtain⟨o,O,ay⟩:=U;have az:ag w0 g a8 c:=by
    unfold ag at q ⊢;have:=B.aZ g o O ay;rw[q] at this;rw[O,this]
   refine H.put az ⟨Ξ,λr o a U aA=>?_⟩;show (w0.heap.setIfInBounds g cu)[r]? =σ o;rw[y,if_neg λhe=>aA he.symm];exact a
  .refine H.ext ⟨Ξ,λr o a aB=>?_⟩;show (w0.heap.setIfInBounds g cu)[r]? =σ o;rw[y,if_neg λhe=>U ⟨o,by rw[he];exact a,aB⟩];exact a
 .refine⟨by show (w0.heap.setIfInBounds g cu).size<=_;rw[Array.size_setIfInBounds];exact Y9 B.size z,λr o a U=>?_⟩;have a:(w0.heap.setIfInBounds g cu)[r]? =σ o:=a;rw[y] at a;by_cases he:g=r
  .rw[if_pos he] at a;split at a
   .cases a;rw[N] at U;cases U
   .cases a
  .rw[if_neg he] at a;exact m.aZ r o (B.aZ r o a U) U λh=>he h.symm
 .intro r o a U;have a:(w0.heap.setIfInBounds g cu)[r]? =σ o:=a;rw[y] at a;by_cases he:g=r
  .rw[if_pos he] at a;split at a
   .cases a;rw[N] at U;cases U
   .cases a
  .rw[if_neg he] at a;exact⟨ai r o a U,λh=>he h.symm⟩
 .obtain⟨C,F,G⟩:=K.2 j x f J af;exact⟨int C,int F,G⟩
 .obtain⟨C,F,G⟩:=M.2 j x e J he;exact⟨C,int F,int G⟩
theorem OD {pl:Λ} {f:b2} (j:pl.length<=60000) (h:gi pl=σ f):∃N,N<=60000/\e6 N f/\f.name≠[]/\ ∀b∈f.name,bK b=true:=by
 unfold gi at h;rw[if_neg Ω] at h;cases a:hN ⟨(lex pl).1,0,false,[]⟩ with
 |none=>rw[a] at h;cases h
 |some q=>
  obtain⟨m,s⟩:=q;rw[a] at h;simp only at h;split at h
  .rename_i aJ;cases h;obtain⟨h1,e⟩:=A7 rfl a aJ.2.2;have p:=pV pl.length pl (p8 _);obtain⟨V,aa,_⟩:=rZ pl.length pl (p8 _) f.name e;exact⟨_,by show (lex pl).1.length<=60000;omega,h1,V,aa⟩
  .cases h
theorem OE:am x7 yX [.pointer ν] w λv w'=>v= .pointer ν/\Ext w w':=by
 refine az func29 ?_;rw[db mb.u];simp only[Option.isNone_none,bQ];exact⟨by trivial,Ext.refl _⟩
theorem OF {v:x1} (h:aF .u8 w v l) (A:l.length<=100000):am x7 FY [v] w λf w'=>Ext w w'/\ ∃g,au .u8 cJ w' g f l:=by
 have e:=h;obtain⟨B,b,o,base,cap,rfl,C,hm,p,q⟩:=h;refine az func25 ?_;rw[ox cN.u,ce];refine⟨λs=>⟨Ext.refl _,0,?_⟩,λ_=>?_⟩
 .have:l=[]:=by
   cases base with
   |none=>
        by_cases e:0<l.length
        .have:=p e;cases this
        .exact j5 Ω
   |some a=>cases s
  subst this;exact au.nil _ _ _ _
 .refine wD (k:=.u8) cN.u cJ.i λE g1 V G j m=>?_;refine hx cN.u cJ.i rfl m (e.ext j) Θ Θ λf x aa y H z=>?_;exact⟨j.then z (λr q he=>by have:=(bO m he).1;omega),x,by simpa using y⟩
def OG (sv:x1):Prop:=∃cs:List x1,sv= .agg cs.toArray/\cs.length=8/\ ∀u∈cs,u.oneCell'=true
theorem DK:OG (.agg z12.toArray):=⟨z12,rfl,rfl,by intro u hu;simp[z12] at hu;rcases hu with rfl|rfl|rfl|rfl<;>rfl⟩
theorem wN {N:Nat} {f:b2} (a:e6 N f):(cQ f).funs.length<=256:=by
 have h1:=(qu a).2.length_eq;have h:=(kZ a).2.2;have j:=List.length_filter_le fA (ff f);have m:=a.kS;have e:=(pb f (fB f).length).2.2.2;rw[s3] at e;omega
theorem OH {n:aR} {t:aC} (e:jG n) (af:n.funs.length<=256) (ad:t.bT=(cL n).cells) (a:Plain t):my t:=by
 have h1:=s9 e af n.unary.length n.funs.length;rw[wn,<-ad] at h1;unfold aC.bT at h1;rw[u7] at h1;refine⟨Ω,?_,?_⟩
 .rw[a.2.1];exact X3 _
 .rw[a.1];exact X3 _
def tm (B:Nat) (w:x3) (a:x1) (cs:List x1) (f:b2):Prop:=∃ae gT A R t N A9 aK,e6 N f/\a=Γ ae/\bw w ae gT A R (cQ f) (cL (cQ f)) t/\Plain t/\(∀r,A r->B<=r)/\
 ik true A9 aK w cs (cQ f).k (cQ f).sizes (cL (cQ f))/\(∀q r,A9 q r->¬A r/\¬R r/\B<=r)/\(∀r,aK r->¬eA w r/\r<w.heap.size/\B<=r)/\ ∀r,R r->B<=r
def OI (w:x3) (q:Λ) (v:x1) (w':x3):Prop:=Ext w w'/\ ∃a cs ok,v= .tuple #[a,.agg cs.toArray,.bool ok]/\(cs.length=8/\ ∀u∈cs,u.oneCell'=true)/\((ok=false/\a= .pointer ν)\/(ok=true/\ ∃f,gi q=σ f/\tm w.heap.size w' a cs f))/\ ∀f,gi q=σ f->lQ f.funs<=16384->ok=true
section
variable {w:x3} {ae gT:Nat} {A R:ak} {n:aR} {s:av} {t:aC}
theorem DL {j:Int} (h:bw w ae gT A R n s t) (m:¬(0<=j/\j<s.funs.length)):am x7 pH [Γ ae,Δ j] w λr w'=>r= .slice ν 0 0/\Ext w w':=by
 refine az func42 ?_;refine aV (λv V=>v= .bool true/\Ext w V) ?_ ?_
 .rintro _ V ⟨rfl,e⟩;rw[bQ];exact⟨rfl,e⟩
 intro aA a;rw[aO,al];refine⟨λ_=>a _ _ ⟨rfl,Ext.refl _⟩,λp=>?_⟩;refine (tg h).mono ?_;rintro _ q _ ⟨rfl,f⟩;rw[cP];exact a _ _ ⟨by rw[decide_eq_true Ω],f⟩
end
section
variable {w:x3} {B:Nat} {sv:x1} {k:Int} {sizes:Λ} {s:av}
end
def gp:List (Λ)->List (Λ)
 |[]=>[[]]
 |d::a=>d.flatMap λv=>(gp a).map (v:: ·)
theorem tn:∀ {e:List (Λ)} {t:Λ},t∈gp e↔t.length=e.length/\ ∀ (p:Nat) d v,e[p]? =σ d->t[p]? =σ v->v∈d
 |[],t=>by
  simp only[gp,o8];exact⟨λh=>by subst h;exact⟨rfl,λp d v h=>by simp at h⟩,λh=>j5 h.1⟩
 |d::e,t=>by
  simp only[gp,List.mem_flatMap,l9];constructor
  .rintro⟨v,ad,bu,m,rfl⟩;obtain⟨h1,f⟩:=tn.1 m;refine⟨by simp[h1],λp j u a hu=>?_⟩;cases p with
   |zero=>simp at a hu;subst a hu;exact ad
   |succ p=>exact f p j u (by simpa using a) (by simpa using hu)
  .rintro⟨h1,f⟩;cases t with
   |nil=>simp at h1
   |cons v bu=>exact⟨v,f 0 d v rfl rfl,bu,tn.2 ⟨by simpa using h1,λp j u a hu=>f (p+1) j u (by simpa using a) (by simpa using hu)⟩,rfl⟩
def mE:List (Int->Bool)->Λ->Bool
 |q::a,v::t=>q v&&mE a t
 |_,_=>true
theorem DM:∀ (j:List (Λ)) (a:List (Int->Bool)),a.length=j.length->gp ((j.zip a).map λp=>p.1.filter p.2)=(gp j).filter (mE a)
 |[],[],_=>rfl
 |d::j,q::a,h=>by
  have m:=DM j a (by simpa using h);simp only[List.zip_cons_cons,U7,gp];rw[m];clear m h;induction d with
  |nil=>rfl
  |cons v d r=>
   rw[X7,List.filter_append,<-r];have e:((gp j).map (v:: ·)).filter (mE (q::a))=if q v then ((gp j).filter (mE a)).map (v:: ·) else[]:=by
    rw[List.filter_map];by_cases f:q v=true
    .rw[if_pos f];congr 1;apply List.filter_congr;intro t _;show (q v&&mE a t)=_;rw[f,T3]
    .rw[if_neg f];rw[List.filter_eq_nil_iff.2 λt _=>by show ¬(q v&&mE a t)=true;simp[f]];rfl
   rw[e];by_cases f:q v=true
   .rw[if_pos f,List.filter_cons_of_pos f,X7]
   .rw[if_neg f,List.filter_cons_of_neg f];rfl
def hy (k:Int):Λ:=(X4 k.toNat).map λv:Nat=>(v:Int)
theorem wO:∀ (s:Λ),bi s=gp (s.map hy)
 |[]=>rfl
 |k::s=>by
  simp only[bi,U7,gp,hy,List.flatMap_map,<-wO s]
theorem tp:v∈hy k↔0<=v/\v<k:=by
 unfold hy;rw[l9];constructor
 .rintro⟨n,a,rfl⟩;have:=List.mem_range.1 a;omega
 .intro h;exact⟨v.toNat,List.mem_range.2 Ω,Ω⟩
def dy (f:Int->Int) (L:List (Λ)) (aj cs:Λ):Λ:=((bi aj).zip cs).map λp=>if p.1∈L then f p.2 else p.2
theorem nU (f:Int->Int) (L:List (Λ)) (aj cs:Λ) (h:cs.length<=(bi aj).length):(dy f L aj cs).length=cs.length:=by
 unfold dy;rw[u7,List.length_zip];omega
theorem pi {f:Int->Int} {i:Nat} (a:(bi aj)[i]? =σ t) (e:cs[i]? =σ c):(dy f L aj cs)[i]? =σ (if t∈L then f c else c):=by
 unfold dy;have h:((bi aj).zip cs)[i]? =σ (t,c):=List.getElem?_zip_eq_some.2 ⟨a,e⟩;rw[x8,h];rfl
theorem OJ {f:Int->Int} {i:Nat} (U:dG aj) (p:cs.length<=(bi aj).length) (m:(bi aj)[i]? =σ t) (q:cs[i]? =σ c) (w:t∉L):(dy f L aj cs)[i]? =σ c/\(dy f L aj cs).set i (f c)=dy f (L++[t]) aj cs:=by
 have h1:=pi (f:=f) (L:=L) m q;rw[if_neg w] at h1;refine⟨h1,?_⟩;apply Y3;intro j;rw[Y7];by_cases r:i=j
 .subst r;rw[if_pos rfl,if_pos (x4.1 h1).1,pi m q,if_pos Ξ]
 .rw[if_neg r];cases a:cs[j]? with
  |none=>
   have:=List.getElem?_eq_none_iff.1 a;rw[Z6 (by rw[nU _ _ _ _ p];exact this),Z6 (by rw[nU _ _ _ _ p];exact this)]
  |some z=>
   obtain⟨u,hu⟩:∃u,(bi aj)[j]? =σ u:=⟨_,x6 (by have:=(x4.1 a).1;omega)⟩;rw[pi hu a,pi hu a];have x:u≠t:=λhe=>by
    subst he;have y:=je U m;have s:=je U hu;rw[y] at s;have:=b6 s;omega
   have:u∈L++[t]↔u∈L:=by simp[x]
   by_cases e:u∈L
   .rw[if_pos e,if_pos (this.2 e)]
   .rw[if_neg e,if_neg λh=>e (this.1 h)]
def kv (s:av) (i v:Nat) (c:Int):av:=match s.vars[i]? with
 |some x=>{s with vars:=s.vars.set i {x with un:=x.un.set v c}}
 |none=>s
def kw (s:av) (j m:Nat) (c:Int):av:=match s.funs[j]? with
 |some f=>{s with funs:=s.funs.set j {f with cs:=f.cs.set m c}}
 |none=>s
theorem qQ {i:Nat} (h:∀x∈l,0<=x/\x<=k) (a:0<=c/\c<=k):∀x∈l.set i c,0<=x/\x<=k:=λx J=>by
 rcases X8 J with J|rfl
 .exact h x J
 .exact a
def mF (w:x3) (ae gT:Nat) (A R:ak) (n:aR) (s':av) (t:aC) (v:x1) (w':x3):Prop:=v=Δ 0/\ah (eA w) w w'/\ ∃aS p x,Grow A w aS w'/\bw w' ae gT aS R n s' (t.set p x)
theorem mF.ext {V:x3} {A R:ak} {n:aR} {s':av} {t:aC} {v:x1} (J:Ext w V) (h:mF V ae gT A R n s' t v w'):mF w ae gT A R n s' t v w':=by
 obtain⟨h1,a,aS,p,x,e,f⟩:=h;exact⟨h1,jI J a,aS,p,x,(Grow.ext J).trans e,f⟩
section
variable {w:x3} {ae gT:Nat} {A R:ak} {n:aR} {s:av} {t:aC}
theorem qR (h:bw w ae gT A R n s t) (f:y<0\/¬(0<=c/\c<=n.k)):am x7 zo [Γ ae,Δ y,Δ c] w λv w'=>v=Δ (if y<0 then 1 else 3)/\Ext w w':=by
 refine az func229 ?_;rw[db dz.u];simp only[Z4,a1];rw[aO,al];refine⟨λe=>⟨by rw[if_pos e],Ext.refl _⟩,λe=>?_⟩;refine (k9 h).mono ?_;rintro _ V _ ⟨rfl,j⟩;refine (jy (a:=c) (k:=n.k)).mono ?_;rintro _ aa _ ⟨rfl,m⟩;have p:=f.resolve_left e;rw[decide_eq_false (λh=>p h.2),bG,X9,bQ,if_neg e];exact⟨rfl,j.trans m⟩
theorem wP {s':av} {p:Nat} (h:bw w ae gT A R n s t) (f:Room t) (j:y=(p:Int)) (m:p<s.cells.length) (q:s.cells.set p c=s'.cells) (U:nM s s') (r:bt n.k n.sizes s') (x:0<=c/\c<=n.k):
  am x7 zo [Γ ae,Δ y,Δ c] w (mF w ae gT A R n s' t):=by
 refine az func229 ?_;rw[db dz.u];simp only[Z4,a1];refine cp Ω ?_;refine (k9 h).mono ?_;rintro _ V _ ⟨rfl,z⟩;refine (jy (a:=c) (k:=n.k)).mono ?_;rintro _ aa _ ⟨rfl,B⟩;have e:=z.trans B;rw[decide_eq_true (show cq c n.k from⟨h.2.2.2.1.eg,x⟩),bG,Y6,a1];obtain⟨I,J,K,M,a7,N,L,O,C,P,Q,S,W,X⟩:=(h.ext e).1.parts;rw[aQ cI.p 1 C rfl];refine (DJ (h.ext e) j m q U r f).mono ?_;rintro _ Y _ ⟨rfl,E,aS,G,H⟩;exact mF.ext e ⟨rfl,E,aS,_,_,G,H⟩
theorem OK (h:bw w ae gT A R n s t) (e:Room t):am x7 HQ [Γ ae,Δ c] w λv w'=>(¬(0<=c/\c<=n.k)->v=Δ 3/\Ext w w')/\((0<=c/\c<=n.k)->mF w ae gT A R n {s with zero:=c} t v w'):=by
 refine az func183 ?_;by_cases a:0<=c/\c<=n.k
 .refine (wP (p:=0) h e rfl (by unfold av.cells iI;simp) (Np s c) (CW s c) ⟨h.2.2.2.1.eg,h.2.2.2.1.hv,a,h.2.2.2.1.vars,h.2.2.2.1.var,h.2.2.2.1.funs⟩ a).mono ?_;rintro v V _ f;exact⟨λh=>absurd a h,λ_=>f⟩
 .refine (qR h (.inr a)).mono ?_;rintro v V _ ⟨rfl,j⟩;exact⟨λ_=>⟨rfl,j⟩,λh=>absurd h a⟩
theorem DN {i:Int} (h:bw w ae gT A R n s t) (y:Room t):am x7 HN [Γ ae,Δ i,Δ v,Δ c] w λr w'=>
  (¬fm n i v->r=Δ 1/\Ext w w')/\(fm n i v->¬(0<=c/\c<=n.k)->r=Δ 3/\Ext w w')/\(fm n i v->(0<=c/\c<=n.k)->mF w ae gT A R n (kv s i.toNat v.toNat c) t r w'):=by
 refine az func179 ?_;refine (wI h).mono ?_;rintro _ V _ ⟨rfl,e⟩;by_cases a:fm n i v
 .rw[if_pos a];by_cases j:0<=c/\c<=n.k
  .obtain⟨x,f,G,H,_⟩:=a.var h.2.2.2.1;have I:=h.2.2.2.1.vars;obtain⟨z,B⟩:∃z,n.sizes[i.toNat]? =σ z:=⟨_,x6 (by have:=a.1;have:=a.2.1;omega)⟩;obtain⟨_,C,hm⟩:=h.2.2.2.1.var i.toNat x z f B;have J:=tf f;have m:kv s i.toNat v.toNat c={s with vars:=s.vars.set i.toNat {x with un:=x.un.set v.toNat c}}:=by unfold kv;rw[f]
   refine (wP (p:=fF s i.toNat+(2+v.toNat)) (s':=kv s i.toNat v.toNat c) (h.ext e) y Ω Ω ?_ ?_ ?_ j).mono ?_
   .rw[m];refine CR f Ω ?_;rw[show 2+v.toNat=v.toNat+1+1 by omega];rfl
   .rw[m];exact CX f Ξ
   .rw[m];exact h.2.2.2.1.tk f Ξ (qQ C j) hm
   .rintro r aa _ E;exact⟨λh=>absurd a h,λ_ h=>absurd j h,λ_ _=>E.ext e⟩
  .refine (qR (h.ext e) (.inr j)).mono ?_;rintro r aa _ ⟨rfl,q⟩;rw[if_neg Ω];exact⟨λh=>absurd a h,λ_ _=>⟨rfl,e.trans q⟩,λ_ h=>absurd h j⟩
 .rw[if_neg a];refine (qR (h.ext e) (.inl Ω)).mono ?_;rintro r aa _ ⟨rfl,q⟩;rw[if_pos Ω];exact⟨λ_=>⟨rfl,e.trans q⟩,λh=>absurd h a,λh=>absurd h a⟩
theorem OL (h:bw w ae gT A R n s t) (B:Room t) (C:aF .i64 w aI tl):am x7 HM [Γ ae,Δ (j:Int),aI,Δ c] w λr w'=>
  (gL s j tl=ν->r=Δ 1/\Ext w w')/\((gL s j tl).isSome=true->¬(0<=c/\c<=n.k)->r=Δ 3/\Ext w w')/\
  ((gL s j tl).isSome=true->(0<=c/\c<=n.k)-> ∀f (m:Nat),s.funs[j]? =σ f->ci f.aj tl 0=σ (m:Int)->mF w ae gT A R n (kw s j m c) t r w'):=by
 refine az func178 ?_;refine (DH h C).mono ?_;rintro _ V _ ⟨rfl,a⟩;cases E:gL s j tl with
 |none=>
  simp only;refine (qR (h.ext a) (.inl Ω)).mono ?_;rintro r aa _ ⟨rfl,q⟩;rw[if_pos Ω];exact⟨λ_=>⟨rfl,a.trans q⟩,λh=>by simp at h,λh=>by simp at h⟩
 |some p=>
  simp only;by_cases e:0<=c/\c<=n.k
  .obtain⟨I,f,af,J,m,hm,K,rfl⟩:=wJ h.2.2.2.1 E;have L:=wF af;have x:kw s j m c={s with funs:=s.funs.set j {f with cs:=f.cs.set m c}}:=by unfold kw;rw[af]
   obtain⟨G,_⟩:=h.2.2.2.1.funs f (x5 af);refine (wP (p:=eS s j+(m+1)) (s':=kw s j m c) (h.ext a) B rfl Ω ?_ ?_ ?_ e).mono ?_
   .rw[x];exact Nq af Ω rfl
   .rw[x];exact Nz af Ξ rfl rfl
   .rw[x];exact h.2.2.2.1.DI af rfl rfl Ξ (qQ G.hT e)
   .rintro r aa _ H;refine⟨(λh=>by cases h),λ_ h=>absurd e h,λ_ _ M cm y z=>?_⟩;rw[af] at y;cases y;rw[hm] at z;have:cm=m:=by have:=b6 z;omega
    subst this;exact H.ext a
  .refine (qR (h.ext a) (.inr e)).mono ?_;rintro r aa _ ⟨rfl,q⟩;rw[if_neg Ω];exact⟨(λh=>by cases h),λ_ _=>⟨rfl,a.trans q⟩,λ_ h=>absurd h e⟩
end
def fp (of:Int->Int) (p:Int×Int) (v:Int):Int×Int:=if p.2= -1\/of v<p.1 then (of v,v) else p
def bY (k:Int) (l:Λ) (of:Int->Int):Int×Int:=l.foldl (fp of) (k,-1)
theorem nV {s:av} {n:aR} {i:Int} {b:Nat} {x:bB} (h:tj s n i b m) (e:0<=i) (J:s.vars[i.toNat]? =σ x):(gk b m).map (λv:Nat=>(v:Int))=aB x:=by
 obtain⟨_,_,f⟩:=h;obtain⟨rfl,j⟩:=f x e J;unfold gk aB;rw[List.filter_map];congr 1;refine List.filter_congr λq a=>?_;have a:=List.mem_range.1 a;rw[j,decide_eq_true a,T3];rfl
section
variable {w:x3} {ae gT:Nat} {A R:ak} {n:aR} {s:av} {t:aC}
theorem DO {b:Int} (h:bw w ae gT A R n s t) (f:0<=a/\a<=n.k) (j:0<=b/\b<=n.k):am x7 Gp [Γ ae,Δ a,Δ b] w λv w'=>v=Δ (min (a+b) n.k)/\Ext w w':=by
 refine az func59 ?_;refine (k9 h).mono ?_;rintro _ V _ ⟨rfl,m⟩;refine (vq (a:=a) (b:=b) (k:=n.k)).mono ?_;rintro _ aa _ ⟨rfl,p⟩;have hk:=h.2.2.2.1.eg;have e:ny a b n.k= .tuple #[Δ (min (a+b) n.k),Δ 0]:=by
  unfold ny;rw[if_pos (show cq a n.k/\cq b n.k from⟨⟨hk,f⟩,⟨hk,j⟩⟩)]
 rw[e,bo,bp];exact⟨rfl,m.trans p⟩
def hV (n:aR) (s:av) (i:Int):Bool:=decide (0<=i/\i<n.sizes.length)&& !ji s i.toNat
theorem DP {i:Int} (h:bw w ae gT A R n s t):am x7 Gj [Γ ae,Δ i] w λv w'=>v=Δ (if hV n s i=true then 0 else 1)/\Ext w w':=by
 refine az func52 ?_;rw[db dz.u];simp only[Z4,a1];refine aV (λv V=>v= .bool (!hV n s i)/\Ext w V) ?_ ?_
 .rintro _ V ⟨rfl,a⟩;rw[ce];refine⟨λj=>⟨by rw[if_neg (by simpa using j)],a⟩,λj=>⟨by rw[if_pos (by simpa using j)],a⟩⟩
 intro aA p;refine (th h).mono ?_;rintro _ V _ ⟨rfl,a⟩;rw[ce];refine⟨λe=>p _ _ ⟨?_,a⟩,λe=>?_⟩
 .rw[V1] at e;unfold hV;rw[e.2,Y6,Bool.and_false];rfl
 refine (jL (i:=i) (h.ext a)).mono ?_;rintro _ aa _ ⟨⟨b,m,rfl,G,y,B⟩,C⟩;refine (ve (b:=b) (n:=m)).mono ?_;rintro _ H _ ⟨rfl,E⟩;rw[bg];refine p _ _ ⟨?_,(a.trans C).trans E⟩;congr 1;have I:=h.2.2.2.1.vars;unfold hV;by_cases f:0<=i/\i<n.sizes.length
 .obtain⟨x,q⟩:=aH (l:=s.vars) (i:=i.toNat) Ω;obtain⟨z,r⟩:=aH (l:=n.sizes) (i:=i.toNat) Ω;have h1:=(h.2.2.2.1.var i.toNat x z q r).1;have J:=h.2.2.2.1.hv.2.2 z (x5 r);have hm:=(B x f.1 q).1;rw[decide_eq_true f.1,T3] at e;rw[decide_eq_true f,e,decide_eq_false Ω];rfl
 .rw[decide_eq_false f,(y f).2];rfl
def pj (w:x3) (a:Nat) (cap:Array x1) (l:Λ) (of:Int->Int):Prop:=∀ (w':x3) (v:Int),Ext w w'->v∈l->am x7 a (Δ v::cap.toList) w' λr e=>r=Δ (of v)/\Ext w' e
theorem wQ {i:Int} {x:bB} {of:Int->Int} {cap:Array x1} (h:bw w ae gT A R n s t) (M:Laid w) (aM:0<=i) (J:s.vars[i.toNat]? =σ x) (aN:pj w C cap (aB x) of):
  am x7 Gk [Γ ae,Δ i,.func (.func C) #[] cap] w λr w'=>Ext w w'/\r= .tuple #[Δ (bY n.k (aB x) of).1,Δ (bY n.k (aB x) of).2]:=by
 refine h2 func53 ?_;refine be λao V bd N E=>?_;have E:ag V ao ot [.func (.func C) #[] cap]:=E;refine (k9 (h.ext N)).mono ?_;rintro _ aa _ ⟨rfl,G⟩;refine bD ap.i λO bf bh aq au=>?_;refine bD ai.i λga bi bj P av=>?_;have bk:=(N.trans G).size;have z3:=aq.size;have z4:=P.size;refine bq (v:=Δ n.k) ap.i rfl rfl (au.ext P) Φ λbl aw bm aP=>?_;have bn:=au.lt;have bo:=av.lt;refine bq (v:=Δ (-1)) ai.i rfl rfl (av.ab aw Ω) Φ λaQ ax bp aR=>?_;have aS:=aP.ab ax Ω;have az:Ext aa aQ:=((aq.trans P).then aw λr a he=>by have he:r=O:=he;omega).put ax Ω;have aC:=(N.trans G).trans az;refine (jL (i:=i) (h.ext aC)).mono ?_;rintro _ br _ ⟨⟨b,m,rfl,Q⟩,aD⟩;refine (oL (b:=b) (n:=m)).mono ?_;rintro _ U _ ⟨aT,a7,rfl,bt,W⟩;have bu:=Q.1;have aE:=nV Q aM J;have z:=aD.trans aT;have q:=aC.trans z;have bx:=q.size;have bz:=z.size;have bA:=E.lt;have bC:=aD.size;have z12:=G.size;obtain⟨S,H⟩:∃S:ak,S=λr=>r=O\/r=ga:=⟨_,rfl⟩;have I:∀r,S r->w.heap.size<=r:=λr a=>by rw[H] at a;rcases a with rfl|rfl<;>omega
 have X:∀r,S r->r≠ao/\r≠a7:=λr a=>by rw[H] at a;rcases a with rfl|rfl<;>omega
 let st:Nat->Int×Int:=λj=>((aB x).take j).foldl (fp of) (n.k,-1);have aU:=E.ext (G.trans (az.trans z));refine kF.old ⟨_,false,jr,#[Γ a7],_,_,_,_,λj w'=>ah S U w'/\ag w' O ap [Δ (st j).1]/\ag w' ga ai [Δ (st j).2],λ_ _ _=>False,rfl,(oK (g:=a7) Q.1).s,?_,
  λ_ _ J h=>⟨h.1.ext J,h.2.ext J⟩,λ_ _ _ J h=>⟨h.1.trans (J.ab S),h.2.1.ext J,h.2.2.ext J⟩,λ_ _ _ _ _ h=>h,⟨W,M.ext q⟩,⟨ah.refl _ _,aS.ext z,aR.ext z⟩,?_,?_,λ_ _ h=>h.elim,λ_ _ _ h=>h.elim⟩
 .rintro _ _ _ _ ⟨_,_,_,_,rfl⟩;rfl
 .rintro _ j _ aW ⟨_,_⟩ ⟨bE,rfl,v,ad,aX⟩ ⟨y,K,L⟩;cases aX;intro Y f _ _;have aF:(aB x)[j]? =σ (v:Int):=by rw[<-aE,x8,ad];rfl
  have aG:st (j+1)=fp of (st j) v:=by
   show ((aB x).take (j+1)).foldl _ _=_;rw[u9,aF,S1];rfl
  have aY:Ext w Y:=((q.then y λr a h=>by have:=I r h;omega)).trans f;have aZ:=(aU.ab y λh=>(X _ h).1 rfl).ext f;rw[ay (v:=.func (.func C) #[] cap) Ψ (aZ.Qz rfl)];refine am.mono (aN Y v aY (x5 aF)) ?_;rintro _ aH _ ⟨rfl,Z⟩;have ac:=f.trans Z;have af:=K.ext ac;have aj:=L.ext ac;refine aV (λr an=>r= .bool (decide ((st j).2= -1\/of v<(st j).1))/\Ext aH an) ?_ ?_
  .rintro _ an ⟨rfl,B⟩;have aI:=ac.trans B;rw[al];refine⟨λa1=>?_,λa2=>?_⟩
   .refine bq (v:=Δ (of v)) ap.i rfl rfl (af.ext B) Ξ λbF aJ bG a6=>?_;refine bq (v:=Δ (v:Int)) ai.i rfl rfl ((aj.ext B).ab aJ Ω) Ξ λa8 aK bH ba=>?_;have bb:=a6.ab aK Ω;have p:ah S U a8:=((y.trans (aI.ab S)).trans (aJ.mono λr _ h=>by rw[H];exact .inl h)).trans (aK.mono λr _ h=>by rw[H];exact .inr h);have e:st (j+1)=(of v,(v:Int)):=by rw[aG];unfold fp;rw[if_pos a1]
    refine⟨⟨W.ab p λh=>(X _ h).2 rfl,(M.ext (q.then p λr a h=>by have:=I r h;omega))⟩,⟨p,?_,?_⟩,λh=>by cases h⟩
    .rw[e];exact bb
    .rw[e];exact ba
   .have e:st (j+1)=st j:=by rw[aG];unfold fp;rw[if_neg a2]
    have p:ah S U an:=y.trans (aI.ab S);refine⟨⟨W.ab p λh=>(X _ h).2 rfl,(M.ext (q.then p λr a h=>by have:=I r h;omega))⟩,⟨p,?_,?_⟩,λh=>by cases h⟩
    .rw[e];exact af.ext B
    .rw[e];exact aj.ext B
  .intro aA aL;rw[ay (v:=Δ (st j).2) Ψ (aj.Qz rfl),bg,al];refine⟨λh1=>aL _ _ ⟨by rw[decide_eq_true (.inl h1)],Ext.refl _⟩,λh1=>?_⟩;rw[ay (v:=Δ (st j).1) Ψ (af.Qz rfl),aO];refine aL _ _ ⟨?_,Ext.refl _⟩;congr 1;exact decide_eq_decide.2 ⟨.inr,λh=>h.resolve_left h1⟩
 .rintro k aW rfl ⟨y,K,L⟩;intro Y f _ _;have bc:st (gk b m).length=bY n.k (aB x) of:=by
   show ((aB x).take _).foldl _ _=_;rw[b8 (by rw[<-aE,u7];exact p8 _)];rfl
  rw[bc] at K L;rw[ay (v:=Δ (bY n.k (aB x) of).1) Ψ ((K.ext f).Qz rfl),ay (v:=Δ (bY n.k (aB x) of).2) Ψ ((L.ext f).Qz rfl)];intro aH Z _;exact⟨((q.then y λr a h=>by have:=I r h;omega).trans f).trans Z,rfl⟩
end
theorem DQ {x:bB} (h:v∈aB x):0<=v/\v<x.un.length:=by
 unfold aB at h;obtain⟨h,_⟩:=T6.1 h;obtain⟨q,a,rfl⟩:=l9.1 h;have:=List.mem_range.1 a;omega
theorem DR {s:av} {n:aR} {i:Int} {b:Nat} {x:bB} (h:tj s n i b m) (e:0<=i) (J:s.vars[i.toNat]? =σ x):(decide (0<=v/\v<m)&&b.testBit v.toNat)=decide (v∈aB x):=by
 obtain⟨_,_,f⟩:=h;obtain⟨rfl,j⟩:=f x e J;by_cases ad:0<=v/\v<x.un.length
 .rw[decide_eq_true ad,T3,j,decide_eq_true (show v.toNat<x.un.length by omega),T3,show ((v.toNat:Nat):Int)=v by omega];have:=OC ad;cases a:dropped x.mask v with
  |false=>rw[decide_eq_true (this.2 a)];rfl
  |true=>rw[decide_eq_false λh=>by rw[this.1 h] at a;cases a];rfl
 .rw[decide_eq_false ad,decide_eq_false λh=>ad (DQ h)];rfl
def eC (s:av) (j:Nat) (tl:Λ):Int:=if (gL s j tl).isSome then lU s j tl else 0
def eD (n:aR) (s:av) (i v:Int):Int:=if fm n i v then im s i.toNat v.toNat else 0
theorem DS {s:av} (a:bt k sizes s):0<=eC s j tl/\eC s j tl<=k:=by
 have hk:=a.eg;unfold eC;cases q:gL s j tl with
 |none=>simp;omega
 |some p=>
  obtain⟨r,f,af,w,m,hm,h,rfl⟩:=wJ a q;rw[T1,if_pos rfl];have e:lU s j tl=f.cs.getD m 0:=by
   unfold lU bj;rw[af];simp only;rw[hm];rfl
  rw[e,v8,x6 h];exact (a.funs f (x5 af)).1.hT _ (R8 h)
theorem pk {n:aR} {s:av} {i:Int} (a:bt n.k n.sizes s):0<=eD n s i v/\eD n s i v<=n.k:=by
 have hk:=a.eg;have m:=a.vars;unfold eD;split
 .rename_i h;obtain⟨x,e,f,_⟩:=h.var a;obtain⟨z,j⟩:∃z,n.sizes[i.toNat]? =σ z:=⟨_,x6 (by have:=(x4.1 e).1;omega)⟩;have:=(a.var i.toNat x z e j).2.1;unfold im;rw[e];simp only;rw[v8,x6 f];exact this _ (R8 f)
 .omega
section
variable {w:x3} {ae gT:Nat} {A R:ak} {n:aR} {s:av} {t:aC}
theorem DT (h:bw w ae gT A R n s t) (f:aF .i64 w aI tl) (m:∀e w',Ext w w'->K (.tuple #[Δ (eC s j tl),Δ e]) w'):am x7 yY [Γ ae,Δ (j:Int),aI] w K:=by
 refine (wK h f).mono ?_;rintro _ V _ ⟨rfl,a⟩;have:=m;unfold eC at this;split
 .rename_i U;rw[if_pos U] at this;exact this 0 V a
 .rename_i U;rw[if_neg U] at this;exact this 1 V a
theorem DU {i:Int} (h:bw w ae gT A R n s t) (f:∀e w',Ext w w'->K (.tuple #[Δ (eD n s i v),Δ e]) w'):am x7 y3 [Γ ae,Δ i,Δ v] w K:=by
 refine (ph h).mono ?_;rintro _ V _ ⟨rfl,a⟩;have:=f;unfold eD at this;split
 .rename_i U;rw[if_pos U] at this;exact this 0 V a
 .rename_i U;rw[if_neg U] at this;exact this 1 V a
theorem DV {i:Int} (h:bw w ae gT A R n s t):am x7 Gl [Γ ae,Δ i] w λr w'=>Ext w w'/\ ∃cap,r= .func (.func rH) #[] cap/\ ∀l,pj w' rH cap l (eD n s i):=by
 refine az func54 ?_;refine be λg1 V z q a=>?_;refine be λx aa B m f=>?_;rw[ix];have p:=q.trans m;refine⟨p,_,rfl,λl w' v j _=>?_⟩;refine az func126 ?_;have a:ag V g1 dz [Γ ae]:=a;have f:ag aa x ai [Δ i]:=f;rw[ay (v:=Γ ae) Ψ (((a.ext m).ext j).Qz rfl),ay (v:=Δ i) Ψ ((f.ext j).Qz rfl)];refine DU (h.ext (p.trans j)) λe C y=>?_;rw[bo,bp];exact⟨rfl,y⟩
theorem tq {i:Int} (f:bt n.k n.sizes s) (h:hV n s i=true):0<=i/\ ∃x,s.vars[i.toNat]? =σ x/\x.gone=0:=by
 unfold hV at h;rw[V1] at h;have h1:=of_decide_eq_true h.1;have j:=f.vars;obtain⟨x,e⟩:=aH (l:=s.vars) (i:=i.toNat) Ω;have a:=h.2;unfold ji at a;rw[e] at a;exact⟨h1.1,x,e,by simpa using a⟩
theorem OM {i:Int} (h:bw w ae gT A R n s t) (m:Laid w):am x7 yV [Γ ae,Δ i] w λr w'=>Ext w w'/\(hV n s i=false->r= .tuple #[Δ 0,Δ (-1),Δ 1])/\
  ∀x,hV n s i=true->s.vars[i.toNat]? =σ x->r= .tuple #[Δ (bY n.k (aB x) (eD n s i)).1,Δ (bY n.k (aB x) (eD n s i)).2,Δ 0]:=by
 refine az func15 ?_;refine (DP h).mono ?_;rintro _ V _ ⟨rfl,a⟩;cases ad:hV n s i with
 |false=>
  rw[if_neg Φ,bm,al];exact⟨λ_=>⟨a,λ_=>rfl,λ_ h=>by cases h⟩,λh=>absurd Φ h⟩
 |true=>
  obtain⟨p,x,f,_⟩:=tq h.2.2.2.1 ad;rw[if_pos rfl,bm,al];refine⟨λh=>absurd rfl h,λ_=>?_⟩;refine (DV (i:=i) (h.ext a)).mono ?_;rintro _ aa _ ⟨q,cap,rfl,y⟩;have e:=a.trans q;refine (wQ (h.ext e) (m.ext e) p f (y _)).mono ?_;rintro _ B _ ⟨z,rfl⟩;rw[bo,bp];exact⟨e.trans z,(λh=>by cases h),λC _ j=>by rw[f] at j;cases j;rfl⟩
theorem la {f:cb} (h:bw w ae gT A R n s t) (af:s.funs[j]? =σ f):am x7 pH [Γ ae,Δ (j:Int)] w λr w'=>Ext w w'/\ ∃g,w.heap.size<=g/\au .i64 ai w' g r f.sc:=by
 have G:=(x4.1 af).1;refine az func42 ?_;refine aV (λv V=>v= .bool false/\Ext w V) ?_ ?_
 .rintro _ V ⟨rfl,a⟩;rw[a1];obtain⟨H,I,J,K,a7,M,L,N,x,O,P,Q,m,e⟩:=(h.ext a).1.parts;obtain⟨y,q⟩:∃y,L[j]? =σ y:=⟨_,x6 (by rw[e.1];omega)⟩;obtain⟨z,_,_⟩:=e.2 j y f q af;rw[aQ cI.p 3 x rfl,dx rfl fv.u fb.i m (by rw[e.1];omega),aU fb.p rfl,ay (v:=y.aG) Ψ (m.range q 0 _ rfl)];have S:f.sc.length<=6:=(h.2.2.2.1.funs f (x5 af)).1.scope.2;refine (kd z.ls Ω).mono ?_;rintro v aa _ ⟨B,g,U,hm⟩;have:=a.size;exact⟨a.trans B,g,Ω,hm⟩
 intro aA C;rw[aO,al];refine⟨λW=>Ω,λ_=>?_⟩;refine (tg h).mono ?_;rintro _ X _ ⟨rfl,E⟩;rw[cP];exact C _ _ ⟨by rw[decide_eq_false Ω],E⟩
structure jM (s:av) (j pos v:Int) (f:cb) (u:Int) (x:bB):Prop where
 wR:0<=j
 af:s.funs[j.toNat]? =σ f
 live:f.live≠0
 dS:0<=pos
 hu:f.sc[pos.toNat]? =σ u
 nT:0<=u
 J:s.vars[u.toNat]? =σ x
 ad:v∈aB x
theorem DW {j:Int} (h:bw w ae gT A R n s t):am x7 Gd [Γ ae,Δ j,Δ pos,Δ v] w λr w'=>Ext w w'/\ ∃e:Int,r=Δ e/\(e=0\/e=1)/\(e=0↔ ∃f u x,jM s j pos v f u x):=by
 have ap:=h.2.2.2.1.vars;refine az func41 ?_;rw[db dz.u];simp only[Z4,a1];have key:∀ (K:x1->x3->Prop),(∀r w',Ext w w'->(∀f,0<=j->s.funs[j.toNat]? =σ f->aF .i64 w' r f.sc)->K r w')->am x7 pH [Γ ae,Δ j] w K:=λK M=>by
  by_cases N:0<=j/\j<s.funs.length
  .obtain⟨f,af⟩:=aH (l:=s.funs) (i:=j.toNat) Ω;have:=la h af;rw[show ((j.toNat:Nat):Int)=j by omega] at this;refine this.mono ?_;rintro r V _ ⟨p,g,_,hm⟩;exact M r V p λq _ O=>by rw[af] at O;cases O;exact hm.ls
  .refine (DL h N).mono ?_;rintro r V _ ⟨rfl,p⟩;exact M _ V p λf C af=>absurd ⟨C,by have:=(x4.1 af).1;omega⟩ N
 refine key _ λr V p ag=>?_;refine aV (λah aa=>∃b,ah= .bool b/\(b=false↔ ∃f u x,jM s j pos v f u x)/\Ext w aa) ?_ ?_
 .rintro _ aa ⟨b,rfl,E,P⟩;rw[ce];refine⟨λQ=>⟨P,1,rfl,.inr rfl,⟨(λh=>by cases h),λh=>by rw[E.2 h] at Q;cases Q⟩⟩,λaf=>⟨P,0,rfl,.inl rfl,⟨λ_=>E.1 af,λ_=>rfl⟩⟩⟩
 intro aA G;refine (ti (j:=j) (h.ext p)).mono ?_;rintro _ aq _ ⟨rfl,S⟩;have z:=p.trans S;rw[bG,ce];refine⟨λH=>G _ _ ⟨true,rfl,⟨(λh=>by cases h),λ⟨f,u,x,a⟩=>?_⟩,z⟩,λI=>?_⟩
 .rw[decide_eq_true a.wR,T3] at H;unfold fo at H;rw[a.af] at H;simp[a.live] at H
 have I:0<=j/\fo s j.toNat=true:=by simpa using I
 obtain⟨C,B⟩:=I;obtain⟨f,af,aj⟩:∃f,s.funs[j.toNat]? =σ f/\f.live≠0:=by
  unfold fo at B;cases af:s.funs[j.toNat]? with
  |none=>rw[af] at B;cases B
  |some f=>rw[af] at B;exact⟨f,rfl,by simpa using B⟩
 have U:=(ag f C af).ext S;have W:=(h.2.2.2.1.funs f (x5 af)).1;have same:∀ {q u x},jM s j pos v q u x->q=f:=λa=>by have:=a.af;rw[af] at this;cases this;rfl
 rw[aO,al];refine⟨λau=>G _ _ ⟨true,rfl,⟨(λh=>by cases h),λ⟨f,u,x,a⟩=>by have:=a.dS;omega⟩,z⟩,λav=>?_⟩;rw[aW an.u U,cP,al];refine⟨λaw=>G _ _ ⟨true,rfl,⟨(λh=>by cases h),λ⟨q,u,x,a⟩=>?_⟩,z⟩,λax=>?_⟩
 .obtain rfl:=same a;have:=(x4.1 a.hu).1;omega
 obtain⟨u,hu⟩:=aH (l:=f.sc) (i:=pos.toNat) Ω;have X:=x5 hu;have Y:=(W.scope.1 u X).1;have ay:=W.vars u X;obtain⟨x,L⟩:=aH (l:=s.vars) (i:=u.toNat) Ω;rw[fM (y:=pos) (i:=pos.toNat) Ω an.u ai.i Ψ U hu];refine (jL (i:=u) (h.ext z)).mono ?_;rintro _ aB _ ⟨⟨b,m,rfl,Z⟩,ak⟩;refine (DD (v:=v) Z.1).mono ?_;rintro _ aC _ ⟨rfl,ao⟩;rw[DR Z Y L,bG];refine G _ _ ⟨_,rfl,⟨λE=>⟨f,u,x,C,af,aj,Ω,hu,Y,L,by simpa using E⟩,λ⟨q,u',aD,a⟩=>?_⟩,(z.trans ak).trans ao⟩;obtain rfl:=same a;have ab:=a.hu;rw[hu] at ab;cases ab;have ac:=a.J;rw[L] at ac;cases ac;rw[decide_eq_true a.ad];rfl
end
def cj (s:av) (i:Int):Λ:=match s.vars[i.toNat]? with
 |some x=>aB x
 |none=>[]
def eV (s:av) (sc:Λ) (pos:Int):Nat->Nat->Λ->List (Λ)
 |0,_,tl=>[tl]
 |m+1,p,tl=>if (p:Int)=pos then eV s sc pos m (p+1) tl else (cj s (sc.getD p 0)).flatMap λv=>eV s sc pos m (p+1) (tl.set p v)
def pm (p:Nat) (pos:Int) (a b:Λ):Prop:=a.length=b.length/\ ∀q:Nat,q<p\/(q:Int)=pos->a[q]? =b[q]?
theorem pm.set {p:Nat} {a b:Λ} (h:pm p pos a b) (f:(p:Int)≠pos) (v:Int):pm (p+1) pos (a.set p v) (b.set p v):=by
 refine⟨by rw[c8,c8,h.1],λq j=>?_⟩;rw[Y7,Y7,h.1];by_cases e:p=q
 .rw[if_pos e,if_pos e]
 .rw[if_neg e,if_neg e];exact h.2 q Ω
theorem wS {s:av} {sc:Λ} {pos:Int}:∀ (m p:Nat) (a b:Λ),a.length=p+m->pm p pos a b->eV s sc pos m p a=eV s sc pos m p b
 |0,p,a,b,j,h=>by
  unfold eV;congr 1;refine Y3 λq=>?_;by_cases e:q<p
  .exact h.2 q (.inl e)
  .rw[Z6 Ω,Z6 (by have:=h.1;omega)]
 |m+1,p,a,b,j,h=>by
  unfold eV;split
  .rename_i f;refine wS m (p+1) a b Ω ⟨h.1,λq e=>h.2 q ?_⟩;omega
  .rename_i f;congr 1;funext v;exact wS m (p+1) _ _ (by rw[c8];omega) (h.set f v)
section
variable {ae gT:Nat} {A R:ak} {n:aR} {s:av} {t:aC}
theorem ON {P:Nat} {cap:Array x1} {M:ak} {I:List (Λ)->x3->Prop} (bA:bt n.k n.sizes s) (bB:∀u∈sc,0<=u/\u<n.sizes.length) (b4:sc.length<=6)
  (a1:∃c,aI= .slice (σ ⟨gt,0,ν⟩) sc.length c) (bC:M gt) (aL:∀d w,I d w->bw w ae gT A R n s t/\Laid w/\aF .i64 w aG sc/\ ∀r,M r->r<w.heap.size) (J:∀d w w',Ext w w'->I d w->I d w') (bD:∀d w w',ah (λr=>r=gt) w w'->I d w->I d w')
  (bE:∀d tl w,I d w->au .i64 ai w gt aI tl->tl.length=sc.length->am x7 P cap.toList w λ_ w'=>I (d++[tl]) w'/\au .i64 ai w' gt aI tl/\ah M w w'):
  ∀ (m p:Nat) (tl:Λ) (d:List (Λ)) (w:x3),sc.length=p+m->tl.length=sc.length->I d w->au .i64 ai w gt aI tl->
   am x7 Gf [Γ ae,aG,aI,Δ (p:Int),Δ pos,.func (.func P) #[] cap] w λ_ w'=>∃Z,pm p pos Z tl/\I (d++eV s sc pos m p tl) w'/\au .i64 ai w' gt aI Z/\ah M w w':=by
 intro m;induction m with
 |zero=>
  intro p tl d w bF aM af hm;obtain⟨a2,a6,U,a8⟩:=aL d w af;obtain⟨_,_,_,aN⟩:=c4 U;obtain⟨c,ba⟩:=id a1;refine h2 func44 ?_;refine be λg1 V bG aC aj=>?_;refine be λaq aa bH av f=>?_;refine be λaD bI bJ Q S=>?_;refine be λaO bK bL L y=>?_;refine be λbb bM bN E ao=>?_;refine be λaQ a bO z N=>?_;have B:=((((aC.trans av).trans Q).trans L).trans E).trans z;have f:ag a aq an [aG]:=by rw[aN] at f ⊢;exact (((f.ext Q).ext L).ext E).ext z
  have y:ag a aO ai [Δ (p:Int)]:=(y.ext E).ext z;have N:ag a aQ zp [.func (.func P) #[] cap]:=N;rw[ay (v:=Δ (p:Int)) Ψ (y.Qz rfl),ay (v:=aG) Ψ (f.Qz rfl),aW an.u (U.ext B),bg,al];refine⟨λ_=>?_,λh=>absurd Ω h⟩;rw[ay (v:=.func (.func P) #[] cap) Ψ (N.Qz rfl)];refine am.mono (bE d tl a (J d w a B af) (hm.ext B) aM) ?_;rintro _ bd _ ⟨h1,C,W⟩;intro bf G _;exact⟨tl,⟨rfl,λ_ _=>rfl⟩,J _ _ _ G h1,C.ext G,((B.ab M).trans W).trans (G.ab M)⟩
 |succ m bh=>
  intro p tl d w bF aM af hm;obtain⟨a2,a6,U,a8⟩:=aL d w af;obtain⟨_,_,_,aN⟩:=c4 U;obtain⟨c,ba⟩:=id a1;refine h2 func44 ?_;refine be λg1 V bG aC aj=>?_;refine be λaq aa bH av f=>?_;refine be λaD bI bJ Q S=>?_;refine be λaO bK bL L y=>?_;refine be λbb bM bN E ao=>?_;refine be λaQ a bO z N=>?_;have B:=((((aC.trans av).trans Q).trans L).trans E).trans z;have aj:ag a g1 dz [Γ ae]:=((((aj.ext av).ext Q).ext L).ext E).ext z;have f:ag a aq an [aG]:=by rw[aN] at f ⊢;exact (((f.ext Q).ext L).ext E).ext z
  have S:ag a aD an [aI]:=by rw[ba] at S ⊢;exact ((S.ext L).ext E).ext z
  have y:ag a aO ai [Δ (p:Int)]:=(y.ext E).ext z;have ao:ag a bb ai [Δ pos]:=ao.ext z;have N:ag a aQ zp [.func (.func P) #[] cap]:=N;have aE:∀ {O:x3} {K:x1->Prop},ag O aq an [aG]->K aG->ac x7 (u4 an (Γ aq)) O K:=λaw aR=>by rw[ay (v:=aG) Ψ (aw.Qz rfl)];exact aR
  have aS:∀ {O:x3} {K:x1->Prop},ag O aD an [aI]->K aI->ac x7 (u4 an (Γ aD)) O K:=λaw aR=>by rw[ay (v:=aI) Ψ (aw.Qz rfl)];exact aR
  rw[ay (v:=Δ (p:Int)) Ψ (y.Qz rfl)];refine aE f ?_;rw[aW an.u (U.ext B),bg,al];refine⟨λh=>Ω,λ_=>?_⟩;rw[ay (v:=Δ (p:Int)) Ψ (y.Qz rfl),ay (v:=Δ pos) Ψ (ao.Qz rfl),bg,al];refine⟨λhe=>?_,λbi=>?_⟩
  .rw[ay (v:=Γ ae) Ψ (aj.Qz rfl)];refine aE f (aS S ?_);rw[ay (v:=Δ (p:Int)) Ψ (y.Qz rfl),aP,wrap_i64 Ω Ω,ay (v:=Δ pos) Ψ (ao.Qz rfl),ay (v:=.func (.func P) #[] cap) Ψ (N.Qz rfl)];refine (bh (p+1) tl d a Ω aM (J d w a B af) (hm.ext B)).mono ?_;rintro _ bd _ ⟨Z,h1,C,W,ax⟩;intro bf G _;refine⟨Z,⟨h1.1,λq bj=>h1.2 q Ω⟩,?_,W.ext G,((B.ab M).trans ax).trans (G.ab M)⟩;have:eV s sc pos (m+1) p tl=eV s sc pos m (p+1) tl:=by rw[eV,if_pos he]
   rw[this];exact J _ _ _ G C
  intro bd ap _ _;have bk:=B.trans ap;obtain⟨u,hu⟩:=aH (l:=sc) (i:=p) Ω;obtain⟨bP,b5⟩:=bB u (x5 hu);have b6:=bA.vars;obtain⟨x,bl⟩:=aH (l:=s.vars) (i:=u.toNat) Ω;have bQ:cj s (sc.getD p 0)=aB x:=by unfold cj;rw[v8,hu,V9,bl]
  rw[ay (v:=Γ ae) Ψ ((aj.ext ap).Qz rfl)];refine aE (f.ext ap) ?_;rw[ay (v:=Δ (p:Int)) Ψ ((y.ext ap).Qz rfl),bc an.u ai.i Ψ (U.ext bk) hu];refine (jL (i:=u) (a2.ext bk)).mono ?_;rintro _ bf _ ⟨⟨b,bR,rfl,bm⟩,G⟩;refine (oL (b:=b) (n:=bR)).mono ?_;rintro _ az _ ⟨bS,a7,rfl,b7,bn⟩;have bo:=nV bm bP bl;have aT:=(ap.trans G).trans bS;have aJ:=B.trans aT;have b9:=aC.size;have ca:=av.size;have z3:=Q.size;have z4:=L.size;have z5:=E.size;have cb:=z.size;have cc:=aT.size;have cd:=(ap.trans G).size;have out:∀ {r:Nat},w.heap.size<=r->¬M r:=λh1 C=>by have:=a8 _ C;omega
  have bT:∀j v,(aB x)[j]? =σ v->((aB x).take (j+1)).flatMap (λv=>eV s sc pos m (p+1) (tl.set p v))=((aB x).take j).flatMap (λv=>eV s sc pos m (p+1) (tl.set p v))++eV s sc pos m (p+1) (tl.set p v):=λj v bp=>by
   rw[u9,bp,o9,List.flatMap_append,List.flatMap_singleton]
  have bU:eV s sc pos (m+1) p tl=(aB x).flatMap λv=>eV s sc pos m (p+1) (tl.set p v):=by rw[eV,if_neg bi,bQ]
  refine kF.old ⟨_,false,jr,#[Γ a7],_,_,_,_,λj w'=>∃H,pm p pos H tl/\I (d++((aB x).take j).flatMap λv=>eV s sc pos m (p+1) (tl.set p v)) w'/\au .i64 ai w' gt aI H/\ah M az w',λ_ _ _=>False,rfl,(oK (g:=a7) bm.1).s,?_,
   λ_ _ J h=>⟨h.1.ext J,h.2.ext J⟩,λ_ _ _ aU ⟨H,h1,C,W,ax⟩=>⟨H,h1,J _ _ _ aU C,W.ext aU,ax.trans (aU.ab M)⟩,λ_ _ _ _ _ h=>h,⟨bn,a6.ext aJ⟩,⟨tl,⟨rfl,λ_ _=>rfl⟩,by simpa using J d w az aJ af,hm.ext aJ,ah.refl _ _⟩,?_,?_,λ_ _ h=>h.elim,λ_ _ _ h=>h.elim⟩
  .rintro _ _ _ _ ⟨_,_,_,_,rfl⟩;rfl
  .rintro _ j _ bV ⟨_,_⟩ ⟨bp,rfl,v,ad,bW⟩ ⟨H,aA,aK,aV,aX⟩;cases bW;intro bq X _ _;have bX:(aB x)[j]? =σ (v:Int):=by rw[<-bo,x8,ad];rfl
   have aY:ah M az bq:=aX.trans (X.ab M);have aZ:∀ {O:x3} {g:Nat} {e:r9} {cs:List x1},ah M az O->w.heap.size<=g->ag a g e cs->ag O g e cs:=λbY bZ aw=>(aw.ext aT).ab bY (out bZ);have br:=aV.ext X;have b0:=aA.1;refine aS (aZ aY Ω S) ?_;rw[ay (v:=Δ (p:Int)) Ψ ((aZ aY Ω y).Qz rfl),hj rfl an.u ai.i br Ω];refine hl ai.i br Ω λbu bx ce b1=>?_;have Y:ah M az bu:=aY.trans (bx.mono λr _ h=>by have h:r=gt:=h;rw[h];exact bC);have b2:=bD _ _ _ bx (J _ _ _ X aK);rw[ay (v:=Γ ae) Ψ ((aZ Y Ω aj).Qz rfl)];refine aE (aZ Y Ω f) (aS (aZ Y Ω S) ?_);rw[ay (v:=Δ (p:Int)) Ψ ((aZ Y Ω y).Qz rfl),aP,wrap_i64 Ω Ω,ay (v:=Δ pos) Ψ ((aZ Y Ω ao).Qz rfl),ay (v:=.func (.func P) #[] cap) Ψ ((aZ Y Ω N).Qz rfl)];refine (bh (p+1) (H.set p v) _ bu Ω (by rw[c8];omega) b2 b1).mono ?_;rintro _ cg _ ⟨Z,h1,C,W,ax⟩;have bz:=Y.trans ax;have hw:=wS (s:=s) (sc:=sc) m (p+1) (H.set p (v:Int)) (tl.set p (v:Int)) (by rw[c8];omega) (aA.set bi v);rw[hw,U6,<-bT j v bX] at C;refine⟨⟨bn.ab bz (out Ω),(aL _ _ C).2.1⟩,⟨Z,⟨by rw[h1.1,c8];exact b0,λq bj=>?_⟩,C,W,bz⟩,λh=>by cases h⟩;have b3:p≠q:=Ω
   rw[h1.2 q Ω,Y7,if_neg b3];exact aA.2 q bj
  .rintro k bV rfl ⟨H,aA,aK,aV,aX⟩;intro bq X _;rw[b8 (by rw[<-bo,u7];exact p8 _),<-bU] at aK;exact⟨H,aA,J _ _ _ X aK,aV.ext X,((aJ.ab M).trans aX).trans (X.ab M)⟩
end
def hc (s:av) (pos:Nat) (v:Int):Λ->Nat->List (Λ)
 |[],_=>[]
 |u::sc,p=>(if p=pos then[v] else cj s u)::hc s pos v sc (p+1)
def bL (s:av) (sc:Λ) (pos:Nat) (v:Int):List (Λ):=gp (hc s pos v sc 0)
theorem wT {s:av} {sc:Λ} {pos:Nat} {v:Int}:∀ (m p:Nat) (tl:Λ),sc.length=p+m->tl.length=sc.length->(p<=pos->tl[pos]? =σ v)->
  eV s sc pos m p tl=(gp (hc s pos v (sc.drop p) p)).map (tl.take p++ ·)
 |0,p,tl,h1,a,f=>by
  rw[List.drop_eq_nil_of_le Ω,b8 Ω];unfold eV hc gp;rw[List.map_singleton,U4]
 |m+1,p,tl,h1,a,f=>by
  have q:p<sc.length:=Ω
  obtain⟨u,hu⟩:=aH (l:=sc) q;have y:sc.drop p=u::sc.drop (p+1):=by rw[X5 q,(x4.1 hu).2]
  have z:sc.getD p 0=u:=by rw[v8,hu];rfl
  rw[y];unfold eV hc;rw[gp];by_cases j:p=pos
  .have w:=f Ω;rw[if_pos Ω,if_pos j,List.flatMap_singleton,wT m (p+1) tl Ω a (λ_=>w),T7];refine List.map_congr_left λr _=>?_;rw[u9,j,w];simp
  .rw[if_neg Ω,if_neg j,z,List.map_flatMap];congr 1;funext x;have e:(tl.set p x).take (p+1)=tl.take p++[x]:=by rw[u9,c7 Ω,List.take_set_of_le (p8 _)];rfl
   rw[wT m (p+1) (tl.set p x) Ω (by rw[c8];exact a) (λh=>by rw[Y0 Ω];exact f Ω),T7,e];refine List.map_congr_left λr _=>?_;simp
theorem OO {s:av} {pos:Nat} (h:pos<sc.length):eV s sc pos sc.length 0 ((r8 sc.length 0).set pos v)=bL s sc pos v:=by
 rw[wT (v:=v) sc.length 0 _ Ω Ξ (λ_=>by rw[c7 (by simpa using h)])];unfold bL;simp
def nW (s:av) (pos:Nat) (v:Int):Λ->Nat->List (Int->Bool)
 |[],_=>[]
 |u::sc,p=>(λx=>(decide (p=pos->x=v))&&decide (x∈cj s u))::nW s pos v sc (p+1)
theorem OP (h:0<=v/\v<k):(hy k).filter (λx=>decide (x=v))=[v]:=by
 have f:(hy k).Nodup:=by
  unfold hy;exact List.Pairwise.map _ (λa b q=>Ω) List.nodup_range
 have hm:v∈hy k:=tp.2 h;generalize hy k=l at f hm;induction l with
 |nil=>cases hm
 |cons a l m=>
  have j:=List.nodup_cons.1 f;by_cases e:a=v
  .subst e;rw[List.filter_cons_of_pos Ξ,List.filter_eq_nil_iff.2 λx J=>by simp;intro p;exact j.1 (p▸J)]
  .rw[List.filter_cons_of_neg (by simpa using e)];exact m j.2 ((W9.1 hm).resolve_left (Ne.symm e))
section
variable {k:Int} {sizes:Λ} {s:av} {v:Int} {pos:Nat}
theorem OQ {u:Int} (a:bt k sizes s) (h:0<=u/\u<sizes.length):(hy (sizes.getD u.toNat 0)).filter (λx=>decide (x∈cj s u))=cj s u:=by
 have q:=a.vars;obtain⟨x,J⟩:=aH (l:=s.vars) (i:=u.toNat) Ω;obtain⟨z,f⟩:=aH (l:=sizes) (i:=u.toNat) Ω;have h1:=(a.var _ x z J f).1;have e:cj s u=aB x:=by unfold cj;rw[J]
 have j:sizes.getD u.toNat 0=z:=by rw[v8,f];rfl
 have r:=a.hv.2.2 z (x5 f);have m:aB x=(hy z).filter λv=>!dropped x.mask v:=by unfold aB hy;rw[h1]
 rw[e,j,m];refine List.filter_congr λy p=>?_;simp[T6,p]
theorem DX (m:bt k sizes s):∀ (sc:Λ) (p:Nat),(∀u∈sc,0<=u/\u<sizes.length)->(∀u,p<=pos->sc[pos-p]? =σ u->v∈cj s u)->
  hc s pos v sc p=(((bS sizes sc).map hy).zip (nW s pos v sc p)).map λq=>q.1.filter q.2
 |[],p,_,_=>rfl
 |u::sc,p,hu,ad=>by
  have r:=DX m sc (p+1) (λu h=>hu u (.tail _ h)) λu' a h=>ad u' Ω (by rw[show pos-p=(pos-(p+1))+1 by omega];exact h);have w:=hu u (.head _);have f:=OQ (s:=s) m w;show (if p=pos then[v] else cj s u)::hc s pos v sc (p+1)=(hy (sizes.getD u.toNat 0)).filter (λx=>decide (p=pos->x=v)&&decide (x∈cj s u))::((((bS sizes sc).map hy).zip (nW s pos v sc (p+1))).map λq=>q.1.filter q.2);rw[<-r];congr 1;by_cases a:p=pos
  .rw[if_pos a];have j:v∈cj s u:=ad u Ω (by rw[a,V7];rfl);have y:v∈hy (sizes.getD u.toNat 0):=by rw[<-f] at j;exact (T6.1 j).1
   rw[<-OP (tp.1 y)];refine List.filter_congr λx _=>?_;by_cases e:x=v
   .subst e;simp[j]
   .simp[e,a]
  .rw[if_neg a,<-f];refine (List.filter_congr λx J=>?_).symm;rw[f];simp[a]
theorem DY:∀ (sc:Λ) (p:Nat),(nW s pos v sc p).length=sc.length
 |[],_=>rfl
 |u::sc,p=>by unfold nW;rw[c9,DY sc (p+1),c9]
theorem wU (a:bt k sizes s) (e:∀u∈sc,0<=u/\u<sizes.length) (ad:∀u,sc[pos]? =σ u->v∈cj s u):
  bL s sc pos v=(bi (bS sizes sc)).filter (mE (nW s pos v sc 0)):=by
 unfold bL;rw[DX a sc 0 e λu _ h=>ad u h,DM _ _ (by rw[DY,u7];unfold bS;rw[u7]),wO]
end
theorem wV {k:Int}:∀ (l:Λ) (z:Int),z<=k->(∀c∈l,0<=c)->l.foldl (λa c=>min (a+c) k) z=min (z+l.sum) k
 |[],z,h,_=>Θ
 |c::l,z,h,e=>by
  have U:∀ (l:Λ),(∀c∈l,0<=c)->0<=l.sum:=λl=>by
   induction l with
   |nil=>intro _;simp
   |cons a l f=>intro h;have:=f λc e=>h c (.tail _ e);have:=h a (.head _);rw[List.sum_cons];omega
  have h1:=e c (.head _);have j:=U l λc h=>e c (.tail _ h);rw[U8,wV l _ Ω λc h=>e c (.tail _ h),List.sum_cons];omega
def du (p:bB×Int):Int:=if p.1.gone≠0 then 0 else p.1.un.getD p.2.toNat 0
def e8 (a:Λ) (f:cb):Int:=if f.live≠0 then bj f.aj f.cs (qI a f.sc) else 0
theorem foldl_map' {α β e:Type} (g:α->β) (h:e->β->e) (h':e->α->e) (P:e->Prop) (aJ:∀c a,P c->h' c a=h c (g a)) (f:∀c a,P c->P (h' c a)):∀ (l:List α) (c:e),P c->l.foldl h' c=(l.map g).foldl h c
 |[],_,_=>rfl
 |a::l,c,j=>by
  rw[U8,U7,U8,<-aJ c a j];exact foldl_map' g h h' P aJ f l _ (f c a j)
theorem wW {i:Nat} {x:Int} (h:l[i]? =σ x):(l.set i y).sum=l.sum-x+y:=by
 induction l generalizing i with
 |nil=>simp at h
 |cons a l e=>
  cases i with
  |zero=>simp at h;subst h;rw[List.set_cons_zero,List.sum_cons,List.sum_cons];omega
  |succ i=>
   rw[List.set_cons_succ,List.sum_cons,List.sum_cons,e (by simpa using h)];omega
def dJ (k a c:Int):Int:=if a=k then k else a-c
def dK (k a c:Int):Int:=min (a+c) k
theorem tr {r g u:Int} (a:0<=r) (e:c<=g/\g<=k) (hu:0<=u/\u<=k) (f:0<=c):min (r+dJ k g c+dK k u c) k=min (r+g+u) k:=by
 unfold dJ dK;split<;>omega
theorem qS:∀ (l:Λ),(∀c∈l,0<=c)->0<=l.sum
 |[],_=>Ξ
 |a::l,h=>by have:=qS l λc e=>h c (.tail _ e);have:=h a (.head _);rw[List.sum_cons];omega
theorem qT:∀ {l:Λ} {i:Nat} {x:Int},(∀c∈l,0<=c)->l[i]? =σ x->x<=l.sum
 |[],_,_,_,h=>by simp at h
 |a::l,0,x,e,h=>by
  simp at h;subst h;have:=qS l λc h=>e c (.tail _ h);rw[List.sum_cons];omega
 |a::l,i+1,x,e,h=>by
  have:=qT (λc h=>e c (.tail _ h)) (show l[i]? =σ x by simpa using h);have:=e a (.head _);rw[List.sum_cons];omega
theorem DZ {i:Nat} (hk:0<=k) (h:∀c∈l,0<=c/\c<=k):0<=l.getD i 0/\l.getD i 0<=k:=by
 rw[v8];cases a:l[i]? with
 |none=>exact⟨Int.le_refl _,hk⟩
 |some c=>exact h c (x5 a)
theorem D0 {f:Int->Int} {m:Int} (U:dG aj) (h:cs.length=(bi aj).length) (hi:ci aj t 0=σ m):bj aj (dy f L aj cs) t=if t∈L then f (bj aj cs t) else bj aj cs t:=by
 have a:=kg U hi;have j:=(x4.1 a).1;obtain⟨c,e⟩:=aH (l:=cs) (i:=m.toNat) Ω;have h1:=pi (f:=f) (L:=L) a e;unfold bj;rw[hi];simp only;rw[v8,h1,v8,e,V9,V9]
section
variable {k:Int} {sizes a:Λ} {s:av}
theorem OR {i:Nat} {p:bB×Int} (e:bt k sizes s) (h:(s.vars.zip a)[i]? =σ p):0<=du p/\du p<=k:=by
 have hk:=e.eg;obtain⟨h1,_⟩:=List.getElem?_zip_eq_some.1 h;have f:=(x4.1 h1).1;have j:=e.vars;have:=e.var i p.1 _ h1 (x6 Ω);unfold du;split
 .omega
 .exact DZ Ω this.2.1
theorem OS {f:cb} (e:bt k sizes s) (h:f∈s.funs):0<=e8 a f/\e8 a f<=k:=by
 have hk:=e.eg;have:=(e.funs f h).1.hT;unfold e8;split
 .exact (sV e.eg λc j=>⟨e.eg,this c j⟩).2
 .omega
theorem ts (e:bt k sizes s):∀c∈(s.vars.zip a).map du,0<=c:=λc f=>by
 obtain⟨p,h,rfl⟩:=l9.1 f;obtain⟨i,hi⟩:=X1.1 h;exact (OR e hi).1
theorem qU (e:bt k sizes s):∀c∈s.funs.map (e8 a),0<=c:=λc f=>by
 obtain⟨p,h,rfl⟩:=l9.1 f;exact (OS e h).1
theorem nX (e:bt k sizes s):gX k s a=if (s.vars.zip a).all ig then min (s.zero+((s.vars.zip a).map du).sum+(s.funs.map (e8 a)).sum) k else k:=by
 have h1:(s.vars.zip a).foldl (qJ k) s.zero=((s.vars.zip a).map du).foldl (λx c=>min (x+c) k) s.zero:=by
  refine foldl_map' du (λx c=>min (x+c) k) (qJ k) (λc=>c<=k) (λc p f=>?_) (λc p f=>?_) _ _ e.zero.2
  .unfold qJ du;split
   .omega
   .rfl
  .unfold qJ;split
   .exact f
   .omega
 have h:∀z,z<=k->s.funs.foldl (qK k a) z=(s.funs.map (e8 a)).foldl (λx c=>min (x+c) k) z:=λz j=>by
  refine foldl_map' (e8 a) (λx c=>min (x+c) k) (qK k a) (λc=>c<=k) (λc p f=>?_) (λc p f=>?_) _ _ j
  .unfold qK e8;split
   .rfl
   .omega
  .unfold qK;split
   .omega
   .exact f
 unfold gX;split
 .rw[h1,wV _ _ e.zero.2 (ts e),h _ Ω,wV _ _ Ω (qU e)];have:=qS _ (qU (a:=a) e);omega
 .rfl
theorem tt {α β:Type}:∀ {l:List α} {m:List β} {i:Nat} {x:α} {y:β},m[i]? =σ y->(l.set i x).zip m=(l.zip m).set i (x,y)
 |[],_,_,_,_,_=>Ξ
 |_::_,[],_,_,_,h=>by simp at h
 |a::l,b::m,0,x,y,h=>by simp at h;subst h;rfl
 |a::l,b::m,i+1,x,y,h=>by
  rw[List.set_cons_succ,List.zip_cons_cons,List.zip_cons_cons,List.set_cons_succ,tt (by simpa using h)]
theorem tu {α:Type} {q:α->Bool}:∀ {l:List α} {i:Nat} {x y:α},l[i]? =σ x->q y=q x->(l.set i y).all q=l.all q
 |[],_,_,_,h,_=>by simp at h
 |a::l,0,x,y,h,e=>by simp at h;subst h;rw[List.set_cons_zero,List.all_cons,List.all_cons,e]
 |a::l,i+1,x,y,h,e=>by rw[List.set_cons_succ,List.all_cons,List.all_cons,tu (by simpa using h) e]
def eE (s:av) (u:Nat) (x:bB) (un:Λ):av:={s with vars:=s.vars.set u {x with un:=un}}
def dL (s:av) (j:Nat) (f:cb) (cs:Λ):av:={s with funs:=s.funs.set j {f with cs:=cs}}
theorem wX {u:Nat} {x:bB} {un:Λ} (a:bt k sizes s) (J:s.vars[u]? =σ x) (e:un.length=x.un.length) (f:∀c∈un,0<=c/\c<=k):bt k sizes (eE s u x un):=by
 have h:=(x4.1 J).1;have j:=a.vars;have h1:=a.var u x _ J (x6 Ω);exact a.tk J e f h1.2.2
theorem D1 {f:cb} (a:bt k sizes s) (af:s.funs[j]? =σ f) (e:cs.length=f.cs.length) (h:∀c∈cs,0<=c/\c<=k):bt k sizes (dL s j f cs):=a.DI af rfl rfl e h
theorem OT {u:Nat} {x:bB} {f:cb} {un:Λ} {bf:Int} (e:bt k sizes s) (J:s.vars[u]? =σ x) (af:s.funs[j]? =σ f) (q:un.length=x.un.length) (w:∀c∈un,0<=c/\c<=k) (y:cs.length=f.cs.length) (z:∀c∈cs,0<=c/\c<=k) (p:a[u]? =σ bf)
  (h:(s.vars.zip a).all ig=true-> ∀r,0<=r->min (r+e8 a {f with cs:=cs}+du ({x with un:=un},bf)) k=min (r+e8 a f+du (x,bf)) k):gX k (eE (dL s j f cs) u x un) a=gX k s a:=by
 have A:=D1 e af y z;have B:bt k sizes (eE (dL s j f cs) u x un):=wX A J q w;rw[nX B,nX e];have m:(s.vars.zip a)[u]? =σ (x,bf):=List.getElem?_zip_eq_some.2 ⟨J,p⟩;have C:((eE (dL s j f cs) u x un).vars.zip a)=(s.vars.zip a).set u ({x with un:=un},bf):=tt p;have E:((s.vars.zip a).set u ({x with un:=un},bf)).all ig=(s.vars.zip a).all ig:=tu m rfl;rw[C,E];split
 .rename_i F;have G:(((s.vars.zip a).set u ({x with un:=un},bf)).map du).sum=((s.vars.zip a).map du).sum-du (x,bf)+du ({x with un:=un},bf):=by
   rw[V8];exact wW (by rw[x8,m];rfl)
  have H:((eE (dL s j f cs) u x un).funs.map (e8 a)).sum=(s.funs.map (e8 a)).sum-e8 a f+e8 a {f with cs:=cs}:=by
   show ((s.funs.set j {f with cs:=cs}).map (e8 a)).sum=_;rw[V8];exact wW (by rw[x8,af];rfl)
  have h1:=qT (ts (a:=a) e) (i:=u) (x:=du (x,bf)) (by rw[x8,m];rfl);have I:=qT (qU (a:=a) e) (i:=j) (x:=e8 a f) (by rw[x8,af];rfl);have K:=e.zero.1;have L:=h F (s.zero+(((s.vars.zip a).map du).sum-du (x,bf))+((s.funs.map (e8 a)).sum-e8 a f)) Ω;rw[G,H];show min (s.zero+_+_) k=_;omega
 .rfl
end
theorem wY {s:av} {pos:Nat} {v:Int}:∀ (sc:Λ) (p q:Nat),(hc s pos v sc p)[q]? =(sc[q]?).map λu=>if p+q=pos then[v] else cj s u
 |[],_,q=>by simp[hc]
 |u::sc,p,0=>by simp[hc]
 |u::sc,p,q+1=>by
  unfold hc;rw[List.getElem?_cons_succ,List.getElem?_cons_succ,wY sc (p+1) q,show p+1+q=p+(q+1) by omega]
theorem D2 {s:av} {pos:Nat} {v:Int}:∀ (sc:Λ) (p:Nat),(hc s pos v sc p).length=sc.length
 |[],_=>rfl
 |u::sc,p=>by unfold hc;rw[c9,D2 sc (p+1),c9]
theorem wZ {s:av} {pos:Nat}:t∈bL s sc pos v↔t.length=sc.length/\ ∀ (p:Nat) u w,sc[p]? =σ u->t[p]? =σ w->if p=pos then w=v else w∈cj s u:=by
 unfold bL;rw[tn,D2];refine and_congr_right λ_=>⟨λh p u w hu hw=>?_,λh p d w a hw=>?_⟩
 .have:w∈if 0+p=pos then[v] else cj s u:=h p _ w (by rw[wY,hu];rfl) hw;rw[X0] at this;split
  .rename_i e;rw[if_pos e] at this;exact o8.1 this
  .rename_i e;rw[if_neg e] at this;exact this
 .rw[wY] at a;cases hu:sc[p]? with
  |none=>rw[hu] at a;cases a
  |some u=>
   rw[hu] at a;have a:(if 0+p=pos then[v] else cj s u)=d:=b6 a;subst a;have:=h p u w hu hw;rw[X0];split
   .rename_i e;rw[if_pos e] at this;exact o8.2 this
   .rename_i e;rw[if_neg e] at this;exact this
theorem gq {x:bB}:v∈aB x↔(0<=v/\v<x.un.length)/\dropped x.mask v=false:=by
 unfold aB;rw[T6];refine and_congr ?_ Ξ;have:=tp (k:=(x.un.length:Int)) (v:=v);unfold hy at this;rw[u6] at this;exact this
theorem D3 {f:Int->Int} (U:dG aj) (m:∀c∈cs,0<=c/\c<=k) (af:∀t∈L,0<=f (bj aj cs t)/\f (bj aj cs t)<=k):∀c∈dy f L aj cs,0<=c/\c<=k:=λc a=>by
 unfold dy at a;obtain⟨p,q,rfl⟩:=l9.1 a;obtain⟨i,hi⟩:=X1.1 q;obtain⟨h1,h⟩:=List.getElem?_zip_eq_some.1 hi;split
 .rename_i r;have j:=af p.1 r;have e:bj aj cs p.1=p.2:=by
   unfold bj;rw[je U h1];simp only;rw[u6,v8,h];rfl
  rw[e] at j;exact j
 .exact m _ (x5 h)
section
variable {k:Int} {sizes a:Λ} {s:av}
def iO (s:av) (j:Nat) (f:cb) (pos u:Nat) (x:bB) (v:Int) (tup un:Int->Int):av:=
 eE (dL s j f (dy tup (bL s f.sc pos v) f.aj f.cs)) u x (x.un.set v.toNat (un (x.un.getD v.toNat 0)))
theorem jN {f:cb} (e:bt k sizes s) (af:f∈s.funs):dG f.aj/\f.cs.length=(bi f.aj).length:=by
 obtain⟨a,h,_⟩:=e.funs f af;have j:dG f.aj:=by rw[h];exact o1 e.hv.2.2 λv ad=>⟨(a.scope.1 v ad).1,a.vars v ad⟩
 refine⟨j,?_⟩;have h1:=a.len;rw[h3 j,h];exact h1
theorem D4 {pos u:Nat} {f:cb} {x:bB} {tup un:Int->Int} (a:bt k sizes s) (af:s.funs[j]? =σ f) (J:s.vars[u]? =σ x)
  (e:∀t∈bL s f.sc pos v,0<=tup (bj f.aj f.cs t)/\tup (bj f.aj f.cs t)<=k) (h:0<=un (x.un.getD v.toNat 0)/\un (x.un.getD v.toNat 0)<=k):bt k sizes (iO s j f pos u x v tup un):=by
 obtain⟨m,q⟩:=jN a (x5 af);have p:=(a.funs f (x5 af)).1;have r:=(x4.1 J).1;have w:=a.vars;have h1:=a.var u x _ J (x6 Ω);exact wX (D1 a af (nU _ _ _ _ Ω) (D3 m p.hT e)) J (by rw[c8]) (qQ h1.2.1 h)
theorem D5 {pos u:Nat} {f:cb} {x:bB} {tup un:Int->Int} (p:bt k sizes s) (P:k3 s a) (af:s.funs[j]? =σ f) (Q:f.live≠0) (hu:f.sc[pos]? =σ (u:Int)) (J:s.vars[u]? =σ x) (ad:v∈aB x)
  (R:∀w∈f.sc,∀y,s.vars[w.toNat]? =σ y->y.gone=0) (X:∀t∈bL s f.sc pos v,0<=tup (bj f.aj f.cs t)/\tup (bj f.aj f.cs t)<=k) (Y:0<=un (x.un.getD v.toNat 0)/\un (x.un.getD v.toNat 0)<=k)
  (Z:∀t∈bL s f.sc pos v,∀r,0<=r->min (r+tup (bj f.aj f.cs t)+un (x.un.getD v.toNat 0)) k=min (r+bj f.aj f.cs t+x.un.getD v.toNat 0) k):
  gX k (iO s j f pos u x v tup un) a=gX k s a:=by
 obtain⟨F,aa⟩:=jN p (x5 af);obtain⟨G,S,_⟩:=p.funs f (x5 af);have au:=(x4.1 J).1;have av:=p.vars;have h1:=p.var u x _ J (x6 Ω);have aw:=P.1;obtain⟨bf,T⟩:=aH (l:=a) (i:=u) Ω;refine OT p J af (by rw[c8]) (qQ h1.2.1 Y) (nU _ _ _ _ Ω) (D3 F G.hT X) T λab r ac=>?_;have U:x.gone=0:=R u (x5 hu) x (by rw[u6];exact J);obtain⟨tl,B⟩:∃tl,tl=qI a f.sc:=⟨_,rfl⟩;have H:∀ (q:Nat) w,f.sc[q]? =σ w-> ∃y,s.vars[w.toNat]? =σ y/\tl[q]? =σ (a.getD w.toNat 0)/\a.getD w.toNat 0∈aB y/\f.aj[q]? =σ (y.un.length:Int):=λq w hw=>by
  have hm:=x5 hw;have ax:=(G.scope.1 w hm).1;have ay:=G.vars w hm;obtain⟨y,h⟩:=aH (l:=s.vars) (i:=w.toNat) Ω;obtain⟨z,I⟩:=aH (l:=sizes) (i:=w.toNat) Ω;obtain⟨K,L⟩:=aH (l:=a) (i:=w.toNat) Ω;have ae:=R w hm y h;have az:=(p.var _ y z h I).1;have aA:=p.hv.2.2 z (x5 I);have e:a.getD w.toNat 0=K:=by rw[v8,L];rfl
  have V:=List.all_eq_true.1 ab (y,K) (x5 (List.getElem?_zip_eq_some.2 ⟨h,L⟩));have ag:=(P.2 _ y K h L).resolve_left Ω;refine⟨y,h,by rw[B];unfold qI;rw[x8,hw];rfl,?_,?_⟩
  .rw[e,gq];refine⟨ag,?_⟩;unfold ig at V;simpa[ae] using V
  .rw[S];unfold bS;rw[x8,hw,Z3,v8,I,V9];congr 1;omega
 have ah:tl.length=f.sc.length:=by rw[B];unfold qI;rw[u7]
 have aC:f.aj.length=f.sc.length:=by rw[S];unfold bS;rw[u7]
 obtain⟨m,hm⟩:∃m,ci f.aj tl 0=σ m:=by
  have:tl∈bi f.aj:=by
   rw[wO,tn];refine⟨by rw[u7];omega,λq d w W hw=>?_⟩;obtain⟨b,A⟩:=aH (l:=f.sc) (i:=q) (by have:=(x4.1 hw).1;omega);obtain⟨y,_,M,N,ai⟩:=H q b A;rw[x8,ai] at W;cases W;rw[M] at hw;cases hw;exact tp.2 (gq.1 N).1
  obtain⟨i,hi⟩:=X1.1 this;exact⟨_,je F hi⟩
 have ak:e8 a f=bj f.aj f.cs tl:=by unfold e8;rw[if_pos Q,B]
 have al:e8 a {f with cs:=dy tup (bL s f.sc pos v) f.aj f.cs}=if tl∈bL s f.sc pos v then tup (bj f.aj f.cs tl) else bj f.aj f.cs tl:=by
  rw[<-D0 F aa hm,B];unfold e8;rw[if_pos Q]
 have am:du (x,bf)=x.un.getD bf.toNat 0:=by unfold du;rw[if_neg (by simp[U])]
 have an:du ({x with un:=x.un.set v.toNat (un (x.un.getD v.toNat 0))},bf)=(x.un.set v.toNat (un (x.un.getD v.toNat 0))).getD bf.toNat 0:=by unfold du;rw[if_neg (by simp[U])]
 obtain⟨y,h,C,O,_⟩:=H pos _ hu;rw[u6] at h C O;rw[J] at h;cases h;have ao:a.getD u 0=bf:=by rw[v8,T];rfl
 rw[ao] at C O;have aD:=(gq.1 ad).1;have aE:=(gq.1 O).1;rw[ak,al,am,an];by_cases he:bf=v
 .subst he;have E:tl∈bL s f.sc pos bf:=wZ.2 ⟨ah,λq w b hw A=>by
   obtain⟨aF,ap,M,N,_⟩:=H q w hw;split
   .rename_i aq;subst aq;rw[C] at A;exact (b6 A).symm
   .rw[M] at A;cases A;unfold cj;rw[ap];exact N⟩
  rw[if_pos E,v8 (l:=x.un.set _ _),c7 Ω,V9];exact Z tl E r ac
 .have E:tl∉bL s f.sc pos v:=λhm=>by
   have:=(wZ.1 hm).2 pos _ bf hu C;rw[if_pos rfl] at this;exact he this
  rw[if_neg E,v8 (l:=x.un.set _ _),Y0 Ω,<-v8]
end
def ec (g:Int->Int) (un L:Λ):Λ:=L.foldl (λun v=>un.set v.toNat (g (un.getD v.toNat 0))) un
theorem tv {g:Int->Int}:∀ (L un:Λ),(ec g un L).length=un.length
 |[],_=>rfl
 |v::L,un=>by
  unfold ec;rw[U8];have:=tv (g:=g) L (un.set v.toNat (g (un.getD v.toNat 0)));unfold ec at this;rw[this,c8]
theorem tw {g:Int->Int}:∀ (L un:Λ) (w:Int),L.Nodup->(∀v∈L,0<=v/\v<un.length)->0<=w->(ec g un L).getD w.toNat 0=if w∈L then g (un.getD w.toNat 0) else un.getD w.toNat 0
 |[],un,w,_,_,_=>by simp[ec]
 |v::L,un,w,j,a,hw=>by
  obtain⟨h1,m⟩:=List.nodup_cons.1 j;have ad:=a v (.head _);have p:=tw (g:=g) L (un.set v.toNat (g (un.getD v.toNat 0))) w m (λu hu=>by rw[c8];exact a u (.tail _ hu)) hw;have e:ec g un (v::L)=ec g (un.set v.toNat (g (un.getD v.toNat 0))) L:=rfl;rw[e,p];by_cases f:w=v
  .subst f;have U:(un.set w.toNat (g (un.getD w.toNat 0))).getD w.toNat 0=g (un.getD w.toNat 0):=by
    rw[v8 (l:=un.set _ _),c7 Ω];rfl
   rw[if_neg h1,if_pos (.head _),U]
  .have U:(un.set v.toNat (g (un.getD v.toNat 0))).getD w.toNat 0=un.getD w.toNat 0:=by
    rw[v8 (l:=un.set _ _),Y0 Ω,<-v8]
   rw[U];by_cases hm:w∈L
   .rw[if_pos hm,if_pos (.tail _ hm)]
   .rw[if_neg hm,if_neg λh=>(W9.1 h).elim f hm]
theorem qV (x:bB):(aB x).Nodup:=by
 unfold aB;refine List.Nodup.sublist List.filter_sublist ?_;exact List.Pairwise.map _ (λa b e=>Ω) List.nodup_range
theorem D6 {k:Int} {g:Int->Int}:∀ (L un:Λ),(∀c∈un,0<=c/\c<=k)->L.Nodup->(∀v∈L,0<=v/\v<un.length)->(∀v∈L,0<=g (un.getD v.toNat 0)/\g (un.getD v.toNat 0)<=k)-> ∀c∈ec g un L,0<=c/\c<=k
 |[],un,h,_,_,_,c,a=>h c a
 |v::L,un,h,m,f,j,c,a=>by
  obtain⟨h1,p⟩:=List.nodup_cons.1 m;have ad:=f v (.head _);refine D6 (g:=g) L (un.set v.toNat (g (un.getD v.toNat 0))) (qQ h (j v (.head _))) p (λu hu=>by rw[c8];exact f u (.tail _ hu)) (λu hu=>?_) c a;have q:u≠v:=λe=>h1 (e▸hu);have r:=f u (.tail _ hu);rw[v8 (l:=un.set _ _),Y0 Ω,<-v8];exact j u (.tail _ hu)
section
variable {k:Int} {sizes a:Λ} {s:av}
def kx (s:av) (u:Nat) (x:bB) (g z:Int->Int):av:={eE s u x (ec g x.un (aB x)) with zero:=z s.zero}
theorem bt.OU (a:bt k sizes s) (h:0<=c/\c<=k):bt k sizes {s with zero:=c}:=⟨a.eg,a.hv,h,a.vars,a.var,a.funs⟩
theorem w1 {u:Nat} {x:bB} {g z:Int->Int} (a:bt k sizes s) (J:s.vars[u]? =σ x) (e:∀v∈aB x,0<=g (x.un.getD v.toNat 0)/\g (x.un.getD v.toNat 0)<=k) (f:0<=z s.zero/\z s.zero<=k):bt k sizes (kx s u x g z):=by
 have h:=(x4.1 J).1;have j:=a.vars;have h1:=a.var u x _ J (x6 Ω);exact (wX a J (tv _ _) (D6 _ _ h1.2.1 (qV x) (λv ad=>(gq.1 ad).1) e)).OU f
theorem D7 {u:Nat} {x:bB} {g z:Int->Int} (e:bt k sizes s) (m:k3 s a) (J:s.vars[u]? =σ x) (h:x.gone=0) (A:∀v∈aB x,0<=g (x.un.getD v.toNat 0)/\g (x.un.getD v.toNat 0)<=k) (B:0<=z s.zero/\z s.zero<=k)
  (C:∀v∈aB x,∀r,0<=r->min (r+g (x.un.getD v.toNat 0)+z s.zero) k=min (r+x.un.getD v.toNat 0+s.zero) k):gX k (kx s u x g z) a=gX k s a:=by
 have E:=w1 e J A B;have M:=(x4.1 J).1;have N:=e.vars;have O:=m.1;obtain⟨bf,j⟩:=aH (l:=a) (i:=u) Ω;rw[nX E,nX e];have f:(s.vars.zip a)[u]? =σ (x,bf):=List.getElem?_zip_eq_some.2 ⟨J,j⟩;obtain⟨un,p⟩:∃un,un=ec g x.un (aB x):=⟨_,rfl⟩;have F:((kx s u x g z).vars.zip a)=(s.vars.zip a).set u ({x with un:=un},bf):=by rw[p];exact tt j
 have G:((s.vars.zip a).set u ({x with un:=un},bf)).all ig=(s.vars.zip a).all ig:=tu f rfl;rw[F,G];split
 .rename_i H;have I:(((s.vars.zip a).set u ({x with un:=un},bf)).map du).sum=((s.vars.zip a).map du).sum-du (x,bf)+du ({x with un:=un},bf):=by
   rw[V8];exact wW (by rw[x8,f];rfl)
  have h1:=qT (ts (a:=a) e) (i:=u) (x:=du (x,bf)) (by rw[x8,f];rfl);have P:=qS _ (qU (a:=a) e);have q:=List.all_eq_true.1 H (x,bf) (x5 f);have w:=(m.2 _ x bf J j).resolve_left Ω;have y:bf∈aB x:=by
   rw[gq];refine⟨w,?_⟩;unfold ig at q;simpa[h] using q
  have K:du (x,bf)=x.un.getD bf.toNat 0:=by unfold du;rw[if_neg (by simp[h])]
  have L:du ({x with un:=un},bf)=g (x.un.getD bf.toNat 0):=by
   unfold du;rw[if_neg (by simp[h])];show un.getD bf.toNat 0=_;rw[p,tw _ _ _ (qV x) (λv ad=>(gq.1 ad).1) w.1,if_pos y]
  rw[I,L];rw[K] at h1 ⊢;have Q:=C bf y (((s.vars.zip a).map du).sum-x.un.getD bf.toNat 0+(s.funs.map (e8 a)).sum) Ω;show min (z s.zero+_+(s.funs.map (e8 a)).sum) k=_;omega
 .rfl
theorem OV {w:Int} (ad:0<=v) (hw:0<=w):dropped ((m ||| 2 ^ v.toNat:Nat):Int) w=(dropped (m:Int) w||decide (w=v)):=by
 unfold dropped;rw[u6,u6,Nat.testBit_or,Nat.testBit_two_pow];congr 1;exact decide_eq_decide.2 ⟨λh=>Ω,λh=>Ω⟩
theorem lV {i:Nat} {x:bB} (J:s.vars[i]? =σ x):ek s i v.toNat={s with vars:=s.vars.set i {x with mask:=((x.mask.toNat ||| 2 ^ v.toNat:Nat):Int)}}:=by
 unfold ek;rw[J]
theorem w2 {i:Nat} {x:bB} (a:bt k sizes s) (J:s.vars[i]? =σ x) (ad:0<=v/\v<x.un.length):bt k sizes (ek s i v.toNat):=by
 rw[lV J];have h:=(x4.1 J).1;have j:=a.vars;have h1:=a.var i x _ J (x6 Ω);have m:=a.hv.2.2 _ (R8 (l:=sizes) (n:=i) Ω);refine a.tk J rfl h1.2.1 ⟨by simp only;omega,?_⟩;have e:x.mask.toNat<2 ^ 32:=by have:=h1.2.2;omega
 have f:2 ^ v.toNat<2 ^ 32:=Nat.pow_lt_pow_right Ω Ω;have:=Nat.or_lt_two_pow e f;simp only;omega
theorem D8 {i:Nat} {bf:Int} {x:bB} (f:bt k sizes s) (z:k3 s a) (J:s.vars[i]? =σ x) (A:x.gone=0) (ad:0<=v/\v<x.un.length) (j:a[i]? =σ bf):gX k (ek s i v.toNat) a=if bf=v then k else gX k s a:=by
 have B:=w2 f J ad;rw[nX B,nX f];have m:(s.vars.zip a)[i]? =σ (x,bf):=List.getElem?_zip_eq_some.2 ⟨J,j⟩;have C:=(z.2 _ x bf J j).resolve_left Ω;obtain⟨y,p⟩:∃y:bB,y={x with mask:=((x.mask.toNat ||| 2 ^ v.toNat:Nat):Int)}:=⟨_,rfl⟩;have E:((ek s i v.toNat).vars.zip a)=(s.vars.zip a).set i (y,bf):=by rw[lV J,p];exact tt j
 have r:(ek s i v.toNat).zero=s.zero/\(ek s i v.toNat).funs=s.funs:=by rw[lV J];exact⟨rfl,rfl⟩
 have w:ig (y,bf)=(ig (x,bf)&&decide (bf≠v)):=by
  unfold ig;rw[p];simp only[A];rw[OV ad.1 C.1];have hm:((x.mask.toNat:Nat):Int)=x.mask:=by
   have L:=(x4.1 J).1;have M:=f.vars;have h1:=f.var i x _ J (x6 Ω);omega
  rw[hm];by_cases e:bf=v
  .simp[e]
  .simp[e]
 rw[E,r.1,r.2];by_cases e:bf=v
 .rw[if_pos e,if_neg];intro F;have:=List.all_eq_true.1 F (y,bf) (x5 (c7 (x4.1 m).1));rw[w] at this;simp[e] at this
 .have G:((s.vars.zip a).set i (y,bf)).all ig=(s.vars.zip a).all ig:=tu m (by rw[w];simp[e]);have H:((s.vars.zip a).set i (y,bf)).map du=(s.vars.zip a).map du:=by
   rw[V8];have I:du (y,bf)=du (x,bf):=by rw[p];rfl
   rw[I];refine Y3 λq=>?_;rw[Y7];split
   .rename_i K;subst K;split
    .rw[x8,m];rfl
    .rename_i h;rw[Z6 Ω]
   .rfl
  rw[if_neg e,G,H]
theorem OW {i:Nat} {bf:Int} {x:bB} (f:k3 s a) (J:s.vars[i]? =σ x) (h:x.gone=0) (e:a[i]? =σ bf) (j:bf∉aB x):gX k s a=k:=by
 have m:=(f.2 _ x bf J e).resolve_left Ω;unfold gX;rw[if_neg];intro p;have:=List.all_eq_true.1 p (x,bf) (x5 (List.getElem?_zip_eq_some.2 ⟨J,e⟩));unfold ig at this;have q:dropped x.mask bf=false:=by simpa[h] using this
 exact j (gq.2 ⟨m,q⟩)
end
def mG (w:x3) (g:Nat) (k:Int) (sizes:Λ) (s:av):Prop:=∃szv a e f h j,ag w g a8 [Δ k,szv,Δ s.zero,a,e,f,h,j]/\aF .i64 w szv sizes/\Seen ee w [szv] sizes/\
 Seen ee w [a] (s.vars.map aB)/\Seen ee w [e] (s.vars.map λx=>decide (x.gone≠0))/\Seen ee w [f] (s.vars.map (·.un))/\Seen ee w [h] (s.funs.map hb)/\Seen ee w [j] (s.gW.map Dy)
section
variable {w w':x3} {g:Nat} {v:x1} {k:Int} {sizes:Λ} {s:av}
theorem mG.ext (h:mG w g k sizes s) (J:Ext w w'):mG w' g k sizes s:=by
 obtain⟨szv,a,e,f,j,m,p,h1,q,r,x,y,z,A⟩:=h;exact⟨szv,a,e,f,j,m,p.ext J,h1.ext J,bI q J,bI r J,bI x J,bI y J,bI z J,bI A J⟩
theorem iN.box (h:iN w v k sizes s) (J:Ext w w') (f:ag w' g a8 v.cells.toList):mG w' g k sizes s:=by
 obtain⟨cs,rfl,szv,x,y,z,B,C,rfl,h1,j,m,p,q,r,_⟩:=h;obtain⟨_,_,_,E⟩:=c4 (dc h1);have c:∀ {α:Type} [ao α] {v:x1} {l:List α} {A:ak},ao.rep false A ee w [v] l-> ∃a n c,v= .slice a n c:=λh=>by
  obtain⟨_,_,_,_,_,⟨_,b,o,base,cap,e,_⟩,_⟩:=ja h;exact⟨_,_,_,e⟩
 obtain⟨_,_,_,F⟩:=c j;obtain⟨_,_,_,G⟩:=c m;obtain⟨_,_,_,H⟩:=c p;obtain⟨_,_,_,I⟩:=c q;obtain⟨_,_,_,K⟩:=c r;refine⟨szv,x,y,z,B,C,?_,(dc h1).ext J,bI h1 J,bI j J,bI m J,bI p J,bI q J,bI r J⟩;rw[E,F,G,H,I,K] at f ⊢;exact f
theorem mG.load {K:x1->Prop} (h:mG w g k sizes s) (a:∀u,iN w u k sizes s->K u):ac x7 (u4 a8 (Γ g)) w K:=by
 obtain⟨szv,e,f,j,m,q,r,h1,x,y,z,A,B,C⟩:=h;rw[bR a8.p a8.i rfl r.range];exact a _ ⟨_,rfl,szv,e,f,j,m,q,rfl,x,y,z,A,B,C,λh=>by cases h⟩
theorem OX {i:Int} (h:iN w v k sizes s):am x7 GP [v,Δ i] w λr w'=>r= .bool (decide (0<=i/\i<sizes.length))/\Ext w w':=by
 refine az func106 ?_;refine be λg1 V q a e=>?_;obtain⟨szv,x,y,z,A,B,e,m,_⟩:=h.box a e;refine aV (λv aa=>v= .bool (decide (0<=i/\i<sizes.length))/\Ext w aa) (λ_ _ h=>h) λaA f=>?_;rw[cP,al];refine⟨λj=>?_,λj=>f _ _ ⟨by rw[decide_eq_false];omega,a⟩⟩;rw[aM a8.p 1 e rfl,aW an.u m,aO];refine f _ _ ⟨?_,a⟩;congr 1;exact decide_eq_decide.2 ⟨λh=>⟨j,h⟩,λh=>h.2⟩
theorem lW {m:Bool} {S R:ak} {cs:List x1} {f:cb} (h:ao.rep (α:=ij) m S R w cs (hb f)):∃aG szv a6,cs=[aG,szv,a6,.bool (decide (f.live≠0))]/\Seen ee w [aG] f.sc/\Seen ee w [szv] f.aj/\Seen ee w [a6] f.cs:=by
 obtain⟨C,p,A,B,rfl,_,_,_,⟨q,E,aS,F,rfl,_,_,_,h1,r,s,G,x,rfl,_,_,_,a,e⟩,j⟩:=h;have one:∀ {α:Type} [ao α] {m:Bool} {S R:ak} {c:List x1} {l:List α},ao.rep m S R w c l-> ∃v,c=[v]:=λh=>by obtain⟨v,ad,_⟩:=h;exact⟨v,ad⟩
 have h1:Seen _ w q f.sc:=h1;have a:Seen _ w r f.aj:=a;have j:p=[.bool (decide (f.live≠0))]:=j;have e:ao.rep m x R w s f.cs:=e;obtain⟨y,rfl⟩:=one h1;obtain⟨z,rfl⟩:=one a;obtain⟨v3,rfl⟩:=one e;subst j;exact⟨y,z,v3,rfl,i7 h1,i7 a,i7 e⟩
theorem OY {j:Int} (h:iN w v k sizes s):am x7 Ij [v,Δ j] w λr w'=>r= .bool (decide (0<=j)&&fo s j.toNat)/\Ext w w':=by
 refine az func226 ?_;refine be λg1 V A a e=>?_;obtain⟨szv,B,C,E,G,H,e,I,_,_,_,_,x,_⟩:=h.box a e;refine aV (λv aa=>v= .bool (decide (0<=j)&&fo s j.toNat)/\Ext w aa) (λ_ _ h=>h) λaA m=>?_;rw[cP,al];refine⟨λq=>?_,λq=>m _ _ ⟨by rw[decide_eq_false q];rfl,a⟩⟩;rw[aM a8.p 6 e rfl,hL eN.u x,aO,al,u7];refine⟨λJ=>?_,λK=>m _ _ ⟨by unfold fo;rw[Z6 Ω,Bool.and_false],a⟩⟩;obtain⟨f,af⟩:=aH (l:=s.funs) (i:=j.toNat) Ω;rw[aM a8.p 6 e rfl];refine kb (i:=j.toNat) Ω eN.u dm.i x (by rw[x8,af];rfl) λb o cs y z=>?_;obtain⟨L,M,v3,rfl,_⟩:=lW z;rw[aU dm.p rfl,ay (v:=.bool (decide (f.live≠0))) Ψ (y 3 _ rfl)];exact m _ _ ⟨by unfold fo;rw[af,decide_eq_true q,T3],a⟩
end
theorem w3 {T:Nat->Prop} (h:ah S w w') (k:ah T w w'):ah (λr=>S r/\T r) w w':=
 ⟨h.size,λr o a U f=>by
  by_cases e:S r
  .exact k.aZ r o a U λj=>f ⟨e,j⟩
  .exact h.aZ r o a U e⟩
theorem tx {A R:ak} {n:aR} {s:av} {t:aC} (h:bw w ae gT A R n s t):∀r,A r\/R r->r<w.heap.size:=λr a=>by
 obtain⟨j,m,p,q,⟨_,_,e,f⟩,_⟩:=h.1;exact a.elim (f r) (e r)
structure ct (w:x3) (ae gT aq:Nat) (A R:ak) (A9:Nat->ak) (aK:ak) (n:aR) (s u:av) (t:aC) (h:List aC) (cs:List x1):Prop where
 e3:bw w ae gT A R n s t
 ii:eh t h
 box:ag w aq a8 cs
 doc:ik true A9 aK w cs n.k n.sizes u
 apart:∀q r,A9 q r->¬A r/\¬R r/\r≠aq
 read:∀r,aK r->¬eA w r/\r<w.heap.size/\r≠aq
 out:¬A aq/\¬R aq
section
variable {w w':x3} {ae gT aq:Nat} {A R:ak} {A9:Nat->ak} {aK:ak} {n:aR} {s u:av} {t:aC} {h:List aC} {cs:List x1}
theorem ct.ext (p:ct w ae gT aq A R A9 aK n s u t h cs) (J:Ext w w'):ct w' ae gT aq A R A9 aK n s u t h cs:=
 ⟨p.e3.ext J,p.ii,p.box.ext J,p.doc.ext J,p.apart,λr a=>⟨λh=>(p.read r a).1 (nN (λo e U _=>J.aZ r o e U) h),by have:=(p.read r a).2.1;have:=J.size;omega,(p.read r a).2.2⟩,p.out⟩
theorem ct.prog {aS R':ak} {s':av} {bu:aC} {h':List aC} (p:ct w ae gT aq A R A9 aK n s u t h cs) (m:ah (eA w) w w') (f:Grow A w aS w') (y:bw w' ae gT aS R' n s' bu) (j:eh bu h') (x:∀r,R' r->R r\/B<=r) (C:∀q r,A9 q r->r<w.heap.size->r<B) (J:aq<B):
  ct w' ae gT aq aS R' (λq r=>A9 q r/\r<w.heap.size) aK n s' u bu h' cs:=by
 have H:=p.box.lt;have z:=m.size;refine⟨y,j,p.box.ab f.1 p.out.1,cg.ab p.doc.old (w3 m f.1) λr e h j=>?_,λq r h=>⟨λa=>?_,λe=>(x r e).elim (p.apart q r h.1).2.1 λE=>by have:=C q r h.1 h.2;omega,(p.apart q r h.1).2.2⟩,λr e=>⟨λh=>?_,by have:=(p.read r e).2.1;omega,(p.read r e).2.2⟩,λa=>?_,λe=>(x aq e).elim p.out.2 λE=>Ω⟩
 .rcases h with⟨q,h⟩|h
  .exact (p.apart q r h.1).1 j.2
  .exact (p.read r h).1 j.1
 .rcases f.2.1 r a with a|a
  .exact (p.apart q r h.1).1 a
  .have:=h.2;omega
 .exact (p.read r e).1 (nN (λo F U G=>m.aZ r o F U G) h)
 .rcases f.2.1 aq a with a|a
  .exact p.out.1 a
  .omega
theorem ct.OZ {S:ak} {ck:Nat->ak} {u':av} {ca:List x1} (p:ct w ae gT aq A R A9 aK n s u t h cs) (f:ah S w w') (x:∀r,r<w.heap.size->S r->(∃q,A9 q r)\/r=aq) (y:ag w' aq a8 ca) (B:ik true ck aK w' ca n.k n.sizes u') (C:∀q r,ck q r->(∃j,A9 j r)\/(¬A r/\¬R r/\r≠aq)):
  ct w' ae gT aq A R ck aK n s u' t h ca:=by
 have H:=p.box.lt;have z:=f.size;have E:∀q r,A9 q r->¬aK r:=by obtain⟨_,_,_,_,_,_,_,_,_,_,_,_,_,F⟩:=p.doc;exact (F rfl).2
 refine⟨⟨p.e3.1.ab f λr e h U=>?_,p.e3.2⟩,p.ii,y,B,λq r h=>?_,λr e=>⟨λh=>(p.read r e).1 (nN (λo G U _=>f.aZ r o G U λa=>?_) h),by have:=(p.read r e).2.1;omega,(p.read r e).2.2⟩,p.out⟩
 .rcases x r e U with⟨q,a⟩|a
  .exact h.elim (p.apart q r a).1 (p.apart q r a).2.1
  .subst a;exact h.elim p.out.1 p.out.2
 .rcases C q r h with⟨j,a⟩|a
  .exact p.apart j r a
  .exact a
 .rcases x r (p.read r e).2.1 a with⟨q,m⟩|m
  .exact E q r m e
  .exact (p.read r e).2.2 m
theorem ct.O0 {S:ak} {ck:Nat->ak} {u':av} {ca:List x1} (p:ct w ae gT aq A R A9 aK n s u t h cs) (e:∀r,A r\/R r->r<B) (C:aq<B) (f:ah S w w') (j:∀r,r<w.heap.size->S r->(∃q,A9 q r)\/r=aq) (m:ag w' aq a8 ca) (x:ik true ck aK w' ca n.k n.sizes u') (y:∀q r,ck q r->(∃z,A9 z r)\/B<=r):
  ct w' ae gT aq A R ck aK n s u' t h ca:=
 p.OZ f j m x λq r h=>(y q r h).imp id λE=>⟨λa=>by have:=e r (.inl a);omega,λa=>by have:=e r (.inr a);omega,Ω⟩
theorem ct.D9 {S:ak} {ck:Nat->ak} {u':av} {ca:List x1} (p:ct w ae gT aq A R A9 aK n s u t h cs) (a:ah S w w') (e:∀r,r<w.heap.size->S r->(∃q,A9 q r)\/r=aq) (f:ag w' aq a8 ca) (j:ik true ck aK w' ca n.k n.sizes u') (m:∀q r,ck q r->(∃x,A9 x r)\/w.heap.size<=r):
  ct w' ae gT aq A R ck aK n s u' t h ca:=p.O0 (tx p.e3) p.box.lt a e f j m
theorem ct.look (p:ct w ae gT aq A R A9 aK n s u t h cs):mG w aq n.k n.sizes u:=by
 refine iN.box p.doc.Oj (Ext.refl _) ?_;have:=p.box;exact this
theorem ct.nY (p:ct w ae gT aq A R A9 aK n s u t h cs):∃szv a e f j m,cs=[Δ n.k,szv,Δ u.zero,a,e,f,j,m]/\aF .i64 w szv n.sizes:=by
 obtain⟨szv,a,e,f,j,m,h1,q,_⟩:=p.doc;exact⟨szv,a,e,f,j,m,h1,dc q⟩
end
end Go.Proofs.YtmgflbkdggdhoaaGreatDoor
namespace Go.Vc
open Go Go.RowKit
section
variable {P:W5} {w:x3} {α:Type} [ao α] {S R:ak}
theorem tz {v:x1} {l:List α} {i:Nat} {a:α} (h:bE S R w [v] l) (G:l[i]? =σ a) (Y:∀r,r<w.heap.size->S r->¬R r):∃g cap c F,v= .slice (σ ⟨g,0,ν⟩) l.length cap/\w.rangeAt g (i*ao.n α) c/\bE F R w c a/\(∀r,F r->S r)/\
  ∀ {w':x3} {a':α} {T y:ak},ah T w w'->(∀r,r<w.heap.size->T r->F r)->bE y R w' c a'->(∀r,y r->F r\/w.heap.size<=r)->bE (λr=>S r\/w.heap.size<=r) R w' [v] (l.set i a'):=by
 have an:=(x4.1 G).1;obtain⟨vs,g,F,p,he,U,hm⟩:=ja h;obtain⟨Z,H,I⟩:=hm rfl;obtain⟨ap,⟨rfl,aq⟩|⟨cap,full,rfl,K,au,av,af,aw⟩⟩:=id I
 .omega
 have aa:vs.length=l.length:=he.1;have L:S g:=Z.resolve_left Ξ;obtain⟨c,A⟩:∃c,vs[i]? =σ c:=⟨_,x6 Ω⟩;have ac:=he.2 i c a A G;refine⟨g,cap,c,F i,rfl,?_,ac,λr m=>p.sub i r m,λ{w' a' T y} M N O B=>?_⟩
 .obtain⟨_,ax,o',ay,az,ad,_,_,ae,_,ag⟩:=U;cases ad;cases ae Ω;intro j u ai;have P:=ag (i*ao.n α+j) u (by rw[<-List.flatMap_id];exact oV (f:=id) (k:=ao.n α) (λx J=>he.len x J) A ai);rw[X0] at P;exact P
 have aj:¬T g:=λh=>p.top rfl i (N g K.lt h);have aA:=ao.len O;have aB:vs.set i c=vs:=by
  refine Y3 λq=>?_;rw[Y7];by_cases Q:i=q
  .subst Q;rw[if_pos rfl,if_pos Ω,A]
  .rw[if_neg Q]
 have V:bW w' g H (ao.n α) (.slice (σ ⟨g,0,ν⟩) l.length cap) (l.set i a').length vs.flatten:=by
  rw[c8];exact I.ab M λ_=>aj
 refine⟨_,rfl,vs,g,λj r=>if j=i then y r else F j r/\r<w.heap.size,⟨λj r m=>?_,λ_ j m=>?_,λ_ j q r al h1 s=>?_⟩,⟨by simp[aa],λj W X E C=>?_⟩,?_,λ_=>⟨.inr (.inl L),H,V⟩⟩
 .split at m
  .exact (B r m).imp (p.sub i r) id
  .exact .inl (p.sub j r m.1)
 .split at m
  .rcases B g m with h|h
   .exact p.top rfl i h
   .have:=K.lt;omega
  .exact p.top rfl j m.1
 .split at h1<;>split at s
  .omega
  .rcases B r h1 with h|h
   .rename_i e _;exact p.gC rfl i q r Ω h s.1
   .have:=s.2;omega
  .rcases B r s with h|h
   .exact p.gC rfl j i r Ω h1.1 h
   .have:=h1.2;omega
  .exact p.gC rfl j q r al h1.1 s.1
 .by_cases z:j=i
  .subst z;rw[A] at E;rw[c7 Ω] at C;cases E;cases C;exact ao.mono O (λr _ h=>by simpa using h) λ_ _ h=>h
  .rw[Y0 (Ne.symm z)] at C;have am:bE (λr=>if j=i then y r else F j r/\r<w.heap.size) R w W X:=ao.mono (he.2 j W X E C) (λr m h=>by rw[if_neg z];exact⟨h,m⟩) λ_ _ h=>h;refine ao.ab am M λr m h1 s=>?_;have s:=N r m s;rcases h1 with h1|h1
   .simp only[if_neg z] at h1;exact p.gC rfl j i r z h1.1 s
   .exact Y r m (p.sub i r s) h1
 .have:=oz (S:=λr=>(S r\/w.heap.size<=r)\/R r) V (.inr (.inl (.inl L)));exact this
theorem Ea {v:x1} {l:List α} {i:Nat} {a:α} (h:bE S R w [v] l) (M:l[i]? =σ a) (N:∀r,r<w.heap.size->S r->¬R r):∃g cap full y c F,v= .slice (σ ⟨g,0,ν⟩) l.length cap/\ag w g y full/\S g/\i*ao.n α+ao.n α<=full.length/\(∀ (q:Nat) x,c[q]? =σ x->full[i*ao.n α+q]? =σ x)/\bE F R w c a/\(∀r,F r->S r)/\¬F g/\
  ∀ {w':x3} {a':α} {z:List x1} {T B:ak},ah T w w'->(∀r,r<w.heap.size->T r->F r\/r=g)->ag w' g y (over full (i*ao.n α) z)->bE B R w' z a'->(∀r,B r->F r\/w.heap.size<=r)->bE (λr=>S r\/w.heap.size<=r) R w' [v] (l.set i a'):=by
 have ac:=(x4.1 M).1;obtain⟨vs,g,F,s,he,U,hm⟩:=ja h;obtain⟨ad,y,ae⟩:=hm rfl;obtain⟨ax,⟨rfl,ay⟩|⟨cap,full,rfl,O,P,ai,af,Q⟩⟩:=id ae
 .omega
 have V:vs.length=l.length:=he.1;have E:S g:=ad.resolve_left Ξ;obtain⟨c,I⟩:∃c,vs[i]? =σ c:=⟨_,x6 Ω⟩;have aj:=he.2 i c a I M;have al:(i+1)*ao.n α<=l.length*ao.n α:=X6 _ ac;have am:l.length*ao.n α<=full.length:=by rw[af];exact X6 _ P
 rw[U2,Nat.one_mul] at al;refine⟨g,cap,full,y,c,F i,rfl,O,E,Ω,λq x W=>?_,aj,λr p=>s.sub i r p,s.top rfl i,λ{w' a' z T B} an ap aq X G=>?_⟩
 .have K:=oV (f:=id) (k:=ao.n α) (λx J=>he.len x J) I W;rw[List.flatMap_id,<-Q] at K;have az:=(x4.1 W).1;have L:=he.len c (x5 I);rw[Z8 Ω] at K;exact K
 have L:=ao.len X;have au:∀c∈vs.set i z,c.length=ao.n α:=λc A=>by
  rcases X8 A with m|rfl
  .exact he.len c m
  .exact L
 have Y:bW w' g y (ao.n α) (.slice (σ ⟨g,0,ν⟩) l.length cap) (l.set i a').length (vs.set i z).flatten:=by
  refine⟨by rw[pR au,c8,c8,V],.inr ⟨cap,_,by rw[c8],aq,by rw[c8];exact P,ai,by rw[lH,af],?_⟩⟩;rw[c8,sw Ω am,Q,Dw he.len L Ω]
 refine⟨_,rfl,vs.set i z,g,λj r=>if j=i then B r else F j r/\r<w.heap.size,⟨λj r p=>?_,λ_ j p=>?_,λ_ j q r av h1 m=>?_⟩,⟨by simp[V],λj Z aa A H=>?_⟩,?_,λ_=>⟨.inr (.inl E),y,Y⟩⟩
 .split at p
  .exact (G r p).imp (s.sub i r) id
  .exact .inl (s.sub j r p.1)
 .split at p
  .rcases G g p with h|h
   .exact s.top rfl i h
   .have:=O.lt;omega
  .exact s.top rfl j p.1
 .split at h1<;>split at m
  .omega
  .rcases G r h1 with h|h
   .rename_i e _;exact s.gC rfl i q r Ω h m.1
   .have:=m.2;omega
  .rcases G r m with h|h
   .exact s.gC rfl j i r Ω h1.1 h
   .have:=h1.2;omega
  .exact s.gC rfl j q r av h1.1 m.1
 .by_cases C:j=i
  .subst C;rw[c7 Ω] at A;rw[c7 Ω] at H;cases A;cases H;exact ao.mono X (λr _ h=>by simpa using h) λ_ _ h=>h
  .rw[Y0 (Ne.symm C)] at A H;have aw:bE (λr=>if j=i then B r else F j r/\r<w.heap.size) R w Z aa:=ao.mono (he.2 j Z aa A H) (λr p h=>by rw[if_neg C];exact⟨h,p⟩) λ_ _ h=>h;refine ao.ab aw an λr p h1 m=>?_;have m:=ap r p m;rcases h1 with h1|h1
   .simp only[if_neg C] at h1;rcases m with m|rfl
    .exact s.gC rfl j i r C h1.1 m
    .exact s.top rfl j h1.1
   .rcases m with m|rfl
    .exact N r p (s.sub i r m) h1
    .exact N r p E h1
 .have:=oz (S:=λr=>(S r\/w.heap.size<=r)\/R r) Y (.inr (.inl (.inl E)));exact this
end
end Go.Vc
namespace Go.Proofs.YtmgflbkdggdhoaaGreatDoor
open Go Go.Vc Go.RowKit Go.Proofs Go.Proofs.Tryz
set_option maxRecDepth 100000
section
variable {w0 w:x3} {ae gT aq ga:Nat} {A R:ak} {A9 ck:Nat->ak} {aK:ak} {n:aR} {s u:av} {t:aC} {h:List aC} {cs ca:List x1} {aI aG lb:x1} {Q:x1->x3->Prop}
theorem ct.olds (p:ct w0 ae gT aq A R A9 aK n s u t h cs):ct w0 ae gT aq A R (λq r=>A9 q r/\r<w0.heap.size) aK n s u t h cs:=
 ⟨p.e3,p.ii,p.box,p.doc.old,λq r a=>p.apart q r a.1,p.read,p.out⟩
end
theorem pn {α β:Type} {l:List α} {i:Nat} {a b:α} {f:α->β} (h:l[i]? =σ a) (af:f b=f a):(l.set i b).map f=l.map f:=by
 rw[V8,af];refine Y3 λq=>?_;rw[Y7];by_cases e:i=q
 .subst e;rw[if_pos rfl,x8,h,if_pos (by rw[u7];exact (x4.1 h).1)];rfl
 .rw[if_neg e]
theorem w4 {T:Nat->Prop} (h:ah T w w'):ah (λr=>T r/\r<w.heap.size) w w':=⟨h.size,λr o a U e=>h.aZ r o a U λf=>e ⟨f,(n9.1 a).1⟩⟩
section
variable {w0 w w':x3} {ae gT aq ga:Nat} {A R:ak} {A9:Nat->ak} {aK:ak} {n:aR} {s u u':av} {t:aC} {h:List aC} {cs:List x1} {aI aG lb v:x1} {Q:x1->x3->Prop}
theorem cg.qa {m:Bool} {zero:Int} {D:List (Λ)} {G:List Bool} {aX:List (Λ)} {H:List ij} {E:List nS} {i:Nat} (ad:cs[i]? =σ v) (h:cg m A9 aK w (cs.set i v) k sizes zero D G aX H E):cg m A9 aK w cs k sizes zero D G aX H E:=by
 have:cs.set i v=cs:=by
  refine Y3 λq=>?_;rw[Y7];by_cases a:i=q
  .subst a;have:=(x4.1 ad).1;rw[if_pos rfl,if_pos this,ad]
  .rw[if_neg a]
 rw[this] at h;exact h
theorem ct.row {T:ak} {ck:Nat->ak} {q:Nat} (p:ct w ae gT aq A R A9 aK n s u t h cs) (a:ah T w w') (e:∀r,r<w.heap.size->T r->A9 q r) (f:ik true ck aK w' cs n.k n.sizes u') (j:∀q r,ck q r->(∃m,A9 m r)\/w.heap.size<=r):
  ct w' ae gT aq A R ck aK n s u' t h cs:=
 p.D9 a (λr x h=>.inl ⟨q,e r x h⟩) (p.box.ab a λh=>(p.apart q aq (e aq p.box.lt h)).2.2 rfl) f j
theorem w5 {q:Nat} {B:ak} (a:∀r,B r->A9 q r\/w.heap.size<=r):∀j r,il A9 q B j r->(∃e,A9 e r)\/w.heap.size<=r:=λj r h=>by
 unfold il at h;split at h
 .exact (a r h).imp (λh=>⟨q,h⟩) id
 .exact .inl ⟨j,h⟩
end
def hz (n:aR) (s:av) (j:Nat) (pos v o u:Int):Int:=min (eC s j (if pos=1 then[u,v] else[v,u])+eD n s o u) n.k
section
variable {w:x3} {ae gT:Nat} {A R:ak} {n:aR} {s:av} {t:aC}
theorem O1 {o:Int} {g1 E G H:Nat} (h:bw w ae gT A R n s t) (h1:ag w g1 ai [Δ v]) (K:ag w C ai [Δ pos]) (p:ag w E dz [Γ ae]) (L:ag w G ai [Δ (j:Int)]) (M:ag w H ai [Δ o]) (l:Λ):
  pj w G5 #[Γ g1,Γ C,Γ E,Γ G,Γ H] l (hz n s j pos v o):=λw' u f _=>by
 have h:=h.ext f;refine az func123 ?_;rw[ay (v:=Δ v) Ψ ((h1.ext f).Qz rfl)];refine oD (l:=[v,u]) an.u ai.i Ξ rfl Ψ λU ga V W q N=>?_;have I:=f.trans q;refine aV (λr aa=>Ext w' aa/\aF .i64 aa r (if pos=1 then[u,v] else[v,u])) ?_ ?_
 .rintro aI aa ⟨a,O⟩;have x:=f.trans a;rw[ay (v:=Γ ae) Ψ ((p.ext x).Qz rfl),ay (v:=Δ (j:Int)) Ψ ((L.ext x).Qz rfl)];refine DT (h.ext a) O λe X m=>?_;have y:=x.trans m;rw[bo,bp,ay (v:=Γ ae) Ψ ((p.ext y).Qz rfl),ay (v:=Δ o) Ψ ((M.ext y).Qz rfl)];refine DU (h.ext (a.trans m)) λY Z z=>?_;have P:=y.trans z;rw[bo,bp,ay (v:=Γ ae) Ψ ((p.ext P).Qz rfl)];refine (DO (h.ext ((a.trans m).trans z)) (DS h.2.2.2.1) (pk h.2.2.2.1)).mono ?_;rintro _ ab _ ⟨rfl,Q⟩;exact⟨rfl,((a.trans m).trans z).trans Q⟩
 intro aA J;rw[ay (v:=Δ pos) Ψ ((K.ext I).Qz rfl),bg,al];refine⟨λB=>?_,λB=>J _ _ ⟨q,by rw[if_neg B];exact N.ls⟩⟩;rw[ay (v:=Δ v) Ψ ((h1.ext I).Qz rfl)];refine oD (l:=[u,v]) an.u ai.i Ξ rfl Ψ λac ad aa af a S=>?_;exact J _ _ ⟨q.trans a,by rw[if_pos B];exact S.ls⟩
theorem Eb {o:Int} {f:cb} {x:bB} (h:bw w ae gT A R n s t) (ab:Laid w) (af:s.funs[j]? =σ f) (aG:0<=pos/\pos<=1) (aH:f.sc.length=2) (M:f.sc[(1-pos).toNat]? =σ o) (J:s.vars[o.toNat]? =σ x):
  am x7 Gh [Γ ae,Δ (j:Int),Δ pos,Δ v] w λr w'=>Ext w w'/\r= .tuple #[Δ (bY n.k (aB x) (hz n s j pos v o)).1,Δ (bY n.k (aB x) (hz n s j pos v o)).2]:=by
 have ac:=((h.2.2.2.1.funs f (x5 af)).1.scope.1 o (x5 M)).1;have aI:j<4611686018427387904:=by
  have h1:=pg h.2.1 h.2.2.1;have aJ:=wF af;have aK:=(x4.1 af).1;have aL:j<=eS s j:=by
   unfold eS;have:j<=((s.funs.take j).flatMap fk).length:=by
    have ad:∀ (L:List cb),L.length<=(L.flatMap fk).length:=λL=>by
     induction L with
     |nil=>exact p8 _
     |cons a L aM=>rw[X7,o4,c9];have:(fk a).length=a.cs.length+1:=rfl;omega
    have ah:=ad (s.funs.take j);rw[j6] at ah;omega
   omega
  omega
 refine az func50 ?_;refine be λaj V aN ak C=>?_;refine be λal aa aO W G=>?_;refine be λao aP aQ N H=>?_;refine be λg1 E aR I O=>?_;have X:=((ak.trans W).trans N).trans I;have C:ag E aj dz [Γ ae]:=((C.ext W).ext N).ext I;have G:ag E al ai [Δ (j:Int)]:=(G.ext N).ext I;have H:ag E ao ai [Δ pos]:=H.ext I;have O:ag E g1 ai [Δ v]:=O;refine aV (λr P=>Ext E P/\ ∃e,r=Γ e/\ag P e ai [Δ o]) ?_ ?_
 .rintro _ P ⟨z,e,rfl,B⟩;have K:=X.trans z;rw[ay (v:=Γ ae) Ψ ((C.ext z).Qz rfl),ay (v:=Δ o) Ψ (B.Qz rfl),ix];refine (wQ (h.ext K) (ab.ext K) ac J (O1 (h.ext K) (O.ext z) (H.ext z) (C.ext z) (G.ext z) B _)).mono ?_;rintro _ aS _ ⟨ap,rfl⟩;rw[bo,bp];exact⟨K.trans ap,rfl⟩
 intro aA Y aT m _ _;have Z:=X.trans m;rw[ay (v:=Γ ae) Ψ ((C.ext m).Qz rfl),ay (v:=Δ (j:Int)) Ψ ((G.ext m).Qz rfl),ay (v:=Δ pos) Ψ ((H.ext m).Qz rfl),dF,wrap_i64 Ω Ω];refine⟨?_,?_⟩
 .refine (la (h.ext Z) af).mono ?_;rintro r aq _ ⟨p,au,av,Q⟩;refine⟨.inl p,?_⟩;refine oE (y:=1-pos) (i:=(1-pos).toNat) Ω an.u ai.i Q.ls M λaU co aw=>?_;rw[ay (v:=Δ o) Ψ aw];refine bD ai.i λe ax aC q B=>?_;refine⟨.inl q,.inl (p.trans q),?_⟩;have z9:=((m.trans p).trans q).size;refine bq (v:=Δ o) ai.i rfl rfl B Φ λaD S aE U=>?_;have aW:=(m.trans p).size;exact Y _ _ ⟨((m.trans p).trans q).then S λr aF he=>by have he:r=e:=he;omega,e,rfl,U⟩
 .refine bD ai.i λe ax aC q B=>?_;refine⟨.inl q,?_⟩;refine (la (h.ext (Z.trans q)) af).mono ?_;rintro r aq _ ⟨p,au,av,Q⟩;refine⟨.inl (q.trans p),?_⟩;rw[fM (y:=1-pos) (i:=(1-pos).toNat) Ω an.u ai.i Ψ Q.ls M];have aX:=m.size;refine bq (v:=Δ o) ai.i rfl rfl (B.ext p) Φ λaD S aE U=>?_;exact Y _ _ ⟨((m.trans q).trans p).then S λr aF he=>by have he:r=e:=he;omega,e,rfl,U⟩
def O2 (n:aR) (s:av) (j pos v:Int) (r:x1):Prop:=((¬∃f u x,jM s j pos v f u x)->r= .tuple #[Δ 0,Δ (-1),Δ 1])/\ ∀f u x,jM s j pos v f u x->(f.sc.length≠2->r= .tuple #[Δ 0,Δ (-1),Δ 1])/\
 (f.sc.length=2-> ∀o y,f.sc[(1-pos).toNat]? =σ o->s.vars[o.toNat]? =σ y->r= .tuple #[Δ (bY n.k (aB y) (hz n s j.toNat pos v o)).1,Δ (bY n.k (aB y) (hz n s j.toNat pos v o)).2,Δ 0])
theorem jM.same {j:Int} {f a:cb} {u u':Int} {x e:bB} (h:jM s j pos v f u x) (k:jM s j pos v a u' e):a=f/\u'=u/\e=x:=by
 have m:=h.af;rw[k.af] at m;cases m;have p:=h.hu;rw[k.hu] at p;cases p;have q:=h.J;rw[k.J] at q;cases q;exact⟨rfl,rfl,rfl⟩
theorem Ec {j:Int} (h:bw w ae gT A R n s t) (M:Laid w):am x7 FR [Γ ae,Δ j,Δ pos,Δ v] w λr w'=>Ext w w'/\O2 n s j pos v r:=by
 refine az func13 ?_;refine (DW h).mono ?_;rintro _ V _ ⟨B,e,rfl,he,E⟩;rw[bm,al];refine⟨λm=>⟨B,λ_=>by rw[he.resolve_left m],λf u x a=>absurd (E.2 ⟨f,u,x,a⟩) m⟩,λN=>?_⟩;obtain⟨f,u,x,a⟩:=E.1 (Z9.1 N);have G:=la (h.ext B) a.af;have X:=a.wR;rw[show ((j.toNat:Nat):Int)=j by omega] at G;refine G.mono ?_;rintro r aa _ ⟨O,Y,_,P⟩;have p:=B.trans O;rw[aW an.u P.ls,bm,al];refine⟨λm=>⟨p,λ_=>rfl,λQ u' S C=>⟨λ_=>rfl,λq=>?_⟩⟩,λq=>?_⟩
 .obtain⟨rfl,_⟩:=a.same C;omega
 have q:f.sc.length=2:=Ω
 have Z:=(x4.1 a.hu).1;have ab:=a.dS;obtain⟨o,z⟩:=aH (l:=f.sc) (i:=(1-pos).toNat) Ω;have H:=(h.2.2.2.1.funs f (x5 a.af)).1;have ac:=h.2.2.2.1.vars;have ad:=H.vars o (x5 z);have ag:=(H.scope.1 o (x5 z)).1;obtain⟨y,I⟩:=aH (l:=s.vars) (i:=o.toNat) Ω;have J:=Eb (v:=v) (h.ext p) (M.ext p) a.af ⟨a.dS,Ω⟩ q z I;rw[show ((j.toNat:Nat):Int)=j by omega] at J;refine J.mono ?_;rintro _ ah _ ⟨U,rfl⟩;rw[bo,bp];refine⟨p.trans U,λW=>absurd ⟨f,u,x,a⟩ W,λQ u' S C=>?_⟩;obtain⟨rfl,_⟩:=a.same C;refine⟨λm=>absurd q m,λ_ o' ai K L=>?_⟩;rw[z] at K;cases K;rw[I] at L;cases L;rfl
end
theorem O3 {x:Int} (h:aF .i64 w sv l):am x7 uA [sv,Δ x] w λv w'=>Ext w w'/\ ∃r:Int,v=Δ r/\(x∉l->r= -1)/\(x∈l->0<=r/\l[r.toNat]? =σ x):=by
 refine az func58 ?_;rw[aW an.u h];refine bZ.range l.length (λi _ V=>Ext w V/\x∉l.take i) h.le ⟨Ext.refl _,Ξ⟩ ?_ ?_
 .rintro i _ V k hi ⟨a,e⟩ hk;refine bH Ω ?_;obtain⟨y,f⟩:=aH (l:=l) hi;rw[bc an.u ai.i Ψ (h.ext a) f,bg,al];refine⟨λhe=>⟨a,i,rfl,λhm=>absurd (he▸x5 f) hm,λ_=>⟨Ω,by rw[he,u6];exact f⟩⟩,λhe=>?_⟩;rw[aP];refine hk _ _ ⟨a,λhm=>?_⟩;rw[u9,f] at hm;rcases o7.1 hm with hm|hm
  .exact e hm
  .simp at hm;exact he hm
 .rintro _ V k ⟨a,e⟩;rw[p9] at e;rw[aO,al];exact⟨λh=>Ω,λ_=>⟨a,-1,rfl,λ_=>rfl,λh=>absurd h e⟩⟩
theorem O4 {x:Int} (h:aF .i64 w sv l):am x7 G8 [sv,Δ x] w λv w'=>v= .bool (decide (x∈l))/\Ext w w':=by
 refine az func127 ?_;refine (O3 h).mono ?_;rintro _ V _ ⟨J,r,rfl,a,e⟩;rw[cP];refine⟨?_,J⟩;congr 1;refine decide_eq_decide.2 ⟨λj=>?_,λhm=>(e hm).1⟩;exact Z9.1 λf=>by have:=a f;omega
theorem O5 {cap:Array x1} {p:Int->Bool} (h:aF .i64 w sv l)
  (q:∀w' x,Ext w w'->x∈l->am x7 j (Δ x::cap.toList) w' λr s=>r= .bool (p x)/\Ext w' s):
  am x7 uD [sv,.func (.func j) #[] cap] w λv w'=>Ext w w'/\((v=Δ (-1)/\ ∀x∈l,p x=false)\/ ∃i:Nat,v=Δ (i:Int)/\i<l.length/\(∀x∈l.take i,p x=false)/\ ∀x,l[i]? =σ x->p x=true):=by
 refine az func102 ?_;rw[aW an.u h];refine bZ.range l.length (λi _ V=>Ext w V/\ ∀x∈l.take i,p x=false) h.le ⟨Ext.refl _,Ξ⟩ ?_ ?_
 .rintro i _ V k hi ⟨a,e⟩ hk;refine bH Ω ?_;obtain⟨y,f⟩:=aH (l:=l) hi;rw[bc an.u ai.i Ψ (h.ext a) f];refine am.mono (q V y a (x5 f)) ?_;rintro _ aa _ ⟨rfl,m⟩;rw[ce];refine⟨λz=>⟨a.trans m,.inr ⟨i,rfl,hi,e,λx J=>by rw[f] at J;cases J;exact z⟩⟩,λaf=>?_⟩;rw[aP];refine hk _ _ ⟨a.trans m,λx J=>?_⟩;rw[u9,f] at J;rcases o7.1 J with J|J
  .exact e x J
  .simp at J;subst J;exact af
 .rintro _ V k ⟨a,e⟩;rw[p9] at e;rw[aO,al];exact⟨λh=>Ω,λ_=>⟨a,.inl ⟨rfl,e⟩⟩⟩
theorem Ed {g Q:Nat} {cap:Array x1} {p:Int->Bool} (h:au .i64 e w g sv l) (aJ:l.length<=100000000)
  (R:∀w' x,ah (λr=>leads sv r) w w'->x∈l->am x7 Q (Δ x::cap.toList) w' λr Z=>r= .bool (p x)/\Ext w' Z):
  am x7 F6 [sv,.func (.func Q) #[] cap] w λv w'=>ah (λr=>leads sv r) w w'/\au .i64 e w' g v (l.filter λx=>!p x)/\ ∀r,leads v r->leads sv r:=by
 refine az func32 ?_;refine (O5 h.ls λw' x J=>R w' x (J.ab _)).mono ?_;rintro _ V _ ⟨B,⟨rfl,K⟩|⟨i,rfl,hi,K,aa⟩⟩
 .rw[bg,al];refine⟨λ_=>⟨B.ab _,?_⟩,λh=>absurd rfl h⟩;rw[List.filter_eq_self.2 λx J=>by rw[K x J];rfl];exact⟨h.ext B,λ_ h=>h⟩
 rw[bg,al];refine⟨λh=>Ω,λ_=>?_⟩;rw[aP,wrap_i64 Ω Ω];obtain⟨n,L⟩:∃n,l.length=n:=⟨_,rfl⟩;obtain⟨s,rfl⟩:∃s,sv= .slice (σ ⟨g,0,ν⟩) n s:=by
  obtain⟨_,⟨_,h1⟩|⟨s,cs,h1,_⟩⟩:=id h
  .omega
  .exact⟨s,by rw[h1,L]⟩
 obtain⟨_,_,_,_,aK,ac,_⟩:=qz h Ω;have S:∀r,r=g->leads (.slice (σ ⟨g,0,ν⟩) n s) r:=λr M=>⟨_,_,_,rfl,M.symm⟩;have ad:(l.take (i+1)).filter (λx=>!p x)=l.take i:=by
  obtain⟨y,z⟩:=aH (l:=l) hi;rw[u9,z,List.filter_append,List.filter_eq_self.2 λx J=>by rw[K x J];rfl];simp[aa y z]
 refine⟨λN O C=>∃ (q j:Nat) (f:Λ),N=Δ (q:Int)/\O=Δ (j:Int)/\q<j/\j<=n/\ah (λr=>r=g) w C/\au .i64 e C g (.slice (σ ⟨g,0,ν⟩) n s) f/\f.length=n/\f.take q=(l.take j).filter (λx=>!p x)/\ ∀k,j<=k->f[k]? =l[k]?,
  λ_ O _=>n-(bX O).toNat,⟨i,i+1,l,rfl,rfl,Ω,Ω,B.ab _,h.ext B,L,ad.symm,λ_ _=>rfl⟩,?_⟩
 rintro _ _ C ⟨q,j,f,rfl,rfl,aL,aM,E,G,U,A,P⟩;have aN:q=((l.take j).filter λx=>!p x).length:=by rw[<-A,j6];omega
 rw[hJ an.u,aO,al];refine⟨λae=>?_,λaQ=>?_⟩
 .have ae:j<n:=Ω
  obtain⟨y,z⟩:=aH (l:=l) (i:=j) Ω;have ag:f[j]? =σ y:=by rw[P j (p8 _),z]
  refine aV (λN H=>∃ (q:Nat) (f:Λ),N=Δ (q:Int)/\q<j+1/\ah (λr=>r=g) w H/\au .i64 e H g (.slice (σ ⟨g,0,ν⟩) n s) f/\f.length=n/\f.take q=(l.take (j+1)).filter (λx=>!p x)/\ ∀k,j+1<=k->f[k]? =l[k]?) ?_ ?_
  .rintro _ H ⟨q,f,rfl,h1,aj,ak,ao,ap,aq⟩;rw[aP,wrap_i64 Ω Ω];exact⟨⟨q,j+1,f,rfl,rfl,h1,Ω,aj,ak,ao,ap,aq⟩,by simp only[bX];omega⟩
  intro aA W;rw[bc an.u ai.i Ψ G.ls ag];refine am.mono (R C y (E.mono λr _=>S r) (x5 z)) ?_;rintro _ H _ ⟨rfl,I⟩;have X:(l.take (j+1)).filter (λx=>!p x)=(l.take j).filter (λx=>!p x)++[y].filter (λx=>!p x):=by rw[u9,z,List.filter_append];rfl
  rw[bG,ce];refine⟨λav=>?_,λaf=>?_⟩
  .have Y:=G.ext I;rw[hj rfl an.u ai.i Y Ω];refine hl ai.i Y Ω λaR aw aS ax=>?_;rw[aP,wrap_i64 Ω Ω];refine W _ _ ⟨q+1,_,rfl,Ω,(E.trans (I.ab _)).trans aw,ax,by simpa using U,?_,λk hk=>?_⟩
   .rw[X,u9,c7 Ω,List.take_set_of_le (p8 _),A];simp only[o9];rw[show[y].filter (λx=>!p x)=[y] by simpa using av]
   .rw[Y0 Ω];exact P k Ω
  .refine W _ _ ⟨q,f,rfl,Ω,E.trans (I.ab _),G.ext I,U,?_,λk hk=>P k Ω⟩;rw[X,show[y].filter (λx=>!p x)=[] by simpa using af,U4];exact A
 .have ay:j=n:=Ω
  subst ay;rw[<-L,p9] at A;obtain⟨_,_,cs,aB,_,_,aT,aC⟩:=qz G Ω;simp only[maxLen] at ac;rw[hK an.u ai.i (l:=q) (h:=j) (m:=s) pN jw fz Ω Ω Ω,if_neg Ω];have aD:V5 (λx:Addr=>x.add (q*1)) (σ ⟨g,0,ν⟩)=σ ⟨g,q,ν⟩:=by simp[T0]
  rw[aD];refine z6 an.u ai.i rfl rfl aB Ω Ω λaU aE aW aF=>?_;rw[hK an.u ai.i (l:=0) (h:=q) (m:=s) jv pO fz Ω Ω Ω,if_neg Ω];have aG:V5 (λx:Addr=>x.add (0*1)) (σ ⟨g,0,ν⟩)=σ ⟨g,0,ν⟩:=by simp[T0]
  rw[aG];refine⟨(E.trans aE).mono λr _=>S r,?_⟩;have aX:(l.filter λx=>!p x).length=q:=by rw[<-A,j6];omega
  rw[<-A,Nat.sub_zero];refine⟨?_,λr M=>by obtain⟨a,_,_,e,aI⟩:=M;cases e;exact⟨_,_,_,rfl,aI⟩⟩;refine au.of (n:=q) ⟨Θ,.inr ⟨s,_,Ξ,aF,Ω,by simp only[maxLen];omega,by rw[lH];omega,?_⟩⟩;rw[U1];apply Y3;intro k;by_cases hk:k<q
  .rw[Z8 hk,nh _ _ _ Θ,if_neg Ω,ints,x8,Z8 hk];have:(cs.take j)[k]? =(ints .i64 f)[k]?:=by rw[aC]
   rw[Z8 Ω,ints,x8] at this;exact this
  .rw[Z6 Θ,Z6 Θ]
def jO (s:av) (i:Int) (j:Nat):Bool:=match s.funs[j]? with
 |some f=>decide (f.live≠0)&&decide (i∈f.sc)
 |none=>false
def hW (s:av) (i:Int) (m:Nat):Λ:=((X4 m).filter (jO s i)).map λj:Nat=>(j:Int)
theorem O6 {A R:ak} {n:aR} {s:av} {t:aC} {i:Int} (h:bw w ae gT A R n s t):am x7 Gm [Γ ae,Δ i] w λv w'=>Ext w w'/\ ∃g,au .i64 ai w' g v (hW s i s.funs.length)/\ ∀r,leads v r->w.heap.size<=r:=by
 have ax:=pg h.2.1 h.2.2.1;have aB:s.funs.length<=100000000:=by
  have h1:=qH s;have N:∀ (L:List cb),L.length<=(L.flatMap fk).length:=λL=>by
   induction L with
   |nil=>exact p8 _
   |cons a L aD=>rw[X7,o4,c9];have:(fk a).length=a.cs.length+1:=rfl;omega
  have aE:=N s.funs;omega
 refine az func55 ?_;refine (tg h).mono ?_;rintro _ V _ ⟨rfl,O⟩;refine bZ.range s.funs.length (λj out aa=>Ext w aa/\ ∃g,au .i64 ai aa g out (hW s i j)/\ ∀r,leads out r->w.heap.size<=r) Ω ⟨O,0,au.nil _ _ _ _,λr C=>by obtain⟨a,n,c,P,aF⟩:=C;cases P⟩ ?_ ?_
 .rintro j out aa Q S ⟨m,g,hm,z⟩ U;obtain⟨f,af⟩:=aH (l:=s.funs) S;have H:hW s i (j+1)=if jO s i j=true then hW s i j++[(j:Int)] else hW s i j:=by
   unfold hW;rw[List.range_succ,List.filter_append];cases W:jO s i j<;>simp[W]
  refine bH Ω ?_;refine aV (λout q=>Ext w q/\ ∃g,au .i64 ai q g out (hW s i (j+1))/\ ∀r,leads out r->w.heap.size<=r) ?_ ?_
  .rintro out q X;rw[aP];exact U _ _ X
  intro aA I;refine aV (λr q=>r= .bool (jO s i j)/\Ext aa q) ?_ ?_
  .rintro _ q ⟨rfl,e⟩;rw[ce];refine⟨λY=>?_,λaf=>I _ _ ⟨m.trans e,g,by rw[H,if_neg (by rw[af];decide)];exact hm.ext e,z⟩⟩;refine ew (k:=.i64) an.u ai.i rfl λv4 aI Z aJ B ab=>?_;have aK:(hW s i j).length<=j:=by unfold hW;rw[u7];have:=List.length_filter_le (jO s i) (X4 j);rw[List.length_range] at this;exact this
   refine hx an.u ai.i rfl ((hm.ext e).ext B) ab.ls Θ Θ λv5 ac ad ag ah aj=>?_;have z3:=m.size;have ao:Ext w ad:=((m.trans e).trans B).then aj λr C he=>by have:=z r he;omega
   have z4:=((m.trans e).trans B).size;exact I _ _ ⟨ao,ac,by rw[H,if_pos Y];exact ag,λr C=>(ah r C).elim (z r) λh=>Ω⟩
  intro aL J;refine (ti (j:=(j:Int)) (h.ext m)).mono ?_;rintro _ q _ ⟨rfl,e⟩;rw[decide_eq_true Ω,T3,u6];have ap:fo s j=decide (f.live≠0):=by unfold fo;rw[af]
  rw[ap,al];refine⟨λE=>?_,λE=>J _ _ ⟨by unfold jO;rw[af];simp only;rw[decide_eq_false E];rfl,e⟩⟩;obtain⟨aM,aN,aS,aT,a7,aW,L,aX,aq,aY,aZ,a1,K,G⟩:=(h.ext (m.trans e)).1.parts;obtain⟨y,M⟩:∃y,L[j]? =σ y:=⟨_,x6 (by rw[G.1];omega)⟩;obtain⟨aw,_,_⟩:=G.2 j y f M af;rw[aQ cI.p 3 aq rfl,dx rfl fv.u fb.i K (by rw[G.1];omega),aU fb.p rfl,ay (v:=y.aG) Ψ (K.range M 0 _ rfl)];refine (O4 (x:=i) aw.ls).mono ?_;rintro _ Z _ ⟨rfl,B⟩;exact J _ _ ⟨by unfold jO;rw[af];simp only;rw[decide_eq_true E,T3],e.trans B⟩
 .rintro out aa Q ⟨m,g,hm,z⟩;rw[aO,al];exact⟨λh=>Ω,λ_=>⟨m,g,hm,z⟩⟩
theorem Ee {full c:List x1} {o q:Nat} {x:x1} (f:∀ (k:Nat) y,c[k]? =σ y->full[o+k]? =σ y) (h:o+c.length<=full.length) (j:q<c.length):full.set (o+q) x=over full o (c.set q x):=by
 refine Y3 λk=>?_;rw[nh _ _ _ (by rw[c8];exact h),Y7,c8];by_cases h1:o<=k/\k<o+c.length
 .rw[if_pos h1,Y7];by_cases a:o+q=k
  .rw[if_pos a,if_pos Ω,if_pos Ω,if_pos Ω]
  .rw[if_neg a,if_neg Ω];have e:k-o<c.length:=Ω
   have:=f (k-o) c[k-o] (x6 e);rw[x6 e,<-this];congr 1;omega
 .rw[if_neg h1,if_neg Ω]
section
variable {w0 w w':x3} {ae gT aq ga:Nat} {A R:ak} {A9:Nat->ak} {aK:ak} {n:aR} {s u u':av} {t:aC} {h:List aC} {cs:List x1} {aI aG lb v:x1} {Q:x1->x3->Prop}
theorem ct.gC (p:ct w ae gT aq A R A9 aK n s u t h cs):(∀i j r,i≠j->A9 i r->¬A9 j r)/\ ∀i r,A9 i r->¬aK r:=by
 obtain⟨_,_,_,_,_,_,_,_,_,_,_,_,_,a⟩:=p.doc;exact a rfl
theorem ct.O7 {T:ak} (p:ct w ae gT aq A R A9 aK n s u t h cs) (x:∀q r,A9 q r->r<w.heap.size) (ad:cs[6]? =σ v) (e:ah T w w') (f:∀r,r<w.heap.size->T r->A9 3 r) (y:bE (λr=>A9 3 r\/w.heap.size<=r) aK w' [v] (u'.funs.map hb))
  (z:u'.zero=u.zero) (C:u'.vars=u.vars) (E:u'.gW=u.gW):∃ck,ct w' ae gT aq A R ck aK n s u' t h cs/\ ∀q r,ck q r->(∃F,A9 F r)\/w.heap.size<=r:=by
 have G:=cg.kw p.doc (w4 e) (λr a=>.inl (f r a.2 a.1)) y (λj r H a=>?_) (λr a=>?_)
 .have m:=w5 (w:=w) (A9:=A9) (q:=3) (B:=λr=>A9 3 r\/w.heap.size<=r) λr h=>h;refine⟨_,p.row e f ?_ m,m⟩;have:=cg.qa ad G;unfold ik;rw[z,C,E];exact this
 .rcases a with a|a
  .exact p.gC.1 3 j r (Ne.symm H) a
  .exact λh=>by have:=x j r h;omega
 .rcases a with a|a
  .exact p.gC.2 3 r a
  .exact λh=>by have:=(p.read r h).2.1;omega
end
theorem O8 {m:Int} {w:Int} (ad:0<=v) (hw:0<=w):dropped (((m.toNat ||| 2 ^ v.toNat:Nat):Int)) w=(dropped m w||decide (w=v)):=by
 unfold dropped;rw[u6,Nat.testBit_or,Nat.testBit_two_pow];congr 1;exact decide_eq_decide.2 ⟨λh=>Ω,λh=>Ω⟩
theorem w6 {x:bB} (ad:0<=v):aB {x with mask:=((x.mask.toNat ||| 2 ^ v.toNat:Nat):Int)}=(aB x).filter λy=>!decide (y=v):=by
 unfold aB;rw[List.filter_filter];refine List.filter_congr λy a=>?_;obtain⟨q,_,rfl⟩:=l9.1 a;rw[O8 ad Ω];cases dropped x.mask (q:Int)<;>simp
section
variable {w0 w w':x3} {ae gT aq ga:Nat} {A R:ak} {A9:Nat->ak} {aK:ak} {n:aR} {s u u':av} {t:aC} {h:List aC} {cs:List x1} {aI aG lb v:x1} {Q:x1->x3->Prop}
theorem ct.nZ {T:ak} (p:ct w ae gT aq A R A9 aK n s u t h cs) (y:∀q r,A9 q r->r<w.heap.size) (ad:cs[3]? =σ v) (e:ah T w w') (f:∀r,r<w.heap.size->T r->A9 0 r) (z:bE (λr=>A9 0 r\/w.heap.size<=r) aK w' [v] (u'.vars.map aB))
  (C:u'.zero=u.zero) (E:u'.vars.map (·.un)=u.vars.map (·.un)) (F:(u'.vars.map λx=>decide (x.gone≠0))=u.vars.map λx=>decide (x.gone≠0)) (G:u'.funs=u.funs) (H:u'.gW=u.gW):
  ∃ck,ct w' ae gT aq A R ck aK n s u' t h cs/\ ∀q r,ck q r->(∃I,A9 I r)\/w.heap.size<=r:=by
 have J:=cg.Dz p.doc (w4 e) (λr a=>.inl (f r a.2 a.1)) z (λj r K a=>?_) (λr a=>?_)
 .have m:=w5 (w:=w) (A9:=A9) (q:=0) (B:=λr=>A9 0 r\/w.heap.size<=r) λr h=>h;refine⟨_,p.row e f ?_ m,m⟩;have:=cg.qa ad J;unfold ik;rw[C,E,F,G,H];exact this
 .rcases a with a|a
  .exact p.gC.1 0 j r (Ne.symm K) a
  .exact λh=>by have:=y j r h;omega
 .rcases a with a|a
  .exact p.gC.2 0 r a
  .exact λh=>by have:=(p.read r h).2.1;omega
end
section
variable {w0 w w':x3} {ae gT aq ga:Nat} {A R:ak} {A9:Nat->ak} {aK:ak} {n:aR} {s u u':av} {t:aC} {h:List aC} {cs:List x1} {aI aG lb v:x1} {Q:x1->x3->Prop}
theorem O9 {F:ak} {c:List x1} {f:cb} (h:bE (α:=ij) F R w c (hb f)) (y:∀r,F r->¬R r):∃aG szv a6 e,c=[aG,szv,a6,.bool (decide (f.live≠0))]/\bE e R w [a6] f.cs/\(∀r,e r->F r)/\
  ∀ {w':x3} {ca:Λ},ah e w w'->bE e R w' [a6] ca->bE (α:=ij) F R w' c (hb {f with cs:=ca}):=by
 obtain⟨Z,L,A,B,rfl,z,M,N,h1,m⟩:=h;obtain⟨O,aa,aS,P,rfl,Q,C,E,G,S⟩:=h1;obtain⟨T,U,V,p,rfl,W,q,H,I,J⟩:=S;have m:L=[.bool (decide (f.live≠0))]:=m;subst m;obtain⟨s,rfl⟩:=W7.1 (show O.length=1 from ao.len G);obtain⟨j,rfl⟩:=W7.1 (show T.length=1 from ao.len I);obtain⟨v3,rfl⟩:=W7.1 (show U.length=1 from ao.len J);have x:∀r,p r->F r:=λr h=>z r (C r (q r h));refine⟨s,j,v3,p,rfl,J,x,λ{w' ca} K X=>?_⟩;refine⟨[s,j,v3],[.bool (decide (f.live≠0))],A,B,rfl,z,M,N,⟨[s],[j,v3],aS,P,rfl,Q,C,E,ao.ab G K λr Y a he=>?_,[j],[v3],V,p,rfl,W,q,H,ao.ab I K λr Y a he=>?_,X⟩,rfl⟩
 .exact a.elim (λa=>E rfl r a (q r he)) (y r (x r he))
 .exact a.elim (λa=>H rfl r a he) (y r (x r he))
end
theorem dk.vars {s:av} {i:Nat} {x y:bB} (h:dk s) (J:s.vars[i]? =σ x) (m:y.gone=x.gone):dk {s with vars:=s.vars.set i y}:=λf af j v ad z a=>by
 have a:(s.vars.set i y)[v.toNat]? =σ z:=a;rw[Y7] at a;split at a
 .rename_i e;split at a
  .cases a;subst e;rw[m];exact h f af j v ad x J
  .cases a
 .exact h f af j v ad z a
theorem dk.funs {s:av} {f g:cb} (h:dk s) (af:s.funs[j]? =σ f) (U:g.sc=f.sc) (m:g.live≠0->f.live≠0):dk {s with funs:=s.funs.set j g}:=λx J a v ad z e=>by
 rcases X8 J with J|rfl
 .exact h x J a v ad z e
 .exact h f (x5 af) (m a) v (by rw[<-U];exact ad) z e
structure hA where
 kind:Nat
 i:Int
 pos:Int
 v:Int
 c:Int
def en (s:av) (i v:Int):Option bB:=if 0<=i then match s.vars[i.toNat]? with
 |some x=>if x.gone=0/\v∈aB x then σ x else ν
 |none=>ν else ν
def eo (s:av) (j pos v:Int):Option (cb×Int×bB):=if 0<=j/\0<=pos then match s.funs[j.toNat]? with
 |some f=>if f.live≠0 then match f.sc[pos.toNat]? with
  |some u=>(en s u v).map λx=>(f,u,x)
  |none=>ν
  else ν
 |none=>ν else ν
def lX (k:Int) (s:av) (f:cb) (pos:Nat) (v:Int):Int:=((bL s f.sc pos v).map (bj f.aj f.cs)).foldl min k
def dl (k c most:Int):Int:=if ¬(0<=c/\c<=k) then 3 else if most<c then 7 else 0
def iP (x:bB):Int:=match (aB x).map λv=>x.un.getD v.toNat 0 with
 |[]=>-1
 |c::l=>l.foldl min c
def fX (s:av) (i:Nat) (v:Int):Λ->av
 |[]=>s
 |w::L=>fX (if w≠v then ek s i w.toNat else s) i v L
def cB (k:Int) (s:av) (a:hA):av×Int:=
 if a.kind=0 then match eo s a.i a.pos a.v with
  |none=>(s,1)
  |some (f,u,x)=>if dl k a.c (lX k s f a.pos.toNat a.v)≠0 then (s,dl k a.c (lX k s f a.pos.toNat a.v)) else (iO s a.i.toNat f a.pos.toNat u.toNat x a.v (λg=>dJ k g a.c) λg=>dK k g a.c,0)
 else if a.kind=1 then match eo s a.i a.pos a.v with
  |none=>(s,1)
  |some (f,u,x)=>if dl k a.c (x.un.getD a.v.toNat 0)≠0 then (s,dl k a.c (x.un.getD a.v.toNat 0)) else (iO s a.i.toNat f a.pos.toNat u.toNat x a.v (λg=>dK k g a.c) λg=>dJ k g a.c,0)
 else if a.kind=2 then match (if 0<=a.i then s.vars[a.i.toNat]? else ν) with
  |none=>(s,1)
  |some x=>if x.gone≠0 then (s,1) else if dl k a.c (iP x)≠0 then (s,dl k a.c (iP x)) else (kx s a.i.toNat x (λg=>dJ k g a.c) λg=>dK k g a.c,0)
 else if a.kind=3 then match (if 0<=a.i then s.vars[a.i.toNat]? else ν) with
  |none=>(s,1)
  |some x=>if x.gone≠0 then (s,1) else if dl k a.c (if aB x=[] then-1 else s.zero)≠0 then (s,dl k a.c (if aB x=[] then-1 else s.zero)) else (kx s a.i.toNat x (λg=>dK k g a.c) λg=>dJ k g a.c,0)
 else if a.kind=4 then match en s a.i a.v with
  |none=>(s,1)
  |some x=>if dK k s.zero (x.un.getD a.v.toNat 0)<k then (s,7) else (ek s a.i.toNat a.v.toNat,0)
 else match en s a.i a.v with
  |none=>(s,1)
  |some x=>(fX s a.i.toNat a.v (aB x),0)
theorem po:∀ (l:Λ) (z c:Int),c<=l.foldl min z↔c<=z/\ ∀x∈l,c<=x
 |[],z,c=>Ξ
 |a::l,z,c=>by
  rw[U8,po l (min z a) c];rw[List.forall_mem_cons];exact⟨λ⟨h1,e⟩=>⟨Ω,Ω,e⟩,λ⟨h1,e,f⟩=>⟨Ω,f⟩⟩
theorem mH {most:Int} (h:¬dl k c most≠0):(0<=c/\c<=k)/\c<=most:=by
 unfold dl at h;split at h
 .exact absurd Φ h
 .rename_i h1;split at h
  .exact absurd Φ h
  .exact⟨Z9.1 h1,Ω⟩
theorem ky {s:av} {i:Int} {x:bB} (h:en s i v=σ x):0<=i/\s.vars[i.toNat]? =σ x/\x.gone=0/\v∈aB x:=by
 unfold en at h;split at h
 .rename_i e;split at h
  .rename_i y f;split at h
   .rename_i a;cases h;exact⟨e,f,a.1,a.2⟩
   .cases h
  .cases h
 .cases h
theorem mI {s:av} {j u:Int} {f:cb} {x:bB} (h:eo s j pos v=σ (f,u,x)):0<=j/\0<=pos/\s.funs[j.toNat]? =σ f/\f.live≠0/\f.sc[pos.toNat]? =σ u/\en s u v=σ x:=by
 unfold eo at h;split at h
 .rename_i a;split at h
  .rename_i g e;split at h
   .rename_i m;split at h
    .rename_i w hw;cases ad:en s w v with
     |none=>rw[ad] at h;cases h
     |some y=>
      rw[ad] at h;cases h;exact⟨a.1,a.2,e,m,hw,ad⟩
    .cases h
   .cases h
  .cases h
 .cases h
section
variable {k:Int} {sizes a:Λ} {s:av}
theorem mJ {g:Int} (a:0<=g/\g<=k) (e:0<=c/\c<=g):0<=dJ k g c/\dJ k g c<=k:=by
 unfold dJ;split<;>omega
theorem mK {g:Int} (a:0<=g/\g<=k) (e:0<=c):0<=dK k g c/\dK k g c<=k:=by
 unfold dK;omega
theorem hB {u:Nat} {v:Nat} {x:bB} (a:bt k sizes s) (J:s.vars[u]? =σ x):0<=x.un.getD v 0/\x.un.getD v 0<=k:=by
 have hk:=a.eg;have e:=(x4.1 J).1;have f:=a.vars;exact DZ Ω (a.var u x _ J (x6 Ω)).2.1
theorem mL {f:cb} (a:bt k sizes s) (af:f∈s.funs):0<=bj f.aj f.cs t/\bj f.aj f.cs t<=k:=(sV a.eg λc e=>⟨a.eg,(a.funs f af).1.hT c e⟩).2
theorem w7 {x:bB} (h:v∈aB x) (a:c<=iP x):c<=x.un.getD v.toNat 0:=by
 unfold iP at a;have hm:x.un.getD v.toNat 0∈(aB x).map λv=>x.un.getD v.toNat 0:=l9.2 ⟨v,h,rfl⟩;generalize (aB x).map (λv=>x.un.getD v.toNat 0)=l at a hm;cases l with
 |nil=>cases hm
 |cons b l=>
  have h1:=(po l b c).1 a;rcases W9.1 hm with e|e
  .rw[e];exact h1.1
  .exact h1.2 _ e
theorem qW {i:Nat} {v:Int} {x:bB}:∀ (L:Λ) (s:av),bt k sizes s->s.vars[i]? =σ x->(∀w∈L,0<=w/\w<x.un.length)->bt k sizes (fX s i v L)/\(dk s->dk (fX s i v L))/\
  ∀bf,k3 s a->x.gone=0->a[i]? =σ bf->gX k (fX s i v L) a=if bf∈L/\bf≠v then k else gX k s a
 |[],s,p,J,_=>⟨p,id,λbf _ _ _=>by rw[if_neg Ξ];rfl⟩
 |w::L,s,p,J,A=>by
  unfold fX;by_cases hw:w≠v
  .rw[if_pos hw];have E:=A w (.head _);have H:=w2 p J E;have F:=(x4.1 J).1;have I:(ek s i w.toNat).vars[i]? =σ {x with mask:=((x.mask.toNat ||| 2 ^ w.toNat:Nat):Int)}:=by rw[lV J];exact c7 F
   obtain⟨h1,B,C⟩:=qW L (ek s i w.toNat) H I λu hu=>A u (.tail _ hu);refine⟨h1,λK=>B ?_,λbf j r z=>?_⟩
   .rw[lV J];exact dk.vars K J rfl
   .have M:k3 (ek s i w.toNat) a:=by
     rw[lV J];refine⟨by show a.length=(s.vars.set _ _).length;rw[c8];exact j.1,λq y b m G=>?_⟩;have m:(s.vars.set i {x with mask:=((x.mask.toNat ||| 2 ^ w.toNat:Nat):Int)})[q]? =σ y:=m;by_cases e:i=q
     .subst e;rw[c7 F] at m;cases m;exact j.2 i x b J G
     .rw[Y0 e] at m;exact j.2 q y b m G
    rw[C bf M r z,D8 p j J r E z];by_cases e:bf=w
    .subst e;rw[if_pos rfl,if_pos (show bf∈bf::L/\bf≠v from⟨.head _,hw⟩)];split<;>rfl
    .rw[if_neg e];by_cases f:bf∈L/\bf≠v
     .rw[if_pos f,if_pos ⟨.tail _ f.1,f.2⟩]
     .rw[if_neg f,if_neg λh=>f ⟨(W9.1 h.1).resolve_left e,h.2⟩]
  .rw[if_neg hw];obtain⟨h1,B,C⟩:=qW L s p J λu hu=>A u (.tail _ hu);refine⟨h1,B,λbf j r z=>?_⟩;rw[C bf j r z];have hw:=Z9.1 hw;by_cases f:bf∈L/\bf≠v
   .rw[if_pos f,if_pos ⟨.tail _ f.1,f.2⟩]
   .rw[if_neg f,if_neg λh=>f ⟨(W9.1 h.1).resolve_left λe=>h.2 (e.trans hw),h.2⟩]
theorem dk.zero (h:dk s):dk {s with zero:=c}:=h
theorem Eg {pos u:Nat} {f:cb} {x:bB} {tup un:Int->Int} (h:dk s) (af:s.funs[j]? =σ f) (J:s.vars[u]? =σ x):dk (iO s j f pos u x v tup un):=
 dk.vars (s:=dL s j f (dy tup (bL s f.sc pos v) f.aj f.cs)) (dk.funs h af rfl id) J rfl
theorem Eh {u:Nat} {x:bB} {g z:Int->Int} (h:dk s) (J:s.vars[u]? =σ x):dk (kx s u x g z):=dk.zero (dk.vars h J rfl)
def pp (k:Int) (s:av) (m:hA) (s':av) (e:Int) (a:Λ):Prop:=gX k s' a=if 5<=m.kind/\e=0/\a[m.i.toNat]? ≠σ m.v then k else gX k s a
theorem Pa {m:hA} (j:bt k sizes s) (E:dk s):bt k sizes (cB k s m).1/\dk (cB k s m).1/\ ∀a,k3 s a->pp k s m (cB k s m).1 (cB k s m).2 a:=by
 have hk:=j.eg;have A:∀e:Int,e≠0->bt k sizes s/\dk s/\ ∀a,k3 s a->pp k s m s e a:=λe he=>⟨j,E,λa _=>by unfold pp;rw[if_neg λh=>he h.2.1]⟩;have low:∀ {s':av} {e:Int},m.kind<5->bt k sizes s'->dk s'->(∀a,k3 s a->gX k s' a=gX k s a)->bt k sizes s'/\dk s'/\ ∀a,k3 s a->pp k s m s' e a:=λhm h1 I S=>⟨h1,I,λa p=>by unfold pp;rw[if_neg λh=>Ω];exact S a p⟩;unfold cB;split
 .rename_i O;cases y:eo s m.i m.pos m.v with
  |none=>exact A 1 Φ
  |some q=>
   obtain⟨f,u,x⟩:=q;simp only;split
   .rename_i he;exact A _ he
   .rename_i he;obtain⟨z,hm⟩:=mH he;simp only;obtain⟨_,_,af,K,hu,ad⟩:=mI y;obtain⟨Z,J,C,P⟩:=ky ad;have F:=x5 af;have T:∀t∈bL s f.sc m.pos.toNat m.v,m.c<=bj f.aj f.cs t:=λt B=>((po _ _ _).1 hm).2 _ (l9.2 ⟨t,B,rfl⟩);have Q:f.sc[m.pos.toNat]? =σ ((u.toNat:Nat):Int):=by rw[hu];congr 1;omega
    have B:∀t∈bL s f.sc m.pos.toNat m.v,0<=dJ k (bj f.aj f.cs t) m.c/\dJ k (bj f.aj f.cs t) m.c<=k:=λt B=>mJ (mL j F) ⟨z.1,T t B⟩;have L:=mK (k:=k) (hB (v:=m.v.toNat) j J) z.1;refine low Ω (D4 j af J B L) (Eg E af J) λa p=>D5 j p af K Q J P (E f F K) B L λt B r G=>?_;have:=mL (t:=t) j F;exact tr G ⟨T t B,this.2⟩ (hB j J) z.1
 split
 .rename_i _ O;cases y:eo s m.i m.pos m.v with
  |none=>exact A 1 Φ
  |some q=>
   obtain⟨f,u,x⟩:=q;simp only;split
   .rename_i he;exact A _ he
   .rename_i he;obtain⟨z,hm⟩:=mH he;simp only;obtain⟨_,_,af,K,hu,ad⟩:=mI y;obtain⟨Z,J,C,P⟩:=ky ad;have F:=x5 af;have Q:f.sc[m.pos.toNat]? =σ ((u.toNat:Nat):Int):=by rw[hu];congr 1;omega
    have B:∀t∈bL s f.sc m.pos.toNat m.v,0<=dK k (bj f.aj f.cs t) m.c/\dK k (bj f.aj f.cs t) m.c<=k:=λt B=>mK (mL j F) z.1;have L:=mJ (k:=k) (hB (v:=m.v.toNat) j J) ⟨z.1,hm⟩;refine low Ω (D4 j af J B L) (Eg E af J) λa p=>D5 j p af K Q J P (E f F K) B L λt B r G=>?_;have h1:=mL (t:=t) j F;have I:=hB (v:=m.v.toNat) j J;have:=tr (k:=k) G ⟨hm,I.2⟩ h1 z.1;omega
 split
 .rename_i _ _ O;cases y:(if 0<=m.i then s.vars[m.i.toNat]? else ν) with
  |none=>exact A 1 Φ
  |some x=>
   have J:s.vars[m.i.toNat]? =σ x:=by split at y;exact y;cases y
   simp only;split
   .exact A 1 Φ
   split
   .rename_i he;exact A _ he
   .rename_i C he;obtain⟨z,hm⟩:=mH he;simp only;have U:∀v∈aB x,m.c<=x.un.getD v.toNat 0:=λv ad=>w7 ad hm;have M:∀v∈aB x,0<=dJ k (x.un.getD v.toNat 0) m.c/\dJ k (x.un.getD v.toNat 0) m.c<=k:=λv ad=>mJ (hB j J) ⟨z.1,U v ad⟩;have N:=mK (k:=k) j.zero z.1;refine low Ω (w1 j J M N) (Eh E J) λa p=>D7 j p J (Z9.1 C) M N λv ad r G=>?_;exact tr G ⟨U v ad,(hB j J).2⟩ j.zero z.1
 split
 .rename_i _ _ _ O;cases y:(if 0<=m.i then s.vars[m.i.toNat]? else ν) with
  |none=>exact A 1 Φ
  |some x=>
   have J:s.vars[m.i.toNat]? =σ x:=by split at y;exact y;cases y
   simp only;obtain⟨V,W⟩:∃V,V=(if aB x=[] then-1 else s.zero):=⟨_,rfl⟩;rw[<-W];split
   .exact A 1 Φ
   split
   .rename_i he;exact A _ he
   .rename_i C he;obtain⟨z,hm⟩:=mH he;simp only;have X:m.c<=s.zero:=by
     rw[W] at hm;split at hm
     .omega
     .exact hm
    have M:∀v∈aB x,0<=dK k (x.un.getD v.toNat 0) m.c/\dK k (x.un.getD v.toNat 0) m.c<=k:=λv ad=>mK (hB j J) z.1;have N:=mJ (k:=k) j.zero ⟨z.1,X⟩;refine low Ω (w1 j J M N) (Eh E J) λa p=>D7 j p J (Z9.1 C) M N λv ad r G=>?_;have:=tr (k:=k) G ⟨X,j.zero.2⟩ (hB (v:=v.toNat) j J) z.1;omega
 split
 .rename_i _ _ _ _ O;cases y:en s m.i m.v with
  |none=>exact A 1 Φ
  |some x=>
   obtain⟨_,J,C,ad⟩:=ky y;simp only;split
   .exact A 7 Φ
   .rename_i he;have Y:=(gq.1 ad).1;simp only;refine low Ω (w2 j J Y) (by rw[lV J];exact dk.vars E J rfl) λa p=>?_;have aa:=(x4.1 J).1;have ab:=p.1;obtain⟨bf,H⟩:=aH (l:=a) (i:=m.i.toNat) Ω;rw[D8 j p J C Y H];split
    .rename_i e;subst e;rw[nX j];split
     .have ac:(s.vars.zip a)[m.i.toNat]? =σ (x,m.v):=List.getElem?_zip_eq_some.2 ⟨J,H⟩;have h1:=qT (ts (a:=a) j) (i:=m.i.toNat) (x:=du (x,m.v)) (by rw[x8,ac];rfl);have I:=qS _ (qU (a:=a) j);have ag:du (x,m.v)=x.un.getD m.v.toNat 0:=by unfold du;rw[if_neg (by simp[C])]
      unfold dK at he;omega
     .rfl
    .rfl
 .rename_i h1 I S ah ai;cases y:en s m.i m.v with
  |none=>exact A 1 Φ
  |some x=>
   obtain⟨_,J,C,ad⟩:=ky y;simp only;have R:∀w∈aB x,0<=w/\w<x.un.length:=λw hw=>(gq.1 hw).1;refine⟨(qW (a:=[]) (aB x) s j J R).1,(qW (a:=[]) (aB x) s j J R).2.1 E,λa p=>?_⟩;have aa:=(x4.1 J).1;have ab:=p.1;obtain⟨bf,H⟩:=aH (l:=a) (i:=m.i.toNat) Ω;unfold pp;rw[(qW (aB x) s j J R).2.2 bf p C H,H];by_cases e:bf=m.v
   .rw[if_neg λh=>h.2 e,if_neg λh=>h.2.2 (by rw[e])]
   .rw[if_pos (c:=5<=m.kind/\_) ⟨Ω,rfl,λh=>e (b6 h)⟩];split
    .rfl
    .rename_i ae;exact OW p J C H λh=>ae ⟨h,e⟩
end
theorem Pb {f:Int->Int} (U:dG aj) (p:cs.length<=(bi aj).length) (h:∀t∈L,f (bj aj cs t)=bj aj cs t):dy f L aj cs=cs:=by
 apply Y3;intro i;cases a:cs[i]? with
 |none=>
  have h1:=List.getElem?_eq_none_iff.1 a;rw[Z6 (by rw[nU]<;>omega)]
 |some c=>
  obtain⟨t,j⟩:=aH (l:=bi aj) (i:=i) (by have:=(x4.1 a).1;omega);rw[pi j a];split
  .rename_i m;have e:bj aj cs t=c:=by
    unfold bj;rw[je U j];simp only;rw[u6,v8,a];rfl
   have:=h t m;rw[e] at this;rw[this]
  .rfl
section
variable {k:Int} {sizes:Λ} {s:av}
end
section
variable {k:Int} {sizes:Λ} {s:av}
theorem n0 {f:cb} {pos:Nat} (a:bt k sizes s) (af:f∈s.funs) (ad:∀u,f.sc[pos]? =σ u->v∈cj s u) (h:t∈bL s f.sc pos v):∃m:Nat,ci f.aj t 0=σ (m:Int):=by
 obtain⟨e,j,_⟩:=a.funs f af;obtain⟨p,_⟩:=jN a af;rw[wU a (λu hu=>⟨(e.scope.1 u hu).1,e.vars u hu⟩) ad,<-j] at h;obtain⟨i,hi⟩:=X1.1 (T6.1 h).1;exact⟨i,je p hi⟩
end
section
variable {k:Int} {sizes:Λ} {s:av}
theorem Pc {m:hA} (h:(cB k s m).2≠0):(cB k s m).1=s:=by
 generalize hm:cB k s m=r at h ⊢;unfold cB at hm
 repeat' split at hm
 all_goals (subst hm;first|rfl|exact absurd rfl h)
end
theorem Pd (U:dG aj):(bi aj).Nodup:=by
 rw[List.nodup_iff_pairwise_ne,V3];intro i j hi a f he;have h1:=je U (x6 hi);have e:=je U (x6 a);rw[he,e] at h1;have:=b6 h1;omega
section
variable {k:Int} {sizes:Λ} {s:av}
theorem Ei {f:cb} {pos:Nat} (a:bt k sizes s) (af:f∈s.funs) (ad:∀u,f.sc[pos]? =σ u->v∈cj s u):(bL s f.sc pos v).Nodup:=by
 obtain⟨e,h,_⟩:=a.funs f af;obtain⟨j,_⟩:=jN a af;rw[wU a (λu hu=>⟨(e.scope.1 u hu).1,e.vars u hu⟩) ad,<-h];exact (Pd j).sublist List.filter_sublist
theorem w8 {α:Type} {l:List α} {q:Nat} {a:α} (e:l.Nodup) (h:l[q]? =σ a):a∉l.take q:=λhm=>by
 obtain⟨i,hi⟩:=X1.1 hm;have f:i<q:=by have:=(x4.1 hi).1;rw[j6] at this;omega
 rw[Z8 f] at hi;have h1:=(x4.1 hi).1;have j:=(x4.1 h).1;have:=(List.getElem_inj e (h₀:=h1) (h₁:=j)).1 (by rw[(x4.1 hi).2,(x4.1 h).2]);omega
theorem Ej {f:cb} (af:s.funs[j]? =σ f) (e:f.live≠0) (hi:ci f.aj t 0=σ (m:Int)):eC s j t=bj f.aj f.cs t/\ ∃p,gL s j t=σ p:=by
 have h:∃p,gL s j t=σ p:=by
  unfold gL;rw[af];simp only;rw[if_pos e,hi];exact⟨_,rfl⟩
 obtain⟨p,a⟩:=h;refine⟨?_,p,a⟩;unfold eC;rw[a,T1,if_pos rfl];unfold lU;rw[af]
theorem Ek {q:Nat} {f:cb} {g:Int->Int} (x:bt k sizes s) (af:s.funs[j]? =σ f) (y:L.Nodup) (p:L[q]? =σ t) (hi:ci f.aj t 0=σ (m:Int)):
  bj f.aj (dy g (L.take q) f.aj f.cs) t=bj f.aj f.cs t/\kw (dL s j f (dy g (L.take q) f.aj f.cs)) j m (g (bj f.aj f.cs t))=dL s j f (dy g (L.take (q+1)) f.aj f.cs):=by
 obtain⟨a,z⟩:=jN x (x5 af);have r:=w8 y p;refine⟨by rw[D0 a z hi,if_neg r],?_⟩;have h:=kg a hi;rw[u6] at h;have C:=(x4.1 h).1;obtain⟨c,w⟩:=aH (l:=f.cs) (i:=m) Ω;have e:bj f.aj f.cs t=c:=by
  unfold bj;rw[hi];simp only;rw[u6,v8,w];rfl
 have A:=(OJ (f:=g) a Ω h w r).2;unfold kw;have B:(dL s j f (dy g (L.take q) f.aj f.cs)).funs[j]? =σ {f with cs:=dy g (L.take q) f.aj f.cs}:=c7 (x4.1 af).1;rw[B,e];simp only;rw[A,u9,p];unfold dL;simp only[List.set_set];rfl
end
section
variable {w:x3} {ae gT:Nat} {A R:ak} {n:aR} {s:av} {t:aC}
theorem w9 {i:Int} (h:bw w ae gT A R n s t):am x7 G0 [Γ ae,Δ i,Δ v] w λr w'=>Ext w w'/\r=Δ (if (en s i v).isSome=true then 0 else 1):=by
 have I:=h.2.2.2.1.vars;refine az func118 ?_;rw[db dz.u];simp only[Z4,a1];refine aV (λr V=>r= .bool (!(en s i v).isSome)/\Ext w V) ?_ ?_
 .rintro _ V ⟨rfl,z⟩;rw[ce];exact⟨λf=>⟨z,by rw[if_neg (by simpa using f)]⟩,λf=>⟨z,by rw[if_pos (by simpa using f)]⟩⟩
 intro aA B;refine (th (i:=i) h).mono ?_;rintro _ aa _ ⟨rfl,j⟩;rw[ce];refine⟨λa=>B _ _ ⟨?_,j⟩,λa=>?_⟩
 .rw[V1,decide_eq_true_eq] at a;have p:en s i v=ν:=by
   unfold en;rw[if_pos a.1];have q:=a.2;unfold ji at q;cases J:s.vars[i.toNat]? with
   |none=>rfl
   |some x=>
    rw[J] at q;simp only;rw[if_neg λh=>by simp[h.1] at q]
  rw[p];rfl
 refine (jL (i:=i) (h.ext j)).mono ?_;rintro _ K _ ⟨⟨b,m,rfl,y⟩,E⟩;refine (DD (v:=v) y.1).mono ?_;rintro _ L _ ⟨rfl,G⟩;rw[bG];refine B _ _ ⟨?_,(j.trans E).trans G⟩;congr 2;by_cases e:0<=i/\i<n.sizes.length
 .obtain⟨x,J⟩:=aH (l:=s.vars) (i:=i.toNat) Ω;rw[DR y e.1 J];unfold en;rw[if_pos e.1,J];have H:x.gone=0:=by
   rw[decide_eq_true e.1,T3] at a;unfold ji at a;rw[J] at a;simpa using a
  simp only;by_cases ad:v∈aB x
  .rw[decide_eq_true ad,if_pos ⟨H,ad⟩];rfl
  .rw[decide_eq_false ad,if_neg λh=>ad h.2];rfl
 .obtain⟨rfl,rfl⟩:=y.2.1 e;have p:en s i v=ν:=by
   unfold en;by_cases C:0<=i
   .rw[if_pos C,Z6 Ω]
   .rw[if_neg C]
  rw[p,decide_eq_false Ω];rfl
def Pe (s:av) (j pos v:Int) (u e:Int):Prop:=(e=0/\ ∃f x,eo s j pos v=σ (f,u,x))\/(e=1/\eo s j pos v=ν)
theorem El {j:Int} (h:bw w ae gT A R n s t):am x7 GS [Γ ae,Δ j,Δ pos,Δ v] w λr w'=>Ext w w'/\ ∃u e,r= .tuple #[Δ u,Δ e]/\Pe s j pos v u e:=by
 refine az func109 ?_;rw[db dz.u];simp only[Z4,a1];have key:∀ (K:x1->x3->Prop),(∀r w',Ext w w'->(∀f,0<=j->s.funs[j.toNat]? =σ f->aF .i64 w' r f.sc)->K r w')->am x7 pH [Γ ae,Δ j] w K:=λK Q=>by
  by_cases S:0<=j/\j<s.funs.length
  .obtain⟨f,af⟩:=aH (l:=s.funs) (i:=j.toNat) Ω;have:=la h af;rw[show ((j.toNat:Nat):Int)=j by omega] at this;refine this.mono ?_;rintro r V _ ⟨z,g,_,hm⟩;exact Q r V z λE _ U=>by rw[af] at U;cases U;exact hm.ls
  .refine (DL h S).mono ?_;rintro r V _ ⟨rfl,z⟩;exact Q _ V z λf B af=>absurd ⟨B,by have:=(x4.1 af).1;omega⟩ S
 refine key _ λr V z W=>?_;have I:∀ {P:Prop},(¬∃f u,0<=j/\0<=pos/\s.funs[j.toNat]? =σ f/\f.live≠0/\f.sc[pos.toNat]? =σ u)->(eo s j pos v=ν->P)->P:=λm ah=>ah (by
  cases G:eo s j pos v with
  |none=>rfl
  |some q=>
   obtain⟨f,u,x⟩:=q;obtain⟨J,L,a3,a4,a5,_⟩:=mI G;exact absurd ⟨f,u,J,L,a3,a4,a5⟩ m)
 refine aV (λX aa=>Ext V aa/\((X= .bool true/\eo s j pos v=ν)\/(X= .bool false/\ ∃f u,0<=j/\0<=pos/\s.funs[j.toNat]? =σ f/\f.live≠0/\f.sc[pos.toNat]? =σ u))) ?_ ?_
 .rintro _ aa ⟨M,⟨rfl,m⟩|⟨rfl,f,u,B,Y,af,aj,hu⟩⟩
  .rw[bQ];exact⟨z.trans M,0,1,rfl,.inr ⟨rfl,m⟩⟩
  .rw[a1];intro ak p _ _;have Z:=(W f B af).ext (M.trans p);refine oE (y:=pos) (i:=pos.toNat) Ω an.u ai.i Z hu λb o ao=>?_;rw[ay (v:=Δ u) Ψ ao,fM (y:=pos) (i:=pos.toNat) Ω an.u ai.i Ψ Z hu];have ab:=(z.trans M).trans p;refine (w9 (i:=u) (v:=v) (h.ext ab)).mono ?_;rintro _ aq _ ⟨ac,rfl⟩;refine⟨.inl ac,ab.trans ac,u,_,rfl,?_⟩;have G:eo s j pos v=(en s u v).map λx=>(f,u,x):=by
    unfold eo;rw[if_pos ⟨B,Y⟩,af];simp only;rw[if_pos aj,hu]
   cases ad:en s u v with
   |none=>exact .inr ⟨rfl,by rw[G,ad];rfl⟩
   |some x=>exact .inl ⟨rfl,f,x,by rw[G,ad];rfl⟩
 intro aA H;refine (ti (j:=j) (h.ext z)).mono ?_;rintro _ ak _ ⟨rfl,p⟩;have same:∀ {f E:cb},s.funs[j.toNat]? =σ f->s.funs[j.toNat]? =σ E->E=f:=λa b=>by rw[a] at b;exact (b6 b).symm
 rw[bG,ce];refine⟨λN=>I (λ⟨f,u,J,L,a3,a4,a5⟩=>?_) λm=>H _ _ ⟨p,.inl ⟨rfl,m⟩⟩,λO=>?_⟩
 .unfold fo at N;rw[a3] at N;simp[J,a4] at N
 have O:0<=j/\fo s j.toNat=true:=by simpa using O
 obtain⟨B,C⟩:=O;obtain⟨f,af,ap⟩:∃f,s.funs[j.toNat]? =σ f/\f.live≠0:=by
  unfold fo at C;cases af:s.funs[j.toNat]? with
  |none=>rw[af] at C;cases C
  |some f=>rw[af] at C;exact⟨f,rfl,by simpa using C⟩
 rw[aO,al];refine⟨λau=>I (λ⟨_,_,_,L,_⟩=>Ω) λm=>H _ _ ⟨p,.inl ⟨rfl,m⟩⟩,λY=>?_⟩;rw[aW an.u ((W f B af).ext p),cP];by_cases ag:(f.sc.length:Int)<=pos
 .refine I (λ⟨E,u,_,_,a3,_,a5⟩=>?_) λm=>H _ _ ⟨p,.inl ⟨by rw[decide_eq_true ag],m⟩⟩;obtain rfl:=same af a3;have:=(x4.1 a5).1;omega
 .obtain⟨u,hu⟩:=aH (l:=f.sc) (i:=pos.toNat) Ω;exact H _ _ ⟨p,.inr ⟨by rw[decide_eq_false ag],f,u,B,Ω,af,ap,hu⟩⟩
theorem tA {most:Int} (h:bw w ae gT A R n s t):am x7 GU [Γ ae,Δ c,Δ most] w λr w'=>Ext w w'/\r=Δ (dl n.k c most):=by
 refine az func110 ?_;refine (k9 h).mono ?_;rintro _ V _ ⟨rfl,a⟩;refine jy.mono ?_;rintro _ aa _ ⟨rfl,e⟩;have hi:cq c n.k↔0<=c/\c<=n.k:=⟨λh=>h.2,λj=>⟨h.2.2.2.1.eg,j⟩⟩;unfold dl;rw[bG,ce];refine⟨λf=>⟨a.trans e,?_⟩,λf=>?_⟩
 .have:¬cq c n.k:=by simpa using f
  rw[if_pos λh=>this (hi.2 h)]
 .have:cq c n.k:=by simpa using f
  rw[if_neg λh=>h (hi.1 this),bU,al];exact⟨λh=>⟨a.trans e,by rw[if_pos h]⟩,λh=>⟨a.trans e,by rw[if_neg h]⟩⟩
theorem Pf {b:Int} (hk:right k) (f:0<=a/\a<=k) (j:0<=b/\b<=k) (q:a=k\/b<=a):am x7 HL [Δ a,Δ b,Δ k] w λv w'=>v= .tuple #[Δ (dJ k a b),Δ 0]/\Ext w w':=by
 have s:1<=k/\k<=2147483648:=hk;refine az func177 ?_;refine aV (λr V=>r= .bool false/\Ext w V) ?_ ?_
 .rintro _ V ⟨rfl,e⟩;unfold dJ;rw[a1,bg,al];refine⟨λh=>⟨by rw[if_pos h],e⟩,λh=>?_⟩;rw[if_neg h,bU,al];refine⟨λx=>Ω,λ_=>?_⟩;rw[dF,wrap_i64 Ω Ω];exact⟨rfl,e⟩
 intro aA m;refine jy.mono ?_;rintro _ V _ ⟨rfl,e⟩;rw[decide_eq_true (show cq a k from⟨hk,f⟩),bG,Y6,a1];refine jy.mono ?_;rintro _ aa _ ⟨rfl,p⟩;rw[decide_eq_true (show cq b k from⟨hk,j⟩),bG,Y6];exact m _ _ ⟨rfl,e.trans p⟩
theorem tB (h:bw w ae gT A R n s t) (e:0<=a/\a<=n.k) (f:0<=c/\c<=n.k) (j:a=n.k\/c<=a):am x7 m9 [Γ ae,Δ a,Δ c] w λr w'=>r=Δ (dJ n.k a c)/\Ext w w':=by
 refine az func112 ?_;refine (k9 h).mono ?_;rintro _ V _ ⟨rfl,m⟩;refine (Pf h.2.2.2.1.eg e f j).mono ?_;rintro _ aa _ ⟨rfl,p⟩;rw[bo,bp];exact⟨rfl,m.trans p⟩
theorem qX (h:bw w ae gT A R n s t) (e:0<=a/\a<=n.k) (f:0<=c/\c<=n.k):am x7 na [Γ ae,Δ a,Δ c] w λr w'=>r=Δ (dK n.k a c)/\Ext w w':=by
 refine az func113 ?_;refine (k9 h).mono ?_;rintro _ V _ ⟨rfl,j⟩;refine (OA e f h.2.2.2.1.eg).mono ?_;rintro _ aa _ ⟨rfl,m⟩;rw[bo,bp];exact⟨rfl,j.trans m⟩
end
theorem Pg {g n c:Nat} {cs:List x1} (a:ag w g cJ cs) (h:∀w',ah (λr=>r=g) w w'->(∀o vs,w.rangeAt g o vs->w'.rangeAt g o vs)->K (.slice (σ ⟨g,0,ν⟩) n c) w'):
  aD x7 (convert cN cN (.slice (σ ⟨g,0,ν⟩) n c)) w K:=by
 have f:∀r,(w.freeze ⟨g,cs.length,ν⟩ 1).heap[r]? =if g=r then (w.heap[r]?).map (λ| .cells c m (lo,hi)=>.cells c m (if lo == hi then (cs.length,cs.length+1) else (min lo cs.length,max hi (cs.length+1)))|o=>o) else w.heap[r]?:=λr=>by
  unfold x3.freeze;rw[if_neg Φ];exact Array.getElem?_modify
 have y:(w.freeze ⟨g,cs.length,ν⟩ 1).heap.size=w.heap.size:=by
  unfold x3.freeze;rw[if_neg Φ];exact Array.size_modify
 have p:w.shape? g=σ (cJ,cs.length):=by
  unfold x3.shape?;unfold ag at a;rw[a];simp
 have q:(convert cN cN (.slice (σ ⟨g,0,ν⟩) n c)).run x7 w= .ok (.slice (σ ⟨g,0,ν⟩) n c) (w.freeze ⟨g,cs.length,ν⟩ 1):=by
  simp[convert,run_underlying cN.u,run_underlying cJ.u,markStringish,p]
 unfold ag at a;refine .of q ⟨by unfold x3.freeze;rw[if_neg Φ],.jV (by unfold x3.freeze;rw[if_neg Φ]) (by unfold x3.freeze;rw[if_neg Φ]),by unfold x3.freeze;rw[if_neg Φ],Ω,λr o e U=>?_⟩ (h _ ⟨Ω,λr o e _ s=>?_⟩ λo vs ad j v x=>?_)
 .rw[f];by_cases he:g=r
  .subst he;rw[a] at e;cases e;cases U
  .rw[if_neg he];exact e
 .rw[f,if_neg λhe=>s he.symm];exact e
 .have h1:=ad j v x;unfold x3.cell? at h1 ⊢;rw[f,if_pos rfl];rw[a] at h1 ⊢;exact h1
def xa (s0 s:av):Prop:=s.zero=s0.zero/\s.funs=s0.funs/\s.vars.length=s0.vars.length/\ ∀ (i:Nat) x,s.vars[i]? =σ x-> ∃a,s0.vars[i]? =σ a/\x.un=a.un/\x.gone=0/\a.gone=0/\a.mask=0
theorem xa.new (n:aR):xa (cL n) (cL n):=⟨rfl,rfl,rfl,λi x J=>by
 refine⟨x,J,rfl,?_⟩;have J:(n.unary.map newVar)[i]? =σ x:=J;rw[x8] at J;obtain⟨u,_,rfl⟩:=Y5.1 J;exact⟨rfl,rfl,rfl⟩⟩
theorem Ph (n:aR):dk (cL n):=λf _ _ v _ x J=>by
 obtain⟨_,_,_,h,_⟩:=(xa.new n).2.2.2 _ x J;exact h
theorem Pj {aa p:x3} {aq:Nat} {y:x1} {cs:List x1} {f:b2} (E:tm B aa y cs f) (J:Ext aa p) (F:ag p aq a8 cs) (L:aa.heap.size<=aq):
  ∃ae gT A R A9 aK t,y=Γ ae/\ct p ae gT aq A R A9 aK (cQ f) (cL (cQ f)) (cL (cQ f)) t [] cs/\t.marks=[]/\(∀r,A r->B<=r)/\(∀q r,A9 q r->B<=r)/\t.cells.length<=2000000/\t.olds.length=0/\(cQ f).funs.length<=256/\t.iz=0/\(∀r,aK r->B<=r)/\ ∀r,R r->B<=r:=by
 obtain⟨ae,gT,A,R,t,N,A9,aK,s,rfl,w,e,G,H,x,j,I⟩:=E;have C:=tx w;have z:=J.size;have m:=(s9 (B9 s).1 (wN s) (cQ f).unary.length (cQ f).funs.length);rw[wn,<-w.2.1] at m;unfold aC.bT at m;rw[u7] at m;refine⟨ae,gT,A,R,λq r=>A9 q r/\r<aa.heap.size,aK,t,rfl,⟨w.ext J,e.2.2.1,F,H.old.ext J,λq r h=>⟨(x q r h.1).1,(x q r h.1).2.1,by have:=h.2;omega⟩,λr a=>⟨λh=>(j r a).1 (nN (λo K U _=>J.aZ r o K U) h),by have:=(j r a).2;omega,by have:=(j r a).2;omega⟩,λh=>by have:=C aq (.inl h);omega,λh=>by have:=C aq (.inr h);omega⟩,e.1,G,λq r h=>(x q r h.1).2.2,m,by rw[e.2.1];rfl,wN s,e.2.2.2,λr a=>(j r a).2.2,I⟩
section
variable {w w':x3} {ae gT aq de:Nat} {A R O M aK:ak} {A9:Nat->ak} {k:Int} {sizes:Λ} {U:List av} {n:aR} {s u:av} {t:aC} {h:List aC} {cs:List x1}
theorem ct.Em (p:ct w ae gT aq A R A9 aK n s u t h cs):∀q r,A9 q r->¬aK r:=by
 obtain⟨_,_,_,_,_,_,_,_,_,_,_,_,_,a⟩:=p.doc;exact (a rfl).2
end
theorem En {w0:x3} {out:x1} {g:Nat} {x:Int} (e:Ext w0 w) (hm:au .i64 ai w g out l) (f:∀r,leads out r->w0.heap.size<=r) (E:l.length<=1000000000)
  (m:∀v w' p,Ext w0 w'->au .i64 ai w' p v (l++[x])->(∀r,leads v r->w0.heap.size<=r)->K v w'):
  aD x7 (Y4 an 1 #[(0,Δ x)]) w λy V=>aD x7 (b9 #[an,an] an #[out,y]) V K:=by
 refine ew (k:=.i64) an.u ai.i rfl λv4 F G H a q=>?_;refine hx an.u ai.i rfl (hm.ext a) q.ls Θ Θ λv5 s I A B C=>?_;have z:=(e.trans a).size;exact m _ _ s ((e.trans a).then C λr j he=>by have:=f r he;omega) A λr j=>(B r j).elim (f r) λh=>Ω
theorem pq (x:bB):(aB x).length<=x.un.length:=by
 unfold aB;have:=List.length_filter_le (λv:Int=>!dropped x.mask v) ((X4 x.un.length).map λv:Nat=>(v:Int));rw[u7,List.length_range] at this;exact this
section
variable {w:x3} {ae gT:Nat} {A R:ak} {n:aR} {s:av} {t:aC}
end
def ld (s:av) (sc t:Λ):Bool:=(sc.zip t).all λp=>match s.vars[p.1.toNat]? with
 |some x=>decide (p.2∈aB x)
 |none=>false
section
variable {w:x3} {ae gT:Nat} {A R:ak} {n:aR} {s:av} {t:aC}
end
theorem Eo {b:Bool} {a6:x1} {a e f:Λ} (h1:Seen ee w [aG] a) (h:Seen ee w [szv] e) (j:Seen ee w [a6] f):∀u∈[aG,szv,a6,.bool b],u.oneCell'=true:=by
 intro u hu;simp only[W9,List.not_mem_nil,or_false] at hu;rcases hu with rfl|rfl|rfl|rfl
 .exact gD h1
 .exact gD h
 .exact gD j
 .rfl
section
variable {w:x3} {ae gT:Nat} {A R:ak} {n:aR} {s:av} {t:aC} {dY:x1}
end
def lY (aj t:Λ):Int:=(ci aj t 0).getD 0
def iQ (s:av) (f:cb) (pos:Nat) (v:Int):Λ:=(bL s f.sc pos v).map (lY f.aj)
def kz (s:av) (sc:Λ) (pos:Nat) (v:Int) (t:Λ):Bool:=decide (t.getD pos 0=v)&&ld s sc t
section
variable {k:Int} {sizes:Λ} {s:av} {f:cb} {pos:Nat} {v:Int}
theorem Pk:ld s sc t=true↔ ∀ (p:Nat) u w,sc[p]? =σ u->t[p]? =σ w->w∈cj s u:=by
 unfold ld;rw[List.all_eq_true];constructor
 .intro h p u w hu hw;have:=h (u,w) (x5 (List.getElem?_zip_eq_some.2 ⟨hu,hw⟩));unfold cj;cases J:s.vars[u.toNat]? with
  |none=>simp[J] at this
  |some x=>simpa[J] using this
 .rintro h ⟨u,w⟩ hm;obtain⟨p,a⟩:=X1.1 hm;obtain⟨h1,e⟩:=List.getElem?_zip_eq_some.1 a;have:=h p u w h1 e;unfold cj at this;simp only;cases J:s.vars[u.toNat]? with
  |none=>rw[J] at this;cases this
  |some x=>rw[J] at this;simpa using this
theorem Pl (m:bt k sizes s) (af:f∈s.funs) (z:pos<f.sc.length) (ad:∀u,f.sc[pos]? =σ u->v∈cj s u):bL s f.sc pos v=(bi f.aj).filter (kz s f.sc pos v):=by
 obtain⟨q,r,_⟩:=m.funs f af;have j:=wU m (λu hu=>⟨(q.scope.1 u hu).1,q.vars u hu⟩) ad;rw[<-r] at j;have h1:∀t∈bi f.aj,(mE (nW s pos v f.sc 0) t=true↔t∈bL s f.sc pos v):=λt a=>by rw[j,T6];exact⟨λh=>⟨a,h⟩,λh=>h.2⟩
 rw[j];refine List.filter_congr λt a=>?_;have A:t.length=f.sc.length:=by rw[rW a,r];simp[bS]
 rw[V6,h1 t a,wZ,kz,V1,decide_eq_true_eq,Pk];constructor
 .rintro⟨_,h⟩;obtain⟨u,hu⟩:=aH (l:=f.sc) z;obtain⟨w,hw⟩:=aH (l:=t) (i:=pos) Ω;have x:=h pos u w hu hw;rw[if_pos rfl] at x;refine⟨by rw[v8,hw];exact x,λp u' w' y B=>?_⟩;have:=h p u' w' y B;split at this
  .rename_i e;subst e;rw[this];exact ad u' y
  .exact this
 .rintro⟨h1,C⟩;refine⟨A,λp u w hu hw=>?_⟩;split
  .rename_i e;subst e;rw[v8,hw] at h1;exact h1
  .exact C p u w hu hw
end
section
variable {w:x3} {dY:x1} {k:Int} {sizes:Λ} {s:av}
theorem Pm {j:Int} (h:iN w dY k sizes s) (Y:bt k sizes s) (aj:dk s):am x7 HH [dY,Δ j,Δ pos,Δ v] w λr w'=>Ext w w'/\ ∃u,r= .tuple #[Δ u,.bool (eo s j pos v).isSome]:=by
 have aF:=Y.vars;refine az func172 ?_;refine be λg1 V aG E ak=>?_;have Z:=h.box E ak;obtain⟨szv,aI,aJ,aK,aL,aN,G,aP,_,ao,aQ,aR,ab,aS⟩:=id Z;refine aV (λr aa=>Ext V aa/\((r= .bool true/\eo s j pos v=ν)\/(r= .bool false/\ ∃f u,0<=j/\0<=pos/\s.funs[j.toNat]? =σ f/\f.live≠0/\f.sc[pos.toNat]? =σ u))) ?_ λaA B=>?_
 .rintro _ aa ⟨m,⟨rfl,e⟩|⟨rfl,f,u,H,ac,af,ad,hu⟩⟩
  .rw[bQ,e];exact⟨E.trans m,0,rfl⟩
  .rw[a1];have ae:=x5 af;have I:=x5 hu;obtain⟨ag,aT,_⟩:=Y.funs f ae;have K:=(ag.scope.1 u I).1;have aX:=ag.vars u I;have K:0<=u:=K;obtain⟨x,J⟩:=aH (l:=s.vars) (i:=u.toNat) Ω;rw[aM a8.p 6 (G.ext m) rfl];refine kb (i:=j.toNat) Ω eN.u dm.i (bI ab m) (by rw[x8,af];rfl) λb o cs L M=>?_;obtain⟨N,ap,v3,rfl,h1,aq,au⟩:=lW M;rw[aU dm.p rfl,aU aY.p rfl,ay (v:=N) Ψ (L 0 _ rfl),fM (y:=pos) (i:=pos.toNat) Ω an.u ai.i Ψ (dc h1) hu,aM a8.p 3 (G.ext m) rfl];refine hM (α:=Λ) (a:=aB x) (i:=u.toNat) rfl Ω c5.u an.i Ψ (bI ao m) (by rw[x8,J];rfl) λaZ av=>?_;refine (wM (dc av)).mono ?_;rintro _ a2 _ ⟨rfl,aw⟩;refine⟨(E.trans m).trans aw,u,?_⟩;have ax:=aj f ae ad u I x J;have O:eo s j pos v=(en s u v).map λx=>(f,u,x):=by
    unfold eo;rw[if_pos ⟨H,ac⟩,af];simp only;rw[if_pos ad,hu]
   have aC:en s u v=if v∈aB x then σ x else ν:=by
    unfold en;rw[if_pos K,J];simp only[ax,true_and]
   rw[O,aC];by_cases C:v∈aB x
   .rw[if_pos C,decide_eq_true C];rfl
   .rw[if_neg C,decide_eq_false C];rfl
 have Q:∀ {P:Prop},(¬∃f u,0<=j/\0<=pos/\s.funs[j.toNat]? =σ f/\f.live≠0/\f.sc[pos.toNat]? =σ u)->(eo s j pos v=ν->P)->P:=λe aD=>aD (by
  cases O:eo s j pos v with
  |none=>rfl
  |some q=>
   obtain⟨f,u,x⟩:=q;obtain⟨R,S,a3,a4,a5,_⟩:=mI O;exact absurd ⟨f,u,R,S,a3,a4,a5⟩ e)
 refine Z.load λu hu=>?_;refine (OY (j:=j) hu).mono ?_;rintro _ a6 _ ⟨rfl,z⟩;have same:∀ {f U:cb},s.funs[j.toNat]? =σ f->s.funs[j.toNat]? =σ U->U=f:=λa b=>by rw[a] at b;exact (b6 b).symm
 rw[bG,ce];refine⟨λW=>Q (λ⟨f,u,R,S,a3,a4,a5⟩=>?_) λe=>B _ _ ⟨z,.inl ⟨rfl,e⟩⟩,λX=>?_⟩
 .unfold fo at W;rw[a3] at W;simp[R,a4] at W
 have X:0<=j/\fo s j.toNat=true:=by simpa using X
 obtain⟨H,A⟩:=X;obtain⟨f,af,aE⟩:∃f,s.funs[j.toNat]? =σ f/\f.live≠0:=by
  unfold fo at A;cases af:s.funs[j.toNat]? with
  |none=>rw[af] at A;cases A
  |some f=>rw[af] at A;exact⟨f,rfl,by simpa using A⟩
 rw[aO,al];refine⟨λa7=>Q (λ⟨_,_,_,S,_⟩=>Ω) λe=>B _ _ ⟨z,.inl ⟨rfl,e⟩⟩,λac=>?_⟩;rw[aM a8.p 6 (G.ext z) rfl];refine kb (i:=j.toNat) Ω eN.u dm.i (bI ab z) (by rw[x8,af];rfl) λb o cs L M=>?_;obtain⟨N,ap,v3,rfl,h1,aq,au⟩:=lW M;rw[aU dm.p rfl,aU aY.p rfl,ay (v:=N) Ψ (L 0 _ rfl),aW an.u (dc h1),cP];by_cases ah:(f.sc.length:Int)<=pos
 .refine Q (λ⟨U,u,_,_,a3,_,a5⟩=>?_) λe=>B _ _ ⟨z,.inl ⟨by rw[decide_eq_true ah],e⟩⟩;obtain rfl:=same af a3;have:=(x4.1 a5).1;omega
 .obtain⟨u,hu⟩:=aH (l:=f.sc) (i:=pos.toNat) Ω;exact B _ _ ⟨z,.inr ⟨by rw[decide_eq_false ah],f,u,H,Ω,af,aE,hu⟩⟩
theorem xb {pos:Nat} {f:cb} (h:iN w dY k sizes s) (L:bt k sizes s) (af:s.funs[j]? =σ f) (aL:pos<f.sc.length) (ad:∀u,f.sc[pos]? =σ u->v∈cj s u):
  am x7 Gg [dY,Δ (j:Int),Δ (pos:Int),Δ v] w λr w'=>Ext w w'/\aF .i64 w' r (iQ s f pos v)/\ ∀q,leads r q->w.heap.size<=q:=by
 have bz:=L.vars;have S:=x5 af;obtain⟨M,ah,_⟩:=L.funs f S;have N:=(jN L S).1;have aO:f.aj.length=f.sc.length:=by rw[ah];simp[bS]
 have bA:=h3 N;have bB:(bi f.aj).length<=4096:=by
  have O:aN (bS sizes f.sc)<=4096:=M.small;rw[<-ah] at O;omega
 refine az func49 ?_;refine be λg1 V bC U aQ=>?_;obtain⟨szv,bE,bF,bG,bJ,bK,ak,bL,_,aR,bM,bN,aS,bO⟩:=h.box U aQ;rw[aM a8.p 6 ak rfl];refine kb (i:=j) rfl eN.u dm.i aS (by rw[x8,af];rfl) λb o cs E aT=>?_;obtain⟨W,X,v3,rfl,h1,O,aX⟩:=lW aT;rw[aU dm.p rfl,bR (cs:=[W,X,v3]) aY.p aY.i rfl (λq u m=>by
  have:q<3:=(x4.1 m).1
  match q,this,m with
  |0,_,m=>cases m;exact E 0 _ rfl
  |1,_,m=>cases m;exact E 1 _ rfl
  |2,_,m=>cases m;exact E 2 _ rfl)]
 refine bD aY.i λbP aa bQ aZ a1=>?_;have a2:∀u∈[W,X,v3],u.oneCell'=true:=λu hu=>by
  simp only[W9,List.not_mem_nil,or_false] at hu;rcases hu with rfl|rfl|rfl
  .exact gD h1
  .exact gD O
  .exact gD aX
 refine ch (vs:=[W,X,v3]) aY.i rfl rfl a2 a1 λa6 a7 bT al=>?_;have ao:Ext V a6:=aZ.put a7 Ω;have Y:=dc h1;have ba:=dc O;rw[aM aY.p 1 al rfl];refine (r5 f.aj (ba.ext ao) ⟨by rw[aO];exact M.scope.2,N⟩).mono ?_;rintro bU G _ ⟨ap,aq⟩;have Z:=ao.trans ap;rw[hL c5.u aq];refine bZ.range (bi f.aj).length (λi out C=>Ext G C/\(∃g,au .i64 ai C g out ((((bi f.aj).take i).filter (kz s f.sc pos v)).map (lY f.aj)))/\ ∀r,leads out r->G.heap.size<=r) Ω ⟨Ext.refl _,⟨0,au.nil _ _ _ _⟩,λr E=>by obtain⟨_,_,_,e,_⟩:=E;cases e⟩ ?_ ?_
 .rintro q out C bb m ⟨z,⟨g,hm⟩,P⟩ bd;have H:(bi f.aj)[q]? =σ (cS f.aj (q:Int)):=p3 N Ω;generalize cS f.aj (q:Int)=tl at H;have bV:=uU H;have bf:=je N H;have bh:lY f.aj tl=(q:Int):=by unfold lY;rw[bf];rfl
  have Q:=Z.trans z;have av:((bi f.aj).take (q+1)).filter (kz s f.sc pos v)=((bi f.aj).take q).filter (kz s f.sc pos v)++(if kz s f.sc pos v tl=true then[tl] else[]):=by
   rw[u9,H,o9,List.filter_append];congr 1;cases aJ:kz s f.sc pos v tl<;>simp[aJ]
  obtain⟨ab,aw⟩:=aH (l:=tl) (i:=pos) Ω;refine bH Ω ?_;refine aV (λax ay=>Ext G ay/\(∃g,au .i64 ai ay g ax ((((bi f.aj).take (q+1)).filter (kz s f.sc pos v)).map (lY f.aj)))/\ ∀r,leads ax r->G.heap.size<=r) (λ_ _ ac=>by rw[aP];exact bd _ _ ac) λaA I=>?_;refine hM (α:=Λ) rfl rfl c5.u an.i Ψ (bI aq z) H λaI R=>?_;have R:=dc R;rw[bc an.u ai.i Ψ R aw,bg,aM aY.p 0 (al.ext (ap.trans z)) rfl,aW an.u (Y.ext Q)];refine bZ.range f.sc.length (λp ok ae=>Ext C ae/\ok= .bool (decide (ab=v)&&ld s (f.sc.take p) (tl.take p))) Y.le ⟨Ext.refl _,by simp[ld]⟩ ?_ ?_
  .rintro p _ ae bj bk ⟨A,rfl⟩ bl;obtain⟨u,ag⟩:=aH (l:=f.sc) bk;obtain⟨y,aC⟩:=aH (l:=tl) (i:=p) Ω;have aD:=x5 ag;have aE:=(M.scope.1 u aD).1;have aG:=M.vars u aD;have aG:u<sizes.length:=aG;have aE:0<=u:=aE;obtain⟨x,J⟩:=aH (l:=s.vars) (i:=u.toNat) Ω;have aK:ld s (f.sc.take (p+1)) (tl.take (p+1))=(ld s (f.sc.take p) (tl.take p)&&decide (y∈aB x)):=by
    unfold ld;rw[u9,u9,ag,aC,o9,o9,List.zip_append Θ,List.all_append];simp[J]
   refine bH Ω ?_;refine aV (λok bm=>Ext C bm/\ok= .bool (decide (ab=v)&&ld s (f.sc.take (p+1)) (tl.take (p+1)))) (λ_ _ ac=>by rw[aP];exact bl _ _ ac) λaA I=>?_;rw[bc an.u ai.i Ψ (Y.ext (Q.trans A)) ag];intro bW bn _ _;have K:=A.trans bn;rw[ce];refine⟨λB=>?_,λB=>I _ _ ⟨K,by rw[aK,<-Bool.and_assoc,B];rfl⟩⟩;rw[aM a8.p 3 (ak.ext (Q.trans K)) rfl];refine hM (α:=Λ) (a:=aB x) (i:=u.toNat) rfl Ω c5.u an.i Ψ (bI aR (Q.trans K)) (by rw[x8,J];rfl) λbX bo=>?_;rw[bc an.u ai.i Ψ (R.ext K) aC];refine (wM (dc bo)).mono ?_;rintro _ bY _ ⟨rfl,bp⟩;exact I _ _ ⟨K.trans bp,by rw[aK,<-Bool.and_assoc,B,T3]⟩
  .rintro _ ae bj ⟨A,rfl⟩;rw[p9,b8 Ω];refine cp Ω ?_;have bq:(decide (ab=v)&&ld s f.sc tl)=kz s f.sc pos v tl:=by unfold kz;rw[v8,aw];rfl
   rw[bq,ce];refine⟨λB=>?_,λB=>I _ _ ⟨z.trans A,⟨g,by rw[av,if_neg (by rw[B];decide),U4];exact hm.ext A⟩,P⟩⟩;refine En (w0:=G) (z.trans A) (hm.ext A) P ?_ λb0 w' br bu bw bx=>I _ _ ⟨bu,⟨br,?_⟩,bx⟩
   .rw[u7];have h1:=List.length_filter_le (kz s f.sc pos v) ((bi f.aj).take q);rw[j6] at h1;omega
   .rw[av,if_pos B,Z0,List.map_singleton,bh];exact bw
 .rintro out C bb ⟨z,⟨g,hm⟩,P⟩;rw[p9,<-Pl L S aL ad] at hm;refine cp Ω ?_;exact⟨(U.trans Z).trans z,hm.ls,λq m=>by have:=P q m;have:=(U.trans Z).size;omega⟩
theorem Pn {j:Int} (h:iN w dY k sizes s) (e:bt k sizes s) (O:dk s):
  am x7 GM [dY,Δ j,Δ pos,Δ v] w λr w'=>Ext w w'/\r=(match eo s j pos v with|some (f,_,_)=>.tuple #[Δ (lX k s f pos.toNat v),.bool true]|none=>.tuple #[Δ 0,.bool false]):=by
 refine az func103 ?_;refine be λg1 V aA y P=>?_;have G:=h.box y P;refine G.load λu hu=>?_;refine (Pm hu e O).mono ?_;rintro _ aa _ ⟨z,eR,rfl⟩;rw[bo,bp,bG];cases Q:eo s j pos v with
 |none=>
  rw[S5,X9,bQ];exact⟨y.trans z,rfl⟩
 |some q=>
 obtain⟨f,u',x⟩:=q;rw[T1,Y6,a1];obtain⟨R,S,af,aB,A,U⟩:=mI Q;obtain⟨aC,W,aD,X⟩:=ky U;obtain⟨j,rfl⟩:=W6 R;obtain⟨pos,rfl⟩:=W6 S;rw[u6] at af A;have H:=x5 af;have Y:=(x4.1 A).1;have ad:∀u,f.sc[pos]? =σ u->v∈cj s u:=λu hu=>by
  rw[A] at hu;cases hu;unfold cj;rw[W];exact X
 have I:=G.ext z;obtain⟨szv,aE,aF,aG,aJ,aK,J,aL,_,aN,aO,aQ,Z,aR⟩:=id I;rw[aM a8.p 0 J rfl];refine I.load λaS ab=>?_;refine (xb ab e af Y ad).mono ?_;rintro aI ac _ ⟨K,B,_⟩;rw[aW an.u B];have L:(iQ s f pos v).length=(bL s f.sc pos v).length:=by unfold iQ;rw[u7]
 rw[L];refine bZ.range (bL s f.sc pos v).length (λi ae C=>Ext ac C/\ae=Δ ((((bL s f.sc pos v).take i).map (bj f.aj f.cs)).foldl min k)) (by rw[<-L];exact B.le) ⟨Ext.refl _,rfl⟩ ?_ ?_
 .rintro i _ C ag hi ⟨a,rfl⟩ ah;obtain⟨tl,E⟩:=aH (l:=bL s f.sc pos v) hi;obtain⟨m,hm⟩:=n0 e H ad (x5 E);have ak:(iQ s f pos v)[i]? =σ (m:Int):=by
   unfold iQ;rw[x8,E];unfold lY;rw[Z3,hm];rfl
  obtain⟨al,aT⟩:=jN e H;have aV:=(x4.1 (kg al hm)).1;obtain⟨c,M⟩:=aH (l:=f.cs) (i:=m) Ω;have ao:bj f.aj f.cs tl=c:=by
   unfold bj;rw[hm];simp[v8,M]
  have N:=K.trans a;refine bH Ω ?_;rw[bc an.u ai.i Ψ (B.ext a) ak,aM a8.p 6 (J.ext N) rfl];refine kb (i:=j) rfl eN.u dm.i (bI Z N) (by rw[x8,af];rfl) λb o cs aq au=>?_;obtain⟨aX,aZ,v3,rfl,h1,a2,av⟩:=lW au;rw[aU dm.p rfl,aU aY.p rfl,ay (v:=v3) Ψ (aq 2 _ rfl),bc ax.u ap.i Ψ (dc av) M];refine Dk.mono ?_;rintro _ a6 _ ⟨rfl,aw⟩;rw[aP];refine ah _ _ ⟨a.trans aw,?_⟩;rw[u9,E,o9,Z0,S1,List.map_singleton,ao];rfl
 .rintro _ C ag ⟨a,rfl⟩;rw[p9];refine cp Ω ?_;exact⟨(y.trans z).trans (K.trans a),rfl⟩
theorem tC {b k:Int} (h1:0<=a/\a<=4294967296) (f:0<=b/\b<=4294967296):am x7 GO [Δ a,Δ b,Δ k] w λr w'=>r=Δ (dJ k a b)/\Ext w w':=by
 refine az func105 ?_;refine (show am x7 HK [Δ a,Δ b,Δ k] w λr w'=>(∃q,r= .tuple #[Δ (dJ k a b),q])/\Ext w w' from ?_).mono ?_
 .refine az func175 ?_;unfold dJ;rw[bg,al];refine⟨λh=>⟨⟨_,by rw[if_pos h]⟩,Ext.refl _⟩,λh=>?_⟩;rw[dF,wrap_i64 Ω Ω,md,if_neg h];exact⟨⟨_,rfl⟩,Ext.refl _⟩
 .rintro _ V _ ⟨⟨q,rfl⟩,e⟩;rw[bo,bp];exact⟨rfl,e⟩
end
def dp (w:x3) (ae gT aq:Nat) (A R:ak) (A9:Nat->ak) (aK:ak) (n:aR) (s:av) (t:aC) (h:List aC) (u:av) (w':x3):Prop:=ah (λr=>(∃q,A9 q r)\/r=aq) w w'/\ ∃ck cs,ct w' ae gT aq A R ck aK n s u t h cs/\ ∀q r,ck q r->(∃a,A9 a r)\/w.heap.size<=r
section
variable {w w' V aa:x3} {ae gT aq:Nat} {A R:ak} {A9:Nat->ak} {aK:ak} {n:aR} {s u eQ eR:av} {t:aC} {h:List aC} {cs:List x1}
theorem dp.same (p:ct w ae gT aq A R A9 aK n s u t h cs) (J:Ext w w'):dp w ae gT aq A R A9 aK n s t h u w':=⟨J.ab _,A9,cs,p.ext J,λq r h=>.inl ⟨q,h⟩⟩
theorem dp.comp {ck:Nat->ak} (e:ah (λr=>(∃q,A9 q r)\/r=aq) w V) (f:∀q r,ck q r->(∃a,A9 a r)\/w.heap.size<=r) (d:dp V ae gT aq A R ck aK n s t h eR aa):dp w ae gT aq A R A9 aK n s t h eR aa:=by
 obtain⟨m,p,ca,x,y⟩:=d;have z:=e.size;refine⟨?_,p,ca,x,λq r j=>(y q r j).elim (λ⟨a,h⟩=>f a r h) λh=>.inr Ω⟩;refine ((e.mono λr _ h=>.inl h).trans (m.mono λr _ h=>?_):ah (λr=>((∃q,A9 q r)\/r=aq)\/w.heap.size<=r) w aa).mono λr j h=>h.elim id λh=>Ω
 rcases h with⟨q,h⟩|h
 .exact (f q r h).imp .inl id
 .exact .inl (.inr h)
def jj (w:x3) (ae gT aq:Nat) (A R:ak) (A9:Nat->ak) (aK:ak) (n:aR) (s:av) (t:aC) (h:List aC) (u:av) (w':x3):Prop:=ah (A9 2) w w'/\ ∃ck cs,ct w' ae gT aq A R ck aK n s u t h cs/\(∀q r,ck q r->(∃a,A9 a r)\/w.heap.size<=r)/\ ∀r,ck 2 r->A9 2 r\/w.heap.size<=r
theorem jj.Ep (d:jj w ae gT aq A R A9 aK n s t h u w'):dp w ae gT aq A R A9 aK n s t h u w':=by
 obtain⟨h1,ck,cs,a,e,_⟩:=d;exact⟨h1.mono λr _ h=>.inl ⟨2,h⟩,ck,cs,a,e⟩
theorem jj.same (p:ct w ae gT aq A R A9 aK n s u t h cs) (J:Ext w w'):jj w ae gT aq A R A9 aK n s t h u w':=⟨J.ab _,A9,cs,p.ext J,λq r h=>.inl ⟨q,h⟩,λr h=>.inl h⟩
theorem jj.comp {ck:Nat->ak} (f:ah (A9 2) w V) (m:∀q r,ck q r->(∃e,A9 e r)\/w.heap.size<=r) (j:∀r,ck 2 r->A9 2 r\/w.heap.size<=r) (d:jj V ae gT aq A R ck aK n s t h eR aa):jj w ae gT aq A R A9 aK n s t h eR aa:=by
 obtain⟨p,x,ca,y,B,C⟩:=d;have z:=f.size;refine⟨?_,x,ca,y,λq r a=>(B q r a).elim (λ⟨e,h⟩=>m e r h) λh=>.inr Ω,λr a=>(C r a).elim (j r) λh=>.inr Ω⟩;exact ((f.mono λr _ h=>.inl h).trans (p.mono λr _ h=>j r h):ah (λr=>A9 2 r\/w.heap.size<=r) w aa).mono λr a h=>h.elim id λh=>Ω
theorem ct.Po {T:ak} {v:x1} {u':av} (p:ct w ae gT aq A R A9 aK n s u t h cs) (y:∀q r,A9 q r->r<w.heap.size) (ad:cs[5]? =σ v) (e:ah T w w') (f:∀r,r<w.heap.size->T r->A9 2 r) (z:bE (λr=>A9 2 r\/w.heap.size<=r) aK w' [v] (u'.vars.map (·.un)))
  (C:u'.zero=u.zero) (E:u'.vars.map aB=u.vars.map aB) (F:(u'.vars.map λx=>decide (x.gone≠0))=u.vars.map λx=>decide (x.gone≠0)) (G:u'.funs=u.funs) (H:u'.gW=u.gW):
  ∃ck,ct w' ae gT aq A R ck aK n s u' t h cs/\(∀q r,ck q r->(∃I,A9 I r)\/w.heap.size<=r)/\ ∀r,ck 2 r->A9 2 r\/w.heap.size<=r:=by
 have J:=cg.kv p.doc (w4 e) (λr a=>.inl (f r a.2 a.1)) z (λj r K a=>?_) (λr a=>?_)
 .have m:=w5 (w:=w) (A9:=A9) (q:=2) (B:=λr=>A9 2 r\/w.heap.size<=r) λr h=>h;refine⟨_,p.row e f ?_ m,m,λr a=>a⟩;have:=cg.qa ad J;unfold ik;rw[C,E,F,G,H];exact this
 .rcases a with a|a
  .exact p.gC.1 2 j r (Ne.symm K) a
  .exact λh=>by have:=y j r h;omega
 .rcases a with a|a
  .exact p.gC.2 2 r a
  .exact λh=>by have:=(p.read r h).2.1;omega
theorem xc (p:ct w ae gT aq A R A9 aK n s u t h cs) {i:Nat} {x:bB} (J:u.vars[i]? =σ x):∃g cap y,cs[5]? =σ (.slice (σ ⟨g,0,ν⟩) u.vars.length cap)/\w.cell? ⟨g,i,ν⟩=σ y/\aF .i64 w y x.un/\
  ∀ {w':x3} {v:Nat} {c:Int} {K:Unit->x3->Prop},Ext w w'->v<x.un.length->(∀F,jj w ae gT aq A R A9 aK n s t h (eE u i x (x.un.set v c)) F->K () F)->
   ac x7 (j4 ax y (Δ (v:Int))) w' λa=>aD x7 (o6 ap a (Δ c)) w' K:=by
 have G:=p.olds;obtain⟨szv,ah,ai,aj,ak,al,H,_,_,_,I,_,_,m⟩:=id G.doc;obtain⟨g,cap,c,am,e,P,L,an,_⟩:=tz (i:=i) (a:=x.un) I (by rw[x8,J];rfl) λr _ h=>(m rfl).2 2 r h;obtain⟨y,rfl⟩:=W7.1 (ao.len L);have M:w.cell? ⟨g,i,ν⟩=σ y:=by
  have:=P 0 y rfl;simpa[show ao.n (Λ)=1 from rfl] using this
 rw[u7] at e;refine⟨g,cap,y,by rw[H,<-e];rfl,M,dc (i7 L),λ{w' v c K} j ad Q=>?_⟩;have S:=G.ext j;have z:=j.size;obtain⟨au,av,aw,ay,N,U,O,B,V⟩:=tz (i:=i) (a:=x.un) (bI I j) (by rw[x8,J];rfl) λr _ h=>(m rfl).2 2 r h;obtain⟨C,rfl⟩:=W7.1 (ao.len O);rw[u7,e] at N;cases N;have W:C=y:=by
  have h1:=U 0 C rfl;have h1:w'.cell? ⟨g,i,ν⟩=σ C:=by simpa[show ao.n (Λ)=1 from rfl] using h1
  rw[iv j M] at h1;exact (b6 h1).symm
 subst W;refine Dx (α:=Int) (i:=v) (A:=λ_=>False) rfl rfl ax.u ap.i O ad rfl rfl (λr _ f=>⟨λh=>h,(m rfl).2 2 r (B r f)⟩) λaz E X=>?_;have Y:=V E (λr _ h=>h) X λr f=>f.elim .inl False.elim;obtain⟨ck,Z,aa,af⟩:=S.Po (u':=eE u i x (x.un.set v c)) (λq r h=>by have:=h.2;omega) (by rw[H];rfl) E (λr _ h=>B r h) (by show bE _ _ _ _ ((u.vars.set i {x with un:=x.un.set v c}).map (·.un));rw[V8];exact Y) rfl (pn J (by unfold aB;simp)) (pn J rfl) rfl rfl;refine Q _ ⟨(j.ab _).trans (E.mono λr _ h=>(B r h).1),ck,cs,Z,λq r f=>?_,λr f=>?_⟩
 .rcases aa q r f with⟨ag,h⟩|h
  .exact .inl ⟨ag,h.1⟩
  .exact .inr Ω
 .exact (af r f).imp (λh=>h.1) λh=>Ω
theorem Pp (p:ct w ae gT aq A R A9 aK n s u t h cs) {f:cb} (af:u.funs[j]? =σ f):∃g cap x E y,cs[6]? =σ (.slice (σ ⟨g,0,ν⟩) u.funs.length cap)/\w.rangeAt g (j*4) [x,E,y,.bool (decide (f.live≠0))]/\aF .i64 w x f.sc/\aF .i64 w y f.cs/\
  ∀ {w':x3} {m:Nat} {c:Int} {K:Unit->x3->Prop},Ext w w'->m<f.cs.length->(∀N,dp w ae gT aq A R A9 aK n s t h (dL u j f (f.cs.set m c)) N->K () N)->
   ac x7 (j4 ax y (Δ (m:Int))) w' λa=>aD x7 (o6 ap a (Δ c)) w' K:=by
 have O:=p.olds;obtain⟨szv,ay,az,aA,aB,aC,P,_,_,_,_,Q,_,F⟩:=id O.doc;obtain⟨g,cap,c,aE,e,G,U,aG,_⟩:=tz (i:=j) (a:=hb f) Q (by rw[x8,af];rfl) λr _ h=>(F rfl).2 3 r h;have V:=lW U;obtain⟨x,E,y,rfl,W,aH,X⟩:=V;rw[u7] at e;have G:w.rangeAt g (j*4) [x,E,y,.bool (decide (f.live≠0))]:=G;refine⟨g,cap,x,E,y,by rw[P,<-e];rfl,G,dc W,dc X,λ{w' m c K} B hm Y=>?_⟩;have Z:=O.ext B;have z:=B.size;obtain⟨aI,aJ,aL,aM,S,L,aa,H,ad⟩:=tz (i:=j) (a:=hb f) (bI Q B) (by rw[x8,af];rfl) λr _ h=>(F rfl).2 3 r h;rw[u7,e] at S;cases S;obtain⟨ag,ah,M,aN,rfl,ai,I,aj⟩:=O9 aa λr h=>(F rfl).2 3 r (H r h);have L:w'.rangeAt g (j*4) [ag,ah,M,.bool (decide (f.live≠0))]:=L;have ak:M=y:=by
  have h1:=L 2 M rfl;rw[(ne B G) 2 y rfl] at h1;exact (b6 h1).symm
 subst ak;refine Dx (α:=Int) (i:=m) (A:=λ_=>False) rfl rfl ax.u ap.i ai hm rfl rfl (λr _ C=>⟨λh=>h,(F rfl).2 3 r (H r (I r C))⟩) λaO J al=>?_;have am:=aj J (ao.mono al (λr _ h=>h.elim id False.elim) λ_ _ h=>h);have an:=ad J (λr _ h=>I r h) am λr C=>.inl C;obtain⟨ck,au,av⟩:=Z.O7 (u':=dL u j f (f.cs.set m c)) (λq r h=>by have:=h.2;omega) (by rw[P];rfl) J (λr _ h=>H r (I r h)) (by show bE _ _ _ _ ((u.funs.set j {f with cs:=f.cs.set m c}).map hb);rw[V8];exact an) rfl rfl rfl;refine Y _ ⟨(B.ab _).trans (J.mono λr _ h=>.inl ⟨3,(H r (I r h)).1⟩),ck,cs,au,λq r C=>?_⟩;rcases av q r C with⟨aw,h⟩|h
 .exact .inl ⟨aw,h.1⟩
 .exact .inr Ω
theorem Pq (p:ct w ae gT aq A R A9 aK n s u t h cs) {K:Unit->x3->Prop} (f:∀e,dp w ae gT aq A R A9 aK n s t h {u with zero:=c} e->K () e):aD x7 (o6 ap (.pointer (σ ⟨aq,0+2,ν⟩)) (Δ c)) w K:=by
 refine bq (o:=0+2) ap.i rfl rfl p.box (by rw[p.doc.len.1];omega) λaa a m j=>?_;refine f _ ⟨a.mono λr _ h=>.inr h,A9,_,p.D9 a (λr _ h=>.inr h) j ?_ λq r h=>.inl ⟨q,h⟩,λq r h=>.inl ⟨q,h⟩⟩;exact (cg.ab p.doc a λr _ h he=>h.elim (λ⟨q,h⟩=>(p.apart q r h).2.2 he) λh=>(p.read r h).2.2 he).Om
theorem Pr (p:ct w ae gT aq A R A9 aK n s u t h cs) {i:Nat} {x:bB} (J:u.vars[i]? =σ x):∃g cap y,cs[3]? =σ (.slice (σ ⟨g,0,ν⟩) u.vars.length cap)/\w.cell? ⟨g,i,ν⟩=σ y/\aF .i64 w y (aB x)/\(∀r,leads y r->A9 0 r)/\
  ∀ {w':x3} {m:Int} {z:x1} {gz:Nat} {K:Unit->x3->Prop},Ext w w'->au .i64 ai w' gz z (aB {x with mask:=m})->(∀r,leads z r->w.heap.size<=r)->(∀H,dp w ae gT aq A R A9 aK n s t h {u with vars:=u.vars.set i {x with mask:=m}} H->K () H)->
   ac x7 (j4 c5 (.slice (σ ⟨g,0,ν⟩) u.vars.length cap) (Δ (i:Int))) w' λa=>aD x7 (o6 an a z) w' K:=by
 have I:=p.olds;have W:=(x4.1 J).1;obtain⟨szv,X,aC,aE,aG,aH,L,_,Y,_,_,_,_,Z⟩:=id I.doc;obtain⟨g,cap,full,aa,c,aI,e,B,ad,C,M,E,af,aJ,aj⟩:=Ea (i:=i) (a:=aB x) Y (by rw[x8,J];rfl) λr _ h=>(Z rfl).2 0 r h;obtain⟨y,rfl⟩:=W7.1 (ao.len E);rw[u7] at e;have ak:full[i]? =σ y:=by have:=M 0 y rfl;simpa[show ao.n (Λ)=1 from rfl] using this
 refine⟨g,cap,y,by rw[L,<-e];rfl,by have:=B.cell (o:=i) ak;exact this,dc (i7 E),λr f=>?_,λ{w' m N gz K} F O P al=>?_⟩
 .obtain⟨aL,aM,am,ap⟩:=zK E;rcases ap with rfl|av
  .obtain⟨_,_,_,e,_⟩:=f;cases e
  .obtain⟨e,_⟩:=bO am f;rw[e];exact (af _ av).1
 have z:=F.size;have C:i*1+1<=full.length:=C;rw[e5 c5.u an.i W λ_=>rfl];obtain⟨_,_,_,Q⟩:=c4 O.ls;refine bq (o:=0+i*1) an.i (by rw[Q];rfl) (by rw[Q];rfl) (B.ext F) Ω λS U aN j=>?_;have j:ag S g aa (over full (i*1) [N]):=by
  have e:=Ee (full:=full) (c:=[y]) (o:=i*1) (q:=0) (x:=N) M C Ξ;rw[X0] at j;rw[Nat.add_zero] at e;rw[e] at j;exact j
 have aO:g<w.heap.size:=B.lt;have G:ah (λr=>r=g) w S:=(F.ab _).trans U;have aw:=br O U λr f he=>by have he:r=g:=he;have:=P r f;omega
 have ax:=aj G (λr _ h=>.inr h) j (mD (R:=aK) aw) λr f=>.inr (P r f);have V:∀r,r<w.heap.size->r=g->A9 0 r/\r<w.heap.size:=λr f h=>by rw[h];exact ad
 obtain⟨ck,ay,az⟩:=I.nZ (u':={u with vars:=u.vars.set i {x with mask:=m}}) (λq r h=>h.2) (v:=X) (by rw[L];rfl) G V (by show bE _ _ _ _ ((u.vars.set i {x with mask:=m}).map aB);rw[V8];exact ax) rfl (pn J rfl) (pn J rfl) rfl rfl;refine al _ ⟨G.mono λr f h=>.inl ⟨0,(V r f h).1⟩,ck,cs,ay,λq r f=>?_⟩;rcases az q r f with⟨aA,h⟩|h
 .exact .inl ⟨aA,h.1⟩
 .exact .inr h
end
def fJ (s:av) (sc:Λ) (pos:Int) (v:Int):Nat->Nat->Λ->List (Λ)
 |0,_,tl=>[tl]
 |m+1,p,tl=>if (p:Int)=pos then fJ s sc pos v m (p+1) (tl.set p v) else (cj s (sc.getD p 0)).flatMap λx=>fJ s sc pos v m (p+1) (tl.set p x)
theorem tD {α:Type} {l:List α} {p:Nat} {x:α} (h:p<l.length):(l.set p x).take (p+1)=l.take p++[x]:=by
 rw[u9,c7 h,List.take_set_of_le (p8 _)];rfl
theorem qY {s:av} {sc:Λ} {pos:Nat} {v:Int}:∀ (m p:Nat) (tl:Λ),sc.length=p+m->tl.length=sc.length->fJ s sc pos v m p tl=(gp (hc s pos v (sc.drop p) p)).map (tl.take p++ ·)
 |0,p,tl,h1,a=>by
  rw[List.drop_eq_nil_of_le Ω,b8 Ω];unfold fJ hc gp;rw[List.map_singleton,U4]
 |m+1,p,tl,h1,a=>by
  have e:p<sc.length:=Ω
  obtain⟨u,hu⟩:=aH (l:=sc) e;have h:sc.drop p=u::sc.drop (p+1):=by rw[X5 e,(x4.1 hu).2]
  have j:sc.getD p 0=u:=by rw[v8,hu];rfl
  rw[h];unfold fJ hc;rw[gp];by_cases f:p=pos
  .rw[if_pos Ω,if_pos f,List.flatMap_singleton,qY m (p+1) (tl.set p v) Ω (by rw[c8];exact a),T7,tD Ω];refine List.map_congr_left λr _=>?_;simp
  .rw[if_neg Ω,if_neg f,j,List.map_flatMap];congr 1;funext x;rw[qY m (p+1) (tl.set p x) Ω (by rw[c8];exact a),T7,tD Ω];refine List.map_congr_left λr _=>?_;simp
theorem Ps {s:av} {pos:Nat} {p:Nat} {a:Λ} (h1:sc.length=p+m) (e:tl.length=sc.length) (f:a.length=sc.length) (h:a.take p=tl.take p):fJ s sc pos v m p a=fJ s sc pos v m p tl:=by
 rw[qY m p tl h1 e,qY m p a h1 f,h]
theorem Pt {s:av} {pos:Nat} (h:tl.length=sc.length):fJ s sc pos v sc.length 0 tl=bL s sc pos v:=by
 rw[qY sc.length 0 tl Ω h];unfold bL;simp
def mM (w:x3) (ae gs bF bn a7:Nat) (aG:x1) (pos v:Int):Prop:=ag w gs dz [Γ ae]/\ag w bF an [aG]/\ag w bn ai [Δ pos]/\ag w a7 ai [Δ v]
theorem mM.ab {S:ak} {bF bn a7:Nat} (h:mM w ae gs bF bn a7 aG pos v) (a:ah S w w') (e:¬S gs/\¬S bF/\¬S bn/\¬S a7):mM w' ae gs bF bn a7 aG pos v:=
 ⟨h.1.ab a e.1,h.2.1.ab a e.2.1,h.2.2.1.ab a e.2.2.1,h.2.2.2.ab a e.2.2.2⟩
theorem mM.ext {bF bn a7:Nat} (h:mM w ae gs bF bn a7 aG pos v) (J:Ext w w'):mM w' ae gs bF bn a7 aG pos v:=h.ab (J.ab λ_=>False) ⟨id,id,id,id⟩
def fY (ae gT:Nat) (R:ak) (n:aR) (s:av) (gs bF bn a7:Nat) (aG:x1) (sc:Λ) (pos v:Int) (B0:Nat) (D:Nat->Prop) (w:x3):Prop:=
 mM w ae gs bF bn a7 aG pos v/\(gs<B0/\bF<B0/\bn<B0/\a7<B0)/\aF .i64 w aG sc/\(∀r,leads aG r->r<B0)/\(Laid w/\B0<=w.heap.size)/\ ∃A s' bu,bw w ae gT A R n s' bu/\(∀i,cj s' i=cj s i)/\ ∀r,A r\/R r->r<B0\/D r
section
variable {ae gT gs bF bn a7 B0:Nat} {R:ak} {n:aR} {s:av} {aG:x1} {sc:Λ} {pos v:Int}
theorem fY.ext {D:Nat->Prop} (h:fY ae gT R n s gs bF bn a7 aG sc pos v B0 D w) (J:Ext w w'):fY ae gT R n s gs bF bn a7 aG sc pos v B0 D w':=by
 obtain⟨h1,e,f,j,a,A,s',bu,m,p,q⟩:=h;exact⟨h1.ext J,e,f.ext J,j,⟨a.1.ext J,Y9 a.2 J.size⟩,A,s',bu,m.ext J,p,q⟩
def jP (w:x3) (l gy gt gtb ga:Nat) (hd:Array x1) (q:Nat) (tl:Λ):Prop:=ag w gy zq [.func (.yield l) #[] #[]]/\ag w gtb an [.slice (σ ⟨gt,0,ν⟩) q q]/\ag w ga oq [.func (.func lz) #[] hd]/\
 au .i64 ai w gt (.slice (σ ⟨gt,0,ν⟩) q q) tl
theorem jP.ab {S:ak} {l q:Nat} {hd:Array x1} (h:jP w l gy gt gtb ga hd q tl) (f:ah S w w') (j:¬S gy/\¬S gtb/\¬S ga/\¬S gt):jP w' l gy gt gtb ga hd q tl:=
 ⟨h.1.ab f j.1,h.2.1.ab f j.2.1,h.2.2.1.ab f j.2.2.1,br h.2.2.2 f λr m=>by
  obtain⟨a,_,_,e,p⟩:=m;cases e;rw[<-p];exact j.2.2.2⟩
theorem jP.ext {l q:Nat} {hd:Array x1} (h:jP w l gy gt gtb ga hd q tl) (J:Ext w w'):jP w' l gy gt gtb ga hd q tl:=h.ab (J.ab λ_=>False) ⟨id,id,id,id⟩
theorem Pu (U:aF .i64 w aG sc):am x7 zi [Γ ae,aG,Δ pos,Δ v] w λr w'=>Ext w w'/\ ∃gs bF bn a7,r= .func (.func ly) #[] #[Γ bF,Γ bn,Γ a7,Γ gs]/\mM w' ae gs bF bn a7 aG pos v/\w.heap.size<=gs/\w.heap.size<=bF/\w.heap.size<=bn/\w.heap.size<=a7:=by
 obtain⟨_,_,_,s⟩:=c4 U;refine az func176 ?_;refine be λgs V y q h=>?_;refine be λbF aa z j a=>?_;refine be λbn A B e m=>?_;refine be λa7 p C f x=>?_;have h:ag p gs dz [Γ ae]:=((ag.ext h j).ext e).ext f;have a:ag p bF an [aG]:=by rw[s] at a ⊢;exact (ag.ext a e).ext f
 have m:ag p bn ai [Δ pos]:=ag.ext m f;rw[ix];have E:=q.size;have G:=j.size;have z3:=e.size;exact⟨((q.trans j).trans e).trans f,gs,bF,bn,a7,rfl,⟨h,a,m,x⟩,Ω,Ω,Ω,Ω⟩
theorem fY.own {D:Nat->Prop} {S:ak} (h:fY ae gT R n s gs bF bn a7 aG sc pos v B0 D w) (j:ah S w w') (p:∀r,S r->B0<=r/\¬D r):fY ae gT R n s gs bF bn a7 aG sc pos v B0 D w':=by
 obtain⟨h1,f,B,q,x,A,s',bu,y,C,z⟩:=h;have no:∀ {r:Nat},r<B0->¬S r:=λh1 f=>by have:=(p _ f).1;omega
 refine⟨h1.ab j ⟨no f.1,no f.2.1,no f.2.2.1,no f.2.2.2⟩,f,hP B j λr m a n c e E=>?_,q,⟨?_,Y9 x.2 j.size⟩,A,s',bu,⟨y.1.ab j λr _ m U=>?_,y.2⟩,C,z⟩
 .exact no (q r ⟨a,n,c,e,E⟩) m
 .exact j7 j (no Ω) x.1
 .exact (z r m).elim (λh=>no h U) (p r U).2
def Pv (P:(Nat->Prop)->x3->Prop) (aA:(Nat->Prop)->Nat->x3->Prop) (L:List (Λ)) (l B:Nat):Prop:=∀ (D:Nat->Prop) (k:Nat) tl aI w',(∀r,D r->B<=r/\r<w'.heap.size)->B<=w'.heap.size->P D w'->L[k]? =σ tl->aF .i64 w' aI tl->aA D k w'->
 hD x7 l [aI] w' λu a=>u= .bool true/\(∃D',(∀r,D' r->D r\/w'.heap.size<=r/\r<a.heap.size)/\(∀r,D r->D' r)/\P D' a/\aA D' (k+1) a)/\cM w' a/\w'.heap.size<=a.heap.size/\ah (λr=>r<B\/D r) w' a
def qZ (D:Nat->Prop) (B gy gtb ga gt:Nat):Prop:=(B<=gy/\¬D gy)/\(B<=gtb/\¬D gtb)/\(B<=ga/\¬D ga)/\B<=gt/\¬D gt
theorem qZ.go {D D':Nat->Prop} {cm:Nat} (h:qZ D B gy gtb ga gt) (a:∀r,D' r->D r\/m<=r/\r<cm) (hm:gy<m/\gtb<m/\ga<m/\gt<m):qZ D' B gy gtb ga gt:=
 have f:∀ {g:Nat},g<m->¬D g->¬D' g:=λh1 e j=>(a _ j).elim e λh=>Ω
 ⟨⟨h.1.1,f hm.1 h.1.2⟩,⟨h.2.1.1,f hm.2.1 h.2.1.2⟩,⟨h.2.2.1.1,f hm.2.2.1 h.2.2.1.2⟩,h.2.2.2.1,f hm.2.2.2 h.2.2.2.2⟩
theorem jP.lt {l q:Nat} {hd:Array x1} (h:jP w l gy gt gtb ga hd q tl):gy<w.heap.size/\gtb<w.heap.size/\ga<w.heap.size/\gt<w.heap.size:=
 ⟨h.1.lt,h.2.1.lt,h.2.2.1.lt,(bO h.2.2.2 ⟨_,_,_,rfl,rfl⟩).2⟩
def AtR (l gy gt gtb ga:Nat) (hd:Array x1) (P:(Nat->Prop)->x3->Prop) (aA:(Nat->Prop)->Nat->x3->Prop) (S:ak) (D:Nat->Prop) (w:x3) (sl k p:Nat) (tl:Λ) (w':x3):Prop:=
 w.heap.size<=w'.heap.size/\ ∃D' a,a.length=sl/\a.take p=tl.take p/\jP w' l gy gt gtb ga hd sl a/\((∀r,D' r->D r\/w.heap.size<=r/\r<w'.heap.size)/\ ∀r,D r->D' r)/\P D' w'/\aA D' k w'/\ah S w w'
section
variable {l gy gt gtb ga B:Nat} {hd:Array x1} {P:(Nat->Prop)->x3->Prop} {aA:(Nat->Prop)->Nat->x3->Prop} {S T:ak} {D:Nat->Prop} {w V aa:x3} {sl k p:Nat} {tl:Λ}
theorem AtR.own (q:∀D T V aa,ah T V aa->(∀r,T r->B<=r/\¬D r)->P D V->P D aa) (s:∀D k V aa,ah (λr=>B<=r/\¬D r) V aa->fs B V aa->aA D k V->aA D k aa)
  (h:AtR l gy gt gtb ga hd P aA S D w sl k p tl V) (e:ah T V aa) (x:fs B V aa) (a:∀r,T r->r<w.heap.size/\¬D r/\B<=r/\S r/\r≠gy/\r≠gtb/\r≠ga/\r≠gt):AtR l gy gt gtb ga hd P aA S D w sl k p tl aa:=by
 obtain⟨y,D',z,h1,A,C,⟨j,E⟩,F,G,H⟩:=h;have m:∀r,T r->B<=r/\¬D' r:=λr f=>⟨(a r f).2.2.1,λI=>(j r I).elim (a r f).2.1 λh=>by have:=(a r f).1;omega⟩;exact⟨Y9 y e.size,D',z,h1,A,C.ab e ⟨λh=>(a _ h).2.2.2.2.1 rfl,λh=>(a _ h).2.2.2.2.2.1 rfl,λh=>(a _ h).2.2.2.2.2.2.1 rfl,λh=>(a _ h).2.2.2.2.2.2.2 rfl⟩,
  ⟨λr f=>(j r f).imp id λh=>⟨h.1,R6 h.2 e.size⟩,E⟩,q D' T V aa e m F,s D' k V aa (e.mono λr _ h=>m r h) x G,H.trans (e.mono λr _ h=>(a r h).2.2.2.1)⟩
theorem AtR.base {w0:x3} (h:AtR l gy gt gtb ga hd P aA S D w sl k p tl V) (J:Ext w0 w) (a:∀r,r<w0.heap.size->S r->T r):AtR l gy gt gtb ga hd P aA T D w0 sl k p tl V:=by
 obtain⟨e,D',f,h1,j,m,⟨q,s⟩,x,y,z⟩:=h;exact⟨Y9 J.size e,D',f,h1,j,m,⟨λr A=>(q r A).imp id λh=>⟨Y9 J.size h.1,h.2⟩,s⟩,x,y,((J.ab S).trans z).mono a⟩
theorem AtR.comp {a:Nat->Prop} {j:Λ} {x:Int} (f:∀r,r<B\/D r\/r=gt->S r) (m:∀r,a r->D r\/w.heap.size<=r/\r<V.heap.size) (s:∀r,D r->a r) (q:ah S w V) (y:j.take p=tl.take p)
  (h:AtR l gy gt gtb ga hd P aA (λr=>r<B\/a r\/r=gt) a V sl k (p+1) (j.set p x) aa):AtR l gy gt gtb ga hd P aA S D w sl k p tl aa:=by
 obtain⟨z,D',A,h1,C,E,⟨F,G⟩,H,I,J⟩:=h;have U:=q.size;refine⟨Y9 U z,D',A,h1,?_,E,⟨λr e=>?_,λr e=>G r (s r e)⟩,H,I,?_⟩
 .have:=congrArg (List.take p) C;rw[List.take_take,List.take_take,Nat.min_eq_left Ω,List.take_set_of_le (p8 _)] at this;rw[this,y]
 .rcases F r e with h|h
  .exact (m r h).imp id λh=>⟨h.1,Ω⟩
  .exact .inr ⟨Ω,h.2⟩
 .refine ((q.mono λr _ h=>.inl h).trans (J.mono λr _ h=>?_):ah (λr=>S r\/w.heap.size<=r) w aa).mono λr e h=>h.elim id λh=>Ω
  rcases h with h|h|h
  .exact .inl (f r (.inl h))
  .exact (m r h).elim (λh=>.inl (f r (.inr (.inl h)))) λh=>.inr h.1
  .exact .inl (f r (.inr (.inr h)))
end
theorem Pw {α β:Type} {l:List α} {a:α->List β} {i:Nat} {y:α} {z:β} (h:l[j]? =σ y) (hi:(a y)[i]? =σ z):(l.flatMap a)[((l.take j).flatMap a).length+i]? =σ z:=by
 have f:=(x4.1 h).1;have e:l=l.take j++y::l.drop (j+1):=by
  conv=>lhs;rw[<-List.take_append_drop j l,X5 f,(x4.1 h).2]
 conv=>lhs;rw[e,List.flatMap_append,X7]
 have m:=(x4.1 hi).1;have el:((l.take j++y::l.drop (j+1)).take j)=l.take j:=by rw[List.take_append_of_le_length (by rw[j6];omega),List.take_take,Nat.min_self]
 rw[el,Y2 Ω,R2,Y1 m];exact hi
theorem Px {t:r9} {b o:Nat} {x:x1} {K:x1->Prop} (a:ju x7 t=true) (h:w.cell? ⟨b,o,ν⟩=σ x):ac x7 (do loadVar t (<-asAddr (.pointer (σ ⟨b,o,ν⟩)))) w K=K x:=ac.of λw' J=>by
 have h':=iv J h;unfold ju at a;cases hu:x7.underlying t with
 |none=>rw[hu] at a;cases a
 |some d=>
  rw[hu] at a;cases d<;>first|(cases a;done)|simp[asAddr,loadVar,isAgg,run_underlying hu,h']
def jQ (bF gy gtb bn a7 ga gs:Nat):Array x1:=#[Γ bF,Γ gy,Γ gtb,Γ bn,Γ a7,Γ ga,Γ gs]
def tE (p:Nat) (bF gy gtb bn a7 ga gs:Nat):List x1:=[Δ (p:Int),Γ bF,Γ gy,Γ gtb,Γ bn,Γ a7,Γ ga,Γ gs]
theorem Py {l:Nat} {aA:(Nat->Prop)->Nat->x3->Prop} (bU:0<=pos) (bV:∀u∈sc,0<=u/\u<n.sizes.length) (c2:sc.length<=6) (bW:B0<=B) (Y:gt≠gy/\gt≠gtb/\gt≠ga)
  (O:∀D k V aa,ah (λr=>B<=r/\¬D r) V aa->fs B V aa->aA D k V->aA D k aa) (bX:Pv (fY ae gT R n s gs bF bn a7 aG sc pos v B0) aA L l B):
  ∀ (q p:Nat) (tl:Λ) (k:Nat) (D:Nat->Prop) (w:x3),sc.length=p+q->tl.length=sc.length->(∀r,D r->B<=r/\r<w.heap.size)->B<=w.heap.size->qZ D B gy gtb ga gt->jP w l gy gt gtb ga (jQ bF gy gtb bn a7 ga gs) sc.length tl->fY ae gT R n s gs bF bn a7 aG sc pos v B0 D w->aA D k w->
   (∀i x,(fJ s sc pos v q p tl)[i]? =σ x->L[k+i]? =σ x)->
   am x7 lz (tE p bF gy gtb bn a7 ga gs) w λr w'=>r= .bool true/\AtR l gy gt gtb ga (jQ bF gy gtb bn a7 ga gs) (fY ae gT R n s gs bF bn a7 aG sc pos v B0) aA (λr=>r<B\/D r\/r=gt) D w sc.length (k+(fJ s sc pos v q p tl).length) p tl w':=by
 obtain⟨dS,rfl⟩:=W6 bU;have Z:∀D T V aa,ah T V aa->(∀r,T r->B<=r/\¬D r)->fY ae gT R n s gs bF bn a7 aG sc dS v B0 D V->fY ae gT R n s gs bF bn a7 aG sc dS v B0 D aa:=λD T V aa aR bj h=>h.own aR λr f=>⟨Y9 bW (bj r f).1,(bj r f).2⟩;have aS:∀ {I:x3} {K:x1->Prop},ag I bF an [aG]->K aG->ac x7 (u4 an (Γ bF)) I K:=λaT aU=>by rw[ay (v:=aG) Ψ (aT.Qz rfl)];exact aU
 have aV:∀ {aX p:Nat} {tl:Λ} {D:Nat->Prop} {w aa I:x3} {a:Nat} {b:Bool},Ext w aa->w.heap.size<=a->a<aa.heap.size->(∀r,D r->B<=r/\r<w.heap.size)->B<=w.heap.size->(gy<w.heap.size/\gtb<w.heap.size/\ga<w.heap.size/\gt<w.heap.size)->
   AtR l gy gt gtb ga (jQ bF gy gtb bn a7 ga gs) (fY ae gT R n s gs bF bn a7 aG sc dS v B0) aA (λr=>r<B\/D r\/r=gt\/r=a) D aa sc.length aX p tl I->ag I a fa [.bool b]->
   aD x7 (o6 fa (Γ a) (.bool true)) I λ(_:Unit) aF=>ac x7 (do loadVar fa (<-asAddr (Γ a))) aF λr=>ub w.heap.size aF λbk=>r= .bool true/\AtR l gy gt gtb ga (jQ bF gy gtb bn a7 ga gs) (fY ae gT R n s gs bF bn a7 aG sc dS v B0) aA (λr=>r<B\/D r\/r=gt) D w sc.length aX p tl bk:=by
  intro aX p tl D w aa I a b E bl ad m af ao aY a2;have bY:∀r,r=a->r<aa.heap.size/\¬D r/\B<=r/\(r<B\/D r\/r=gt\/r=a)/\r≠gy/\r≠gtb/\r≠ga/\r≠gt:=by
   rintro r rfl;exact⟨ad,λh=>by have:=(m _ h).2;omega,Ω,.inr (.inr (.inr rfl)),Ω,Ω,Ω,Ω⟩
  refine aD.cu (bq fa.i rfl rfl a2 Ξ λaF bZ c3 a6 b0=>?_);have a6:ag aF a fa [.bool true]:=a6;have b1:=aY.own Z O bZ b0.o bY;rw[Px (x:=.bool true) Ψ (a6.Qz rfl)];intro bk b2 b3;refine⟨rfl,((b1.own Z O (b2.ab λ_=>False) (b3.2.mono af) λ_ h=>h.elim).base E λr f h=>?_)⟩;rcases h with h|h|h|h
  .exact .inl h
  .exact .inr (.inl h)
  .exact .inr (.inr h)
  .omega
 intro q;induction q with
 |zero=>
  intro p tl k D w b4 ap m af z aq a8 ba au;refine h2 func228 ?_;refine aD.cu (be λg1 V b5 av C bb=>?_);refine aD.cu (bD fa.i λa aa bl U M bd=>?_);have E:=av.trans U;have b6:=av.size;have b7:=U.size;have C:ag aa g1 ai [Δ (p:Int)]:=ag.ext C U;have M:ag aa a fa [.bool false]:=M;have ad:=M.lt;have aI:=O D k w aa (E.ab _) (bb.trans bd).o ba;have H:=a8.ext E;have G:=aq.ext E;rw[ay (v:=Δ (p:Int)) Ψ (C.Qz rfl)];refine aS H.1.2.1 ?_;rw[aW an.u H.2.2.1,bg,al];refine⟨λ_=>?_,λh=>absurd Ω h⟩;rw[ay (v:=.func (.yield l) #[] #[]) Ψ (G.1.Qz rfl),ay (v:=.slice (σ ⟨gt,0,ν⟩) sc.length sc.length) Ψ (G.2.1.Qz rfl)];have b9:L[k]? =σ tl:=au 0 tl rfl;refine (show hD x7 l [.slice (σ ⟨gt,0,ν⟩) sc.length sc.length] aa _ from hD.mono (bX D k tl _ aa (λr f=>⟨(m r f).1,by have:=(m r f).2;omega⟩) Ω H b9 G.2.2.2.ls aI) ?_);rintro _ bm ⟨rfl,⟨D',d1,d2,ca,cb⟩,cc,cd,bf⟩;refine⟨cc,?_⟩;have ao:=aq.lt;have aJ:∀ {g:Nat},w.heap.size<=g->¬D g:=λh1 aw=>by have:=(m _ aw).2;omega
  have ax:∀ {g:Nat},B<=g->¬D g->¬(g<B\/D g):=λh1 aw ce=>ce.elim Ω aw;have a2:ag bm a fa [.bool false]:=M.ab bf (ax Ω (aJ Ω));have aY:AtR l gy gt gtb ga (jQ bF gy gtb bn a7 ga gs) (fY ae gT R n s gs bF bn a7 aG sc dS v B0) aA (λr=>r<B\/D r\/r=gt\/r=a) D aa sc.length (k+1) p tl bm:=
   ⟨cd,D',tl,ap,rfl,G.ab bf ⟨ax z.1.1 z.1.2,ax z.2.1.1 z.2.1.2,ax z.2.2.1.1 z.2.2.1.2,ax z.2.2.2.1 z.2.2.2.2⟩,⟨d1,d2⟩,ca,cb,bf.mono λr _ h=>h.imp id .inl⟩
  exact aV E Ω ad m af ao aY a2
 |succ q bo=>
  intro p tl k D w b4 ap m af z aq a8 ba au;refine h2 func228 ?_;refine aD.cu (be λg1 V b5 av C bb=>?_);refine aD.cu (bD fa.i λa aa bl U M bd=>?_);have E:=av.trans U;have b6:=av.size;have b7:=U.size;have C:ag aa g1 ai [Δ (p:Int)]:=ag.ext C U;have M:ag aa a fa [.bool false]:=M;have ad:=M.lt;have h1:=C.lt;have aI:=O D k w aa (E.ab _) (bb.trans bd).o ba;have H:=a8.ext E;have G:=aq.ext E;have ao:=aq.lt;have aJ:∀ {g:Nat},w.heap.size<=g->¬D g:=λh1 aw=>by have:=(m _ aw).2;omega
  rw[ay (v:=Δ (p:Int)) Ψ (C.Qz rfl)];refine aS H.1.2.1 ?_;rw[aW an.u H.2.2.1,bg,al];refine⟨λh=>absurd h Ω,λ_=>?_⟩;rw[ay (v:=Δ (p:Int)) Ψ (C.Qz rfl),ay (v:=Δ (dS:Int)) Ψ (H.1.2.2.1.Qz rfl),bg,al];have bp:∀ {I:x3} {K:x1->Prop},ag I gtb an [.slice (σ ⟨gt,0,ν⟩) sc.length sc.length]->K (.slice (σ ⟨gt,0,ν⟩) sc.length sc.length)->ac x7 (u4 an (Γ gtb)) I K:=λaT aU=>by rw[ay (v:=.slice (σ ⟨gt,0,ν⟩) sc.length sc.length) Ψ (aT.Qz rfl)];exact aU
  have aK:∀ {D:Nat->Prop} (r:Nat),qZ D B gy gtb ga gt->r=gt->B<=r/\¬D r:=λr h e=>e▸⟨h.2.2.2.1,h.2.2.2.2⟩;refine⟨λhe=>?_,λcg=>?_⟩
  .refine bp G.2.1 ?_;rw[ay (v:=Δ (p:Int)) Ψ (C.Qz rfl),ay (v:=Δ v) Ψ (H.1.2.2.2.Qz rfl),hj rfl an.u ai.i G.2.2.2 Ω];refine aD.cu (hl ai.i G.2.2.2 Ω λaj Q c4 ch ci=>?_);have br:jP aj l gy gt gtb ga (jQ bF gy gtb bn a7 ga gs) sc.length (tl.set p v):=⟨G.1.ab Q λh=>Y.1 h.symm,G.2.1.ab Q λh=>Y.2.1 h.symm,G.2.2.1.ab Q λh=>Y.2.2 h.symm,ch⟩;have ck:=Z D _ _ _ Q (λr h=>aK r z h) H;have cl:=O D k aa aj (Q.mono λr _ h=>aK r z h) ci.o aI;have cm:ag aj g1 ai [Δ (p:Int)]:=C.ab Q Ω;have cn:ag aj a fa [.bool false]:=M.ab Q Ω;rw[ay (v:=.func (.func lz) #[] (jQ bF gy gtb bn a7 ga gs)) Ψ (br.2.2.1.Qz rfl),ay (v:=Δ (p:Int)) Ψ (cm.Qz rfl),aP,wrap_i64 Ω Ω];have hw:fJ s sc dS v (q+1) p tl=fJ s sc dS v q (p+1) (tl.set p v):=by rw[fJ,if_pos he]
   rw[hw];rw[hw] at au;refine (show am x7 lz (tE (p+1) bF gy gtb bn a7 ga gs) aj _ from am.mono (bo (p+1) (tl.set p v) k D aj Ω (by rw[c8];exact ap) (λr f=>⟨(m r f).1,by have:=(m r f).2;omega⟩) Ω z br ck cl au) ?_);rintro _ cp c5 ⟨rfl,bt⟩;have cq:ag cp a fa [.bool false]:=by
    obtain⟨_,_,_,_,_,_,_,_,_,cr⟩:=bt;exact cn.ab cr λh=>by
     rcases h with h|h|h
     .omega
     .exact aJ Ω h
     .omega
   exact aV E Ω ad m af ao (AtR.comp (λr h=>h.imp id λh=>h.imp id .inl) (λr h=>.inl h) (λ_ h=>h) (Q.mono λr _ h=>.inr (.inr (.inl h))) rfl bt) cq
  intro c6 aL _ ct;have aM:=H.ext aL;obtain⟨A,s',bu,bw,cw,c7⟩:=id aM.2.2.2.2.2;obtain⟨u,hu⟩:=aH (l:=sc) (i:=p) Ω;obtain⟨cz,c9⟩:=bV u (x5 hu);have da:=bw.2.2.2.1.vars;obtain⟨x,bx⟩:=aH (l:=s'.vars) (i:=u.toNat) Ω;rw[ay (v:=Γ ae) Ψ (aM.1.1.Qz rfl)];refine aS aM.1.2.1 ?_;rw[ay (v:=Δ (p:Int)) Ψ ((C.ext aL).Qz rfl),bc an.u ai.i Ψ aM.2.2.1 hu];refine (jL (i:=u) bw).mono ?_;rintro _ db cA ⟨⟨b,cB,rfl,bz⟩,bA⟩;refine (oL (b:=b) (n:=cB)).mono ?_;rintro _ aN cC ⟨cD,bB,rfl,dc,bC⟩;have bE:=nV bz cz bx;have cE:cj s (sc.getD p 0)=aB x:=by
   rw[<-cw,v8,hu,V9];unfold cj;rw[bx]
  have bH:fJ s sc dS v (q+1) p tl=(aB x).flatMap λy=>fJ s sc dS v q (p+1) (tl.set p y):=by rw[fJ,if_neg cg,cE]
  have W:=(aL.trans bA).trans cD;have cF:=(ct.trans cA).trans cC;have z12:=W.size;have dd:=(aL.trans bA).size;have de:=bC.lt;have bI:B<=aN.heap.size:=Ω
  have cG:=O D k aa aN (W.ab _) cF.o aI;have bJ:=H.ext W;have bK:=G.ext W;refine⟨Nat,false,false,jr,#[Γ bB],0,_,_,λ_=>_,λ_ j w'=>AtR l gy gt gtb ga (jQ bF gy gtb bn a7 ga gs) (fY ae gT R n s gs bF bn a7 aG sc dS v B0) aA (λr=>r<B\/D r\/r=gt) D aN sc.length (k+(((aB x).take j).flatMap λy=>fJ s sc dS v q (p+1) (tl.set p y)).length) p tl w'/\ag w' g1 ai [Δ (p:Int)]/\ag w' a fa [.bool false],
   λ_ _ _ _=>False,rfl,(oK (g:=bB) bz.1).s.x,?_,λ_ _ _ J h=>⟨h.1.ext J,h.2.ext J⟩,?_,λ_ _ _ _ _ _ _ h=>h,⟨bC,bJ.2.2.2.2.1.1⟩,?_,?_,?_,λ_ _ _ h=>h.elim,λ_ _ _ _ h=>h.elim⟩
  .rintro _ _ _ _ ⟨_,_,_,_,rfl⟩;rfl
  .rintro _ j df dg aR cH ⟨X,az,N⟩;have J:=aR.ext λ_ _ h=>nomatch h.1;exact⟨X.own Z O (J.ab λ_=>False) (cH.mono bI) λ_ h=>h.elim,az.ext J,N.ext J⟩
  .exact⟨⟨p8 _,D,tl,ap,rfl,bK,⟨λ_ h=>.inl h,λ_ h=>h⟩,bJ,by simpa using cG,ah.refl _ _⟩,C.ext W,M.ext W⟩
  .rintro _ _ j _ dh _ _ ⟨cI,di⟩ ⟨dj,rfl,y,cJ,cK⟩ ⟨cL,bL,cM⟩;cases cK;intro bM aC cN _;have bN:(aB x)[j]? =σ (y:Int):=by rw[<-bE,x8,cJ];rfl
   have cO:=cL.own Z O (aC.ab λ_=>False) (cN.2.mono bI) λ_ h=>h.elim;obtain⟨dk,aE,aO,X,az,N,⟨aQ,cP⟩,cQ,cR,cS⟩:=cO;have cT:=bK.lt;have bh:=z.go aQ cT;have bO:∀r,aE r->B<=r/\r<bM.heap.size:=λr f=>(aQ r f).elim (λh=>⟨(m r h).1,by have:=(m r h).2;omega⟩) λh=>⟨Ω,h.2⟩;refine bp N.2.1 ?_;rw[ay (v:=Δ (p:Int)) Ψ ((bL.ext aC).Qz rfl),hj rfl an.u ai.i N.2.2.2 Ω];refine aD.cu (hl ai.i N.2.2.2 Ω λak P dl cU cV=>?_);have bP:jP ak l gy gt gtb ga (jQ bF gy gtb bn a7 ga gs) sc.length (aO.set p y):=⟨N.1.ab P λh=>Y.1 h.symm,N.2.1.ab P λh=>Y.2.1 h.symm,N.2.2.1.ab P λh=>Y.2.2 h.symm,cU⟩;have cW:=Z aE _ _ _ P (λr h=>aK r bh h) cQ;have cX:=O aE _ bM ak (P.mono λr _ h=>aK r bh h) cV.o cR;have bQ:ag ak g1 ai [Δ (p:Int)]:=(bL.ext aC).ab P Ω;have cY:ag ak a fa [.bool false]:=(cM.ext aC).ab P Ω;have cZ:=(cI.ext aC).ab P Ω;rw[ay (v:=.func (.func lz) #[] (jQ bF gy gtb bn a7 ga gs)) Ψ (bP.2.2.1.Qz rfl),ay (v:=Δ (p:Int)) Ψ (bQ.Qz rfl),aP,wrap_i64 Ω Ω];have bR:fJ s sc dS v q (p+1) (aO.set p (y:Int))=fJ s sc dS v q (p+1) (tl.set p (y:Int)):=Ps Ω (by rw[c8];exact ap) (by rw[c8];exact X) (by rw[tD Ω,tD Ω,az]);refine (show am x7 lz (tE (p+1) bF gy gtb bn a7 ga gs) ak _ from am.mono (bo (p+1) (aO.set p y) _ aE ak Ω (by rw[c8];exact X) (λr f=>⟨(bO r f).1,by have:=(bO r f).2;omega⟩) Ω bh bP cW cX λi dm hi=>?_) ?_)
   .rw[bR] at hi;rw[S8];refine au _ _ ?_;rw[bH];exact Pw bN hi
   rintro _ dn dp ⟨rfl,bS⟩;rw[bG,Y6,a1];have bT:=AtR.comp (S:=λr=>r<B\/D r\/r=gt) (λr h=>h) (λr h=>(aQ r h).imp id λh=>⟨h.1,Ω⟩) cP (cS.trans (P.mono λr _ h=>.inr (.inr h))) az bS;obtain⟨_,_,_,_,_,_,_,c0,_,bi⟩:=bS;have aZ:∀ {g:Nat},w.heap.size<=g->g<aN.heap.size->¬(g<B\/aE g\/g=gt):=λc1 dq h=>by
    rcases h with h|h|h
    .omega
    .exact (aQ _ h).elim (aJ c1) λh=>Ω
    .omega
   refine⟨⟨cZ.ab bi (aZ Ω Ω),c0.2.2.2.2.1.1⟩,⟨?_,bQ.ab bi (aZ Ω Ω),cY.ab bi (aZ Ω Ω)⟩,λh=>by cases h⟩;have e:k+(((aB x).take j).flatMap λy=>fJ s sc dS v q (p+1) (tl.set p y)).length+(fJ s sc dS v q (p+1) (aO.set p (y:Int))).length=k+(((aB x).take (j+1)).flatMap λy=>fJ s sc dS v q (p+1) (tl.set p y)).length:=by
    rw[bR,u9,bN,o9,List.flatMap_append,List.flatMap_singleton,o4];omega
   rw[e] at bT;exact bT
  .rintro _ j dr rfl ⟨X,az,N⟩;rw[b8 (by rw[<-bE,u7];exact p8 _),<-bH] at X;exact aV E Ω ad m af ao (X.base W λr _ h=>h.imp id λh=>h.imp id .inl) N
end
end Go.Proofs.YtmgflbkdggdhoaaGreatDoor
