/- own texts, made small by a tool (wip/ holds them as they were written): no statement of the seat. -/
import Derived.Test.YtjjhhcfgfdepdaaGreatDoorXd
set_option linter.unusedVariables false
set_option linter.unusedSimpArgs false
set_option linter.unnecessarySimpa false
open Array renaming getElem?_eq_some_iff→j0
open BitVec renaming ofInt→T1
open Bool renaming not_true→Y5,not_false→V0,eq_iff_iff→U1,and_eq_true→T0,true_and→T3
open Decidable renaming not_not→Y7
open Go renaming Value→x1,World→x3,TypeId→r9,IntKind→o6,Program→W9
open Go.Builtin renaming append_→b9
open Go.Instr renaming loadAt→u5,fieldAt→u6,storeAt→o5,indexAt→c8,buildSlice→Y4
open Go.IntKind renaming i64→X7
open Go.Proofs.Tryz renaming prog→x7
open Int renaming toNat_natCast→r8
open List renaming getElem?_eq_some_iff→x4,mem_of_getElem?→x5,getElem?_eq_getElem→x6,getElem?_map→x8,getD_eq_getElem?_getD→u4,length_map→u7,take_add_one→u9,length_append→p8,replicate→p9,take_length→o7,take_of_length_le→o9,mem_singleton→n9,mem_map→l7,mem_append→l9,length_take→j5,map_append→j6,getElem?_set_self→j9,append_assoc→c9,length_cons→b8,eq_nil_of_length_eq_zero→Z0,getElem?_eq_none→Z4,length_set→Z5,getElem?_set_ne→Y0,ext_getElem?→Y6,flatMap_cons→X2,getElem?_take_of_lt→X4,getElem?_set→X6,mem_iff_getElem?→X9,mem_or_eq_of_mem_set→W3,append_nil→W7,mem_cons→V1,length_eq_one_iff→V2,range→V6,map_cons→V7,pairwise_iff_getElem→V9,length_singleton→U3,map_set→U9,mem_filter→T4,length→T7,mem_of_mem_take→T9,getElem?_eq_none_iff→S4,map_map→R6,getElem_mem→Q4
open Nat renaming le_refl→o4,le_trans→X0,mul_le_mul_right→X5,zero_le→X8,zero_add→W0,add_mul→U4,sub_self→U7,pow_le_pow_right→S3,add_assoc→R7
open Ne renaming symm→S8
open Option renaming toList_some→o8,map_some→Z6,isNone_some→Z7,map_eq_some_iff→X3,getD_some→V8
open Option.some renaming inj→c7
set_option maxHeartbeats 16000000
open Option renaming some→σ,none→ν
variable {w w' w2:x3}{aL szv z:x1}{S:Nat->Prop}{e:r9}{a c k v y:Int}{ac l r r' sc sizes t tl un:Λ}{K:x1->x3->Prop}{B ab ad j pos:Nat}{cs:List x1}{m:Bool}{L:List (Λ)}
namespace Go.Proofs.YtjjhhcfgfdepdaaGreatDoor
open Go Go.Vc Go.RowKit Go.Proofs Go.Proofs.Tryz
set_option maxRecDepth 100000
def N2 (w:x3) (f:bZ) (v:x1) (w':x3):Prop:=Ext w w'/\ ∃go a,bg cR 3 aU w' go v a/\(∀h∈a,fK w' f.sizes h/\ ∀r,pk h r->w.heap.size<=r)/\a.map dc=fE f/\ ∀r,leadsTo v r->w.heap.size<=r
def lp (k:Int) (sc cs:Λ) (h:cz):cz:=if h.1=sc then (h.1,dX k h.2 cs) else h
theorem N3 {N:Nat} {bJ:Nat} {f:bZ} (cG:n4 w bJ f) (R:e6 N f):ai x7 GY [Γ bJ] w (N2 w f):=by
 have hk:=R.k;obtain⟨szv,gz,aq,gr,aZ,bK,cH⟩:=id cG;obtain⟨bL,a2,cI,cJ⟩:=id cH;refine aw func106 ?_;rw[aO dF.p 3 aZ rfl,eA dA.u a2];refine bY.range bL.length (λi l J=>∃g L,Ext w J/\kB J w.heap.size g l f.sizes L/\L.map dc=eK f i) a2.le
  ⟨0,[],Ext.refl _,⟨bg.nil _ _ _ _ _,λh ay=>(by cases ay),λi j x y a6=>(by simp at a6),λr C=>(e7 C).elim⟩,rfl⟩ ?_ ?_
 rotate_left
 .rintro l J cK ⟨g,L,S,C,V⟩;rw[<-cI,CI] at V;rw[aQ,ah];refine⟨λh=>Ω,λ_=>N1 R C V λout w' go cL a6 a8 cM W cN cO=>?_⟩;have cP:=S.size;exact⟨S.trans a6,go,cL,a8,λh ay=>⟨W h ay,(C.2.1 h (cM h ay)).2⟩,cN,λr C=>by have:=cO r C;omega⟩
 rintro i l J cK hi ⟨g,L,S,C,V⟩ cQ;obtain⟨ba,bM⟩:=aE (l:=bL) hi;obtain⟨x,bb⟩:=aE (l:=f.funs) (i:=i) Ω;have bc:=x5 bb;have bd:=cJ i ba x bM bb;have bN:=pb R bc;obtain⟨cS,dK,dL⟩:=CH R i;have bO:L.length=(eK f i).length:=by rw[<-V,u7]
 have dM:=R.k3;have bQ:=a2.ext S;refine bH Ω ?_;refine aT (λl' w2=>∃g L,Ext w w2/\kB w2 w.heap.size g l' f.sizes L/\L.map dc=eK f (i+1)) ?_ ?_
 .rintro l' w2 bf;rw[aM];exact cQ _ _ bf
 intro au bR;rw[db rfl dA.u a1.i bQ hi,bx a1.p a1.i rfl (bQ.range bM)];refine bt a1.i λam dN dO cT cU=>?_;refine bT (vs:=eT ba) a1.i rfl rfl bd.one cU λcV cW dP cX=>?_;have bS:Ext J cV:=cT.put cW Ω;have dQ:=bS.size;refine aT (λa7 av=>∃G c,a7=Γ G/\Ext J av/\aa av G aU (cR c)/\c.sc=bk x.scope/\c.cs=(hY f.sizes f.k x).2/\fK av f.sizes c/\J.heap.size<=G/\ ∀r,pk c r->J.heap.size<=r) ?_ ?_
 rotate_left
 .intro dR bV;intro cY bW _ _;have ax:=bS.trans bW;have aA:=S.trans ax;have cZ:=cX.ext bW;have bX:=aZ.ext aA;have dS:=ax.size;rw[bx a1.p a1.i rfl (show cY.rangeAt am 0 (eT ba) from cZ.range),aO dF.p 2 bX rfl,aO dF.p 1 bX rfl];refine⟨?_,?_⟩
  .refine (Dl (bd.ext aA) R bc (bK.ext aA)).mono ?_;rintro _ dT _ ⟨bh,c,rfl,h1,bi,W,O⟩;refine bt aU.i λG dU b1 bj aC=>?_;refine⟨.inl (bh.trans bj),?_⟩;refine bT (vs:=cR c) aU.i rfl rfl W.one aC λdV b2 dW c0=>?_;have dY:=bh.size;refine bV _ _ ⟨G,c,rfl,(ax.trans bh).trans (bj.then b2 λr C he=>by have he:r=G:=he;omega),c0,h1,bi,?_,Ω,λr C=>by have:=O r C;omega⟩;exact mK (W.ext bj) b2 λr C=>.inl ⟨_,_,by have C:r=G:=C;subst C;exact aC,Φ,Φ⟩
  .refine bt aU.i λG dZ b1 aF aC=>?_;refine⟨.inl aF,?_⟩;have b3:=aA.trans aF;refine (Dl (bd.ext b3) R bc (bK.ext b3)).mono ?_;rintro _ ea _ ⟨b4,c,rfl,h1,bi,W,O⟩;have b5:=aC.ext b4;have eb:=aF.size;refine bT (vs:=cR c) aU.i rfl rfl W.one b5 λec b6 ed c3=>?_;refine bV _ _ ⟨G,c,rfl,ax.trans ((aF.trans b4).then b6 λr C he=>by have he:r=G:=he;omega),c3,h1,bi,?_,Ω,λr C=>by have:=O r C;omega⟩;exact mK W b6 λr C=>.inl ⟨_,_,by have C:r=G:=C;subst C;exact b5,Φ,Φ⟩
 rintro _ av ⟨G,c,rfl,bl,c4,ae,aG,c5,b1,O⟩;have b7:=C.ext bl;have c6:∀h∈L,∀r,leads h.aY r->r<J.heap.size:=λh ay r c8=>by
  obtain⟨⟨_,_,c9,b8⟩,_⟩:=C.2.1 h ay;have:=bU b8 c8;omega
 have da:∀ {j:Nat},decide (c.sc∈(L.take j).map (·.sc))=decide (bk x.scope∈((eK f i).take j).map (·.1)):=λ{j}=>by
  rw[ae,<-V,<-List.map_take,R6];rfl
 have cP:=S.size;rw[eA cj.u b7.1];refine bY.range L.length (λj aq P=>∃E,aq= .bool (decide (c.sc∈(L.take j).map (·.sc)))/\Ext w P/\J.heap.size<=P.heap.size/\kB P w.heap.size g l f.sizes E/\E.map dc=((eK f i).map (lp f.k c.sc c.cs)).take j++(eK f i).drop j/\aa P G aU (cR c)/\fK P f.sizes c/\ ∀h∈E,∀r,leads h.aY r->r<J.heap.size) C.1.le
  ⟨L,Ξ,S.trans bl,bl.size,b7,by simpa using V,c4,c5,c6⟩ ?_ ?_
 .rintro j _ P dd b9 ⟨E,rfl,af,de,aH,M,bm,bn,X⟩ df;have dg:E.length=L.length:=by
   have:=congrArg T7 M;simp only[u7,p8,j5,List.length_drop] at this;omega
  obtain⟨h,ay⟩:=aE (l:=E) (i:=j) Ω;have aI:(eK f i)[j]? =σ (dc h):=by
   have cb:(E.map dc)[j]? =σ (dc h):=by rw[x8,ay];rfl
   rw[M,Do (by rw[u7];omega)] at cb;exact cb
  have aJ:((eK f i).map (lp f.k c.sc c.cs))[j]? =σ (lp f.k c.sc c.cs (dc h)):=by rw[x8,aI];rfl
  have dh:∃y,L[j]? =σ y/\y.sc=h.sc:=by
   refine⟨_,x6 b9,?_⟩;rw[<-V,x8,x6 b9] at aI;exact congrArg Prod.fst (c7 aI)
  obtain⟨y,K,di⟩:=dh;have bo:(c.sc∈(L.take (j+1)).map (·.sc))↔c.sc∈(L.take j).map (·.sc)\/h.sc=c.sc:=by
   rw[u9,K,o8,j6,l9,List.map_singleton,n9,di];exact or_congr Iff.rfl ⟨λe=>e.symm,λe=>e.symm⟩
  have cc:fG f.sizes f.k (dc h):=cS _ (x5 aI);refine bH Ω ?_;refine aT (λaq Q=>∃E,aq= .bool (decide (c.sc∈(L.take (j+1)).map (·.sc)))/\Ext w Q/\J.heap.size<=Q.heap.size/\kB Q w.heap.size g l f.sizes E/\E.map dc=((eK f i).map (lp f.k c.sc c.cs)).take (j+1)++(eK f i).drop (j+1)/\aa Q G aU (cR c)/\fK Q f.sizes c/\ ∀h∈E,∀r,leads h.aY r->r<J.heap.size) ?_ ?_
  .rintro ee Q bf;rw[aM];exact df _ _ bf
  intro eg cd;intro dj aj _ _;have aL:=aH.ext aj;have ce:=bm.ext aj;have cg:=bn.ext aj;obtain⟨dk,eh⟩:=aL.2.1 h (x5 ay);obtain⟨⟨g1,h1⟩,_,c9,b8⟩:=id dk;obtain⟨⟨ei,dl⟩,_,ej,ch⟩:=id cg;rw[db rfl cj.u aU.i aL.1 Ω,aP aU.p rfl,aB (v:=h.aD) Ψ (aL.1.range ay 0 _ rfl),az aU.p 0 ce rfl];refine (p4 h1.ls dl.ls).mono ?_;rintro _ ek _ ⟨rfl,ab⟩;have ck:=aL.ext ab;have bp:=ce.ext ab;have cl:=cg.ext ab;have cm:=(af.trans aj).trans ab;have z9:=(aj.trans ab).size;rw[ah];refine⟨λbq=>?_,λcn=>?_⟩
  rotate_left
  .refine cd _ _ ⟨E,?_,cm,Ω,ck,?_,bp,cl,X⟩
   .congr 1;exact decide_eq_decide.2 ⟨λh=>bo.2 (.inl h),λh=>(bo.1 h).resolve_right cn⟩
   .have e:lp f.k c.sc c.cs (dc h)=dc h:=if_neg cn;rw[e] at aJ;rw[<-wL Ω aJ,<-M];symm;refine Y6 λp=>?_;rw[X6];by_cases al:j=p
    .subst al;rw[if_pos rfl,if_pos Θ,x8,ay];rfl
    .rw[if_neg al]
  have dm:h.cs.length=c.cs.length:=by
   have dn:h.cs.length=_:=cc.len;have dp:c.cs.length=(aK (bP f.sizes (hY f.sizes f.k x).1)).toNat:=by rw[aG];exact bN.len
   rw[dn,dp,show (dc h).1=h.sc from rfl,bq,ae];rfl
  have em:(dX f.k h.cs c.cs).length=h.cs.length:=by unfold dX;rw[List.length_zipWith];omega
  rw[az aU.p 2 bp rfl,aX an.u (ch.ext ab).ls];refine ci.range c.cs.length (λs Y=>Ext w Y/\J.heap.size<=Y.heap.size/\kB Y w.heap.size g l f.sizes (E.set j {h with cs:=(dX f.k h.cs c.cs).take s++h.cs.drop s})/\aa Y G aU (cR c)/\fK Y f.sizes c) ch.ls.le
   ⟨cm,Ω,?_,bp,cl⟩ ?_ ?_
  .have e:E.set j {h with cs:=(dX f.k h.cs c.cs).take 0++h.cs.drop 0}=E:=by
    refine Y6 λp=>?_;rw[X6];by_cases al:j=p
    .subst al;rw[if_pos rfl,if_pos Ω,ay];rfl
    .rw[if_neg al]
   rw[e];exact ck
  .rintro s Y dq I ⟨br,cp,aN,bu,bw⟩ dr;refine bH Ω ?_;intro en ao _ _;have ac:=aN.ext ao;have cq:=bu.ext ao;have cr:=bw.ext ao;have ct:=br.trans ao;have aR:(E.set j {h with cs:=(dX f.k h.cs c.cs).take s++h.cs.drop s})[j]? =σ {h with cs:=(dX f.k h.cs c.cs).take s++h.cs.drop s}:=by
    rw[X6,if_pos rfl,if_pos Ω]
   have cu:j<(E.set j {h with cs:=(dX f.k h.cs c.cs).take s++h.cs.drop s}).length:=by rw[Z5];omega
   obtain⟨⟨_,_,ds,bz⟩,dt⟩:=ac.2.1 _ (x5 aR);obtain⟨_,_,eo,du⟩:=id cr;obtain⟨a,bA⟩:=aE (l:=h.cs) (i:=s) Ω;obtain⟨b,ap⟩:=aE (l:=c.cs) I;have dv:s<({h with cs:=(dX f.k h.cs c.cs).take s++h.cs.drop s}:eD).cs.length:=by show s<((dX f.k h.cs c.cs).take s++h.cs.drop s).length;rw[p8,j5,List.length_drop];omega
   have dw:((dX f.k h.cs c.cs).take s++h.cs.drop s)[s]? =σ a:=by rw[Do Ω];exact bA
   have bB:(dX f.k h.cs c.cs)[s]? =σ (min (a+b) f.k):=by
    unfold dX;rw[List.getElem?_zipWith,bA,ap]
   have ep:=cc.im a (x5 bA);have er:=bN.im b (by rw[<-aG];exact x5 ap);have dx:=aZ.ext ct;rw[db rfl cj.u aU.i ac.1 cu,aP aU.p rfl,aB (v:=h.aY) Ψ (ac.1.range aR 2 _ rfl),db rfl cj.u aU.i ac.1 cu,aP aU.p rfl,aB (v:=h.aY) Ψ (ac.1.range aR 2 _ rfl),be an.u ak.i Ψ bz.ls dw,az aU.p 2 cq rfl,be an.u ak.i Ψ du.ls ap,aO dF.p 1 dx rfl];refine (oW Ω Ω).mono ?_;rintro _ es _ ⟨rfl,ad⟩;refine⟨.inl ad,?_⟩;have z12:=(ao.trans ad).size;refine NY (h:={h with cs:=(dX f.k h.cs c.cs).take s++h.cs.drop s}) (ac.ext ad) aR dv λet aS cw bC=>?_;rw[aM];have dy:=cr.ext ad;have cz:=cq.ext ad;have ev:=aS.size;refine dr _ ⟨(ct.trans ad).then aS λr C he=>by have:=dt r (.inl he);omega,Ω,?_,?_,?_⟩
   .rw[List.set_set] at bC;have e:=wL (A:=dX f.k h.cs c.cs) (B:=h.cs) (s:=s) Ω bB;simp only[e] at bC;exact bC
   .exact cz.U aS λI=>by
     obtain⟨ew,dz⟩:=cw _ I;exact absurd (eu cz dz) Φ
   .refine mK dy aS λr C=>.inr (.inr ⟨cw r C,λdC=>?_⟩);have:=O r (.inl dC);have:=X h (x5 ay) r C;omega
  .rintro Y dq ⟨br,cp,aN,bu,bw⟩;refine ca Ω ?_;have e:(dX f.k h.cs c.cs).take c.cs.length++h.cs.drop c.cs.length=dX f.k h.cs c.cs:=by
    rw[<-dm,List.drop_length,W7,o9 Ω]
   simp only[e] at aN;refine cd _ _ ⟨_,?_,br,cp,aN,?_,bu,bw,λz H r C=>?_⟩
   .congr 1;symm;exact decide_eq_true (bo.2 (.inr bq))
   .have dD:lp f.k c.sc c.cs (dc h)=dc {h with cs:=dX f.k h.cs c.cs}:=if_pos bq;rw[dD] at aJ;rw[U9,M,wL Ω aJ]
   .rcases W3 H with H|rfl
    .exact X z H r C
    .exact X h (x5 ay) r C
 rintro _ P dd ⟨E,rfl,af,de,aH,M,bm,bn,X⟩;refine ca Ω ?_;rw[da,bO,o7,bF,b0];have cA:=wj bb;have bB:((eK f i).map (lp f.k c.sc c.cs)).take L.length++(eK f i).drop L.length=(eK f i).map (lp f.k c.sc c.cs):=by
  rw[bO,List.drop_length,W7,o9 (by rw[u7];exact o4 _)]
 rw[bB] at M;have dg:E.length=L.length:=by
  have:=congrArg T7 M;rw[u7,u7] at this;omega
 refine⟨λaV=>?_,λbD=>?_⟩
 .have aV:bk x.scope∉(eK f i).map (·.1):=by simpa using aV
  have dE:(eK f i).map (lp f.k c.sc c.cs)=eK f i:=by
   refine (List.map_congr_left λz H=>?_).trans (List.map_id _);exact if_neg λhe=>aV (l7.2 ⟨z,H,by rw[he,ae]⟩)
  rw[dE] at M;rw[bx aU.p aU.i rfl (show P.rangeAt G 0 (cR c) from bm.range)];refine h0 (f:=cR) (k:=3) (a:=c) cj.u aU.i Ω rfl rfl λey ds Q ez aW bz=>?_;have Z:=aH.ext aW;have cB:=bn.ext aW;refine ik (f:=cR) (a:=c) cj.u aU.i rfl Z.1 (by simpa using bz.sl) cB.one Ω Ω λeB dG dj a8 dH bE=>?_;have cC:∀r,leadsTo l r-> ∃e c,aa Q r e c/\e≠ag/\e≠ak:=λr C=>by
   obtain⟨rfl,c,ap⟩:=ef Z.1 C;exact⟨_,c,ap,Φ,Φ⟩
  have eC:=aW.size;have eE:=af.size;refine bR _ _ ⟨dG,E++[c],(af.trans aW).then bE λr C he=>by have:=Z.2.2.2 r he;omega,⟨a8,λz H=>?_,λp q y z K H dI r bG bI=>?_,λr C=>(dH r C).elim (Z.2.2.2 r) λh=>Ω⟩,?_⟩
  .rcases l9.1 H with H|H
   .exact⟨mK (Z.2.1 z H).1 bE λr C=>.inl (cC r C),(Z.2.1 z H).2⟩
   .rw[n9.1 H];exact⟨mK cB bE λr C=>.inl (cC r C),λr C=>by have:=O r C;omega⟩
  .have cD:∀ {p:Nat} {y:eD},(E++[c])[p]? =σ y->E[p]? =σ y\/(p=E.length/\y=c):=λ{p y} K=>by
    rw[List.getElem?_append] at K;split at K
    .exact .inl K
    .by_cases dJ:p-E.length=0
     .rw[dJ] at K;cases K;exact .inr ⟨Ω,rfl⟩
     .rw[Z4 Θ] at K;cases K
   rcases cD K with cE|⟨eF,rfl⟩<;>rcases cD H with cF|⟨eq,rfl⟩
   .exact Z.2.2.1 p q y z cE cF dI r bG bI
   .have:=X y (x5 cE) r bG;have:=O r (.inl bI);omega
   .have:=X z (x5 cF) r bI;have:=O r (.inl bG);omega
   .omega
  .rw[j6,M,cA,CG λz H he=>aV (l7.2 ⟨z,H,he⟩)];show _++[(c.sc,c.cs)]=_;rw[ae,aG];rfl
 .have bD:bk x.scope∈(eK f i).map (·.1):=by simpa using bD
  refine bR _ _ ⟨g,E,af,aH,?_⟩;rw[M,cA];unfold ih;rw[if_pos (show (hY f.sizes f.k x).1∈_ from bD)];refine List.map_congr_left λz _=>?_;unfold lp;rw[ae,aG];rfl
def wM (w:x3) (B:Nat) (v:x1) (n:aS):Prop:=∃szv gz a f aR e gr L,v= .agg #[Δ n.k,szv,Δ n.zero,a,e]/\ap .i64 ag w gz szv n.sizes/\hE w f a aR/\aR.map (·.l)=n.unary/\bg cR 3 aU w gr e L/\(∀h∈L,fK w n.sizes h)/\L.map dc=n.funs/\(∀r,leads szv r->B<=r)/\ ∀h∈L,∀r,pk h r->B<=r
def z9:List x1:=[Δ 0,.slice ν 0 0,Δ 0,.slice ν 0 0,.slice ν 0 0]
def mL (w:x3) (C gt gs go:Nat) (szv aY:x1) (f:bZ) (a:List eD) (w':x3):Prop:=Ext w w'/\C<=w'.heap.size/\aa w' gt dE z9/\ap .i64 ag w' gs szv f.sizes/\bg cR 3 aU w' go aY a/\(∀r,leadsTo aY r->r<C)/\ ∀h∈a,fK w' f.sizes h
theorem mL.ext {C gt gs go:Nat} {aY:x1} {f:bZ} {e:List eD} (h:mL w C gt gs go szv aY f e w') (a:Ext w' w2):mL w C gt gs go szv aY f e w2:=by
 obtain⟨h1,z,j,p,q,r,s⟩:=h;have:=a.size;exact⟨h1.trans a,Ω,j.ext a,p.ext a,q.ext a,r,λx y=>(s x y).ext a⟩
def N4 (w w':x3) (C gt:Nat) (r:Nat):Prop:=w.heap.size<=r/\r≠gt/\((∃c,aa w' r dE c)\/(∃c,aa w' r an c)\/((∃c,aa w' r aU c)/\C<=r))
theorem mL.U {C gt gs go:Nat} {aY:x1} {f:bZ} {y:List eD} (h:mL w C gt gs go szv aY f y w') (p:ae S w' w2) (q:∀r,S r->N4 w w' C gt r):mL w C gt gs go szv aY f y w2:=by
 obtain⟨h1,J,E,z,s,A,F⟩:=h;have:=p.size;have B:∀r,S r-> ∃e c,aa w' r e c/\e≠ag/\e≠ak:=λr j=>by
  obtain⟨_,_,⟨c,a⟩|⟨c,a⟩|⟨⟨c,a⟩,_⟩⟩:=q r j
  .exact⟨_,c,a,Φ,Φ⟩
  .exact⟨_,c,a,Φ,Φ⟩
  .exact⟨_,c,a,Φ,Φ⟩
 refine⟨h1.then p λr j I=>by have:=(q r I).1;omega,Ω,E.U p λI=>(q _ I).2.1 rfl,bq z p λr j I=>?_,s.U p λr j I=>?_,A,λx G=>mK (F x G) p λr j=>.inl (B r j)⟩
 .obtain⟨e,c,a,H,_⟩:=B r I;exact cd z a (λhe=>H he.symm) j rfl
 .obtain⟨_,_,⟨c,a⟩|⟨c,a⟩|⟨_,K⟩⟩:=q r I
  .exact cQ s a Φ j
  .exact cQ s a Φ j
  .have:=A r j;omega
def Ds (w:x3) (C f:Nat) (szv:x1) (k:Int) (n:aS) (j:List eD) (w':x3):Prop:=∃a p aR e gr L,aa w' f dE [Δ k,szv,Δ n.zero,a,e]/\hE w' p a aR/\aR.map (·.l)=n.unary/\(∀r,leadsTo a r->w.heap.size<=r)/\bg cR 3 aU w' gr e L/\(∀h∈L,h∈j)/\L.map dc=n.funs/\ ∀r,leadsTo e r->C<=r
theorem Dt {N:Nat} {bY:Nat} {f:bZ} (b0:n4 w bY f) (Q:e6 N f):ai x7 Gf [Γ bY] w λv w'=>Ext w w'/\wM w' w.heap.size v (df f):=by
 have hk:=Q.k;have dD:=Q.sizes.2.1;obtain⟨dH,dI,dJ,dK,b1,b2,dL⟩:=id b0;refine aw func39 ?_;refine bt dE.i λgt J dM aS aT=>?_;have aT:aa J gt dE z9:=aT;rw[aO dF.p 1 (b1.ext aS) rfl,dq (cs:=#[Δ f.k,.slice ν 0 0,Δ 0,.slice ν 0 0,.slice ν 0 0]) Ψ];refine bt dE.i λA w2 dN b3 cJ=>?_;refine bT (vs:=[Δ f.k,.slice ν 0 0,Δ 0,.slice ν 0 0,.slice ν 0 0]) dE.i rfl rfl (by intro u hu;simp at hu;rcases hu with rfl|rfl|rfl|rfl<;>rfl) cJ λcK b4 dO cL=>?_;have bu:Ext w cK:=(aS.trans b3).then b4 λr q he=>by have he:r=A:=he;have:=aS.size;omega
 have dP:=aT.lt;have E:A≠gt:=Ω
 have cM:=(aT.ext b3).U b4 λhe=>by have he:gt=A:=he;omega
 rw[aO dF.p 2 (b1.ext bu) rfl,aX an.u (b2.ext bu).ls];have dQ:=aS.size;refine ci.range f.sizes.length (λi V=>Ext w V/\aa V gt dE z9/\ ∃szv gs B H aR,aa V A dE [Δ f.k,szv,Δ 0,B,.slice ν 0 0]/\ap .i64 ag V gs szv (f.sizes.take i)/\(∀r,leads szv r->w.heap.size<=r)/\hE V H B aR/\aR.map (·.l)=(f.sizes.take i).map (λz=>p9 z.toNat 0)/\ ∀r,leadsTo B r->w.heap.size<=r) Ω
  ⟨bu,cM,_,0,_,0,[],cL,ap.nil _ _ _ _,(λr q=>by obtain⟨a,n,c,cN,dR⟩:=q;cases cN),⟨bg.nil _ _ _ _ _,λx bw=>(by cases bw)⟩,rfl,λr q=>(e7 q).elim⟩ ?_ ?_
 .rintro i V cO hi ⟨W,bz,szv,gs,B,H,aR,aD,aV,aW,bA,aF,aZ⟩ cP;obtain⟨z,C⟩:=aE (l:=f.sizes) hi;have dS:=Q.sizes.2.2 z (x5 C);have dT:aR.length=i:=by have:=congrArg T7 aF;simp only[u7,j5] at this;omega
  refine bH Ω ?_;rw[be an.u ak.i Ψ (b2.ext W).ls C,az dE.p 1 aD rfl];refine ej (k:=.i64) al.u ag.i rfl λa5 dU b5 dV aj cS=>?_;have aG:=aV.ext aj;refine gP al.u ag.i rfl aG cS.ls Θ Θ λbB b6 dW a1 cT b7=>?_;have bC:=aD.ext aj;have b8:=bz.ext aj;have b9:=bC.U b7 λhe=>cd aG bC Φ he rfl;rw[aP dE.p rfl];refine bo (g:=A) (o:=1) al.i a1.ls.cells.1 a1.ls.cells.2 b9 Ξ λa2 cb dX a6=>?_;have a6:aa a2 A dE [Δ f.k,bB,Δ 0,B,.slice ν 0 0]:=a6;have bD:ae (λr=>leads szv r\/r=A) b5 a2:=(b7.mono λr _ h=>.inl h).trans (cb.mono λr _ h=>.inr h);have cU:ap .i64 ag a2 b6 bB (f.sizes.take (i+1)):=by
   rw[u9,C];exact bq a1 cb λr q he=>by
    have he:r=A:=he;subst he;exact cd a1 b9 Φ q rfl
  have am:∀r,(leads szv r\/r=A)-> ∃e c,aa b5 r e c/\e≠ak/\e≠an:=λr q=>by
   rcases q with q|rfl
   .obtain⟨rfl,_⟩:=bU aG q;obtain⟨_,⟨cV,_⟩|⟨cap,full,_,s,_⟩⟩:=aG
    .obtain⟨a,n,c,e,_⟩:=q;rw[cV] at e;cases e
    .exact⟨_,_,s,Φ,Φ⟩
   .exact⟨_,_,bC,Φ,Φ⟩
  have cW:=(bA.ext aj).U bD am;have z4:=W.size;have z5:=aj.size;have cc:Ext w a2:=(W.trans aj).then bD λr q he=>by
   rcases he with he|he
   .have:=aW r he;omega
   .omega
  have cX:=b8.U bD λI=>by
   rcases I with I|I
   .exact cd aG b8 Φ I rfl
   .omega
  intro dY ce _ _;have cY:=a6.ext ce;rw[az dE.p 3 cY rfl];obtain⟨X,rfl⟩:∃n:Nat,z=n:=⟨z.toNat,Ω⟩;refine kk (k:=.i64) an.u ak.i Ω Ω λa7 cZ dZ bE c0=>?_;refine⟨.inl bE,?_⟩;have c3:ap .i64 ak cZ a7 (.slice (σ ⟨a7,0,ν⟩) X X) (p9 X 0):=ap.of (bV.full (k:=1) (n:=X) c0 Ξ (by simp[maxLen];omega));let a:lg:=⟨.slice (σ ⟨a7,0,ν⟩) X X,p9 X 0⟩;refine h0 (f:=nV) (a:=a) dn.u an.i Ω rfl rfl λea eb bF ec bG c4=>?_;refine⟨.inl (bE.trans bG),?_⟩;have ao:=(ce.trans bE).trans bG;have aH:=cW.ext ao;refine ik (f:=nV) (a:=a) dn.u an.i rfl aH.1 (by simpa using c4.sl) (λu hu=>by rw[n9.1 (show u∈[a.v] from hu)];rfl) Ω Ω λbI bJ ed K bK cg=>?_;have aq:∀ {r:Nat},leadsTo B r-> ∃c,aa bF r an c:=λq=>by
   obtain⟨rfl,c,s⟩:=ef aH.1 q;exact⟨c,s⟩
  have bL:=a6.ext ao;have ch:=bL.U cg λhe=>cQ aH.1 bL Φ he;rw[aP dE.p rfl];refine bo dn.i (eL K.sl).1 (eL K.sl).2 ch Ξ λc5 ck ee c6=>?_;rw[aM];have R:ae (λr=>leadsTo B r\/r=A) bF c5:=(cg.mono λr _ h=>.inl h).trans (ck.mono λr _ h=>.inr h);have bM:∀r,(leadsTo B r\/r=A)-> ∃e c,aa bF r e c/\e≠ak/\e≠ag:=λr q=>by
   rcases q with q|rfl
   .obtain⟨c,s⟩:=aq q;exact⟨_,c,s,Φ,Φ⟩
   .exact⟨_,_,bL,Φ,Φ⟩
  have cl:=cU.ext ao;have eg:=cc.size;have eh:=ao.size;have cm:=cX.ext ao;refine cP _ ⟨(cc.trans ao).then R (λr q he=>?_),cm.U R (λI=>?_),bB,b6,bI,bJ,aR++[a],c6,bq cl R (λr q I=>?_),λr q=>?_,⟨K.U ck λr q he=>?_,λy M=>?_⟩,?_,λr q=>?_⟩
  .rcases he with he|rfl
   .have:=aZ r he;omega
   .omega
  .rcases I with I|I
   .exact cQ aH.1 cm Φ I
   .omega
  .obtain⟨e,c,s,_,E⟩:=bM r I;exact cd cl s (λhe=>E he.symm) q rfl
  .rcases cT r q with h|h
   .exact aW r h
   .omega
  .have he:r=A:=he;subst he;exact cQ K ch Φ q
  .rcases l9.1 M with M|M
   .exact aH.qH R (λr q=>by obtain⟨e,c,s,E,_⟩:=bM r q;exact⟨e,c,s,E⟩) y M
   .rw[n9.1 M];have cn:=c3.ext bG;exact⟨a7,bq cn R λr q I=>by
     obtain⟨e,c,s,E,_⟩:=bM r I;exact cd cn s (λhe=>E he.symm) q rfl⟩
  .rw[j6,aF,u9,C,o8,j6];rfl
  .rcases bK r q with h|h
   .exact aZ r h
   .omega
 rintro V cO ⟨W,bz,szv,gs,B,H,aR,aD,aV,aW,bA,aF,aZ⟩;refine ca Ω ?_;rw[o7] at aV aF;refine (N3 (b0.ext W) Q).mono ?_;rintro aY a8 _ ⟨av,go,O,K,cp,cq,ei⟩;have cr:O.length=(fE f).length:=by rw[<-cq,u7]
 have ek:O.length<=256:=by
  have h1:=(qy Q).2.length_eq;have ba:=(lb Q).2.2;have em:=List.length_filter_le fD (fl f);have en:=Q.k3;omega
 have z4:=W.size;have eo:=av.size;have ep:=aD.lt;rw[eA cj.u K];refine ci.range O.length (λi Y=>mL w a8.heap.size gt gs go szv aY f O Y/\Ds w a8.heap.size A szv f.k (dG f i) O Y) K.le
  ⟨⟨W.trans av,o4 _,bz.ext av,aV.ext av,K,λr q=>by have:=K.leads q;omega,λh ay=>(cp h ay).1⟩,B,H,aR,_,0,[],aD.ext av,bA.ext av,aF,aZ,bg.nil _ _ _ _ _,λx bw=>(by cases bw),rfl,λr q=>(e7 q).elim⟩ ?_ ?_
 rotate_left
 .rintro Y c7 ⟨ax,B,H,aR,Z,gr,L,bb,bc,ab,aI,aJ,aA,ac,aL⟩;obtain⟨c8,er,ct,bN,es,et,c9⟩:=id ax;have bd:=pe f O.length;rw[cr,ti] at bd;rw[cr,ti] at bb ab ac;refine ca Ω ?_;rw[bx dE.p dE.i rfl (show Y.rangeAt A 0 [Δ f.k,szv,Δ (df f).zero,B,Z] from bb.range)];refine bT (vs:=[Δ f.k,szv,Δ (df f).zero,B,Z]) dE.i rfl rfl (λu hu=>?_) ct λev aN ew da=>?_
  .simp at hu;rcases hu with rfl|rfl|rfl|rfl|rfl
   .rfl
   .exact bN.ls.cells.2
   .rfl
   .exact (eL bc.1.sl).2
   .exact (eL aJ.sl).2
  rw[fB dE.p dE.i rfl da.range];have am:∀r,r=gt-> ∃e c,aa Y r e c/\e≠ak/\e≠an/\e≠ag/\e≠aU:=λr q=>by
   subst q;exact⟨_,_,ct,Φ,Φ,Φ,Φ⟩
  refine⟨c8.then aN λr q he=>by have he:r=gt:=he;omega,szv,gs,B,H,aR,Z,gr,L,?_,?_,bc.U aN (λr q=>?_),ab,aJ.U aN (λr q I=>?_),λh ay=>?_,ac,aW,λh ay r q=>by have:=(cp h (aA h ay)).2 r q;omega⟩
  .rw[bd.1]
  .rw[bd.2.1];refine bq bN aN λr q I=>?_;obtain⟨e,c,s,_,_,E,_⟩:=am r I;exact cd bN s (λhe=>E he.symm) q rfl
  .obtain⟨e,c,s,h1,ba,_⟩:=am r q;exact⟨e,c,s,h1,ba⟩
  .obtain⟨e,c,s,_,_,_,E⟩:=am r I;exact cQ aJ s (λhe=>E he.symm) q
  .rw[bd.2.1];exact mK (c9 h (aA h ay)) aN λr q=>by
    obtain⟨e,c,s,h1,_,ba,_⟩:=am r q;exact .inl ⟨e,c,s,ba,h1⟩
 rintro i Y c7 hi ⟨ax,B,H,aR,Z,gr,L,bb,bc,ab,aI,aJ,aA,ac,aL⟩ dd;obtain⟨y,M⟩:=aE (l:=O) hi;have bf:=x5 M;have cu:(fE f)[i]? =σ (dc y):=by rw[<-cq,x8,M];rfl
 have bO:fG f.sizes f.k (dc y):=sX Q _ (x5 cu);have bQ:=wm cu;obtain⟨ey,ez,eB,eC⟩:=pe f i;refine bH Ω ?_;refine dm (λbR=>mL w a8.heap.size gt gs go szv aY f O bR/\Ds w a8.heap.size A szv f.k (dG f (i+1)) O bR) ?_ ?_
 .rintro bR h;rw[aM];exact dd _ h
 intro au bS;rw[db rfl cj.u aU.i ax.2.2.2.2.1 hi,bx aU.p aU.i rfl (ax.2.2.2.2.1.range M)];refine bt aU.i λde eD eE dg dh=>?_;refine bT (vs:=cR y) aU.i rfl rfl (ax.2.2.2.2.2.2 y bf).one dh λcw di eF bh=>?_;have bj:Ext Y cw:=dg.put di Ω;have bk:=ax.ext bj;have ad:=bb.ext bj;have bW:=bc.ext bj;have bl:=aJ.ext bj;obtain⟨eH,eI,cz,eJ,eK,eM,cA⟩:=id bk;obtain⟨⟨eN,cB⟩,_,dj,cC⟩:=cA y bf;rw[az aU.p 0 bh rfl,aX al.u cB.ls];have eO:aR.length=f.sizes.length:=by have:=congrArg T7 ab;rw[u7] at this;omega
 have eP:L.length<=256:=by have:=congrArg T7 ac;rw[u7] at this;omega
 rw[bi,ah];refine⟨λeQ=>?_,λeR=>?_⟩
 .
  have af:y.sc=[]:=Z0 Ω;have G:dG f (i+1)={dG f i with zero:=y.cs.getD 0 0}:=by rw[bQ];unfold iT;simp only[dc,af]
  have eS:y.cs.length=1:=by have:=bO.len;simpa[dc,af,bP,aK] using this
  have dk:y.cs[0]? =σ (y.cs.getD 0 0):=by rw[u4,x6 Ω];rfl
  rw[az aU.p 2 bh rfl,fA (y:=0) (i:=0) rfl an.u ak.i Ψ cC.ls dk,aP dE.p rfl];refine bo ak.i rfl rfl ad Ξ λdl P dp dr=>?_;refine bS _ ⟨bk.U P λr q=>?_,B,H,aR,Z,gr,L,?_,bW.U P (λr q=>?_),by rw[G];exact ab,aI,bl.U P (λr q I=>?_),aA,by rw[G];exact ac,aL⟩
  .have q:r=A:=q;subst q;exact⟨Ω,E,.inl ⟨_,ad⟩⟩
  .rw[G];exact dr
  .have q:r=A:=q;subst q;exact⟨_,_,ad,Φ,Φ⟩
  .have I:r=A:=I;subst I;exact cQ bl ad Φ q
 rw[bi,ah];refine⟨λh1=>?_,λeU=>?_⟩
 .
  obtain⟨v,af⟩:∃v,y.sc=[v]:=V2.1 Ω;have eV:=bO.scope.1 v (by show v∈y.sc;rw[af];exact .head _);have eW:=bO.vars v (by show v∈y.sc;rw[af];exact .head _);have G:dG f (i+1)={dG f i with unary:=(dG f i).unary.set v.toNat y.cs}:=by rw[bQ];unfold iT;simp only[dc,af]
  intro ds S _ _;have bX:=ad.ext S;have cD:=bh.ext S;have aQ:=bW.ext S;have dt:=bk.ext S;have cE:=bl.ext S;rw[az dE.p 3 bX rfl,az aU.p 0 cD rfl];refine pZ (y:=0) (i:=0) rfl al.u ag.i (cB.ls.ext S) (show y.sc[0]? =σ v by rw[af];rfl) λb o du=>?_;rw[aB Ψ du,az aU.p 2 cD rfl];obtain⟨u,hu⟩:=aE (l:=aR) (i:=v.toNat) Ω;rw[db (i:=v.toNat) Ω dn.u an.i aQ.1 Ω];let a:lg:=⟨y.aY,y.cs⟩;have bm:=cC.ext S;refine o0 (f:=nV) (j:=0) (a:=u) (a':=a) an.i bm.ls.cells.1 bm.ls.cells.2 aQ.1 hu rfl Ω λdl P dp dv=>?_;have aq:∀ {r:Nat},leadsTo B r-> ∃c,aa ds r an c:=λq=>by
   obtain⟨rfl,c,s⟩:=ef aQ.1 q;exact⟨c,s⟩
  refine bS _ ⟨dt.U P λr q=>?_,B,H,aR.set v.toNat a,Z,gr,L,?_,⟨dv,λz C=>?_⟩,?_,aI,cE.U P (λr q I=>?_),aA,by rw[G];exact ac,aL⟩
  .obtain⟨c,s⟩:=aq q;exact⟨aI r q,λhe=>(by subst he;exact absurd (eu s (cz.ext S)) Φ),.inr (.inl ⟨c,s⟩)⟩
  .rw[G];exact bX.U P λhe=>cQ aQ.1 bX Φ he
  .rcases W3 C with C|rfl
   .exact aQ.qH P (λr q=>by obtain⟨c,s⟩:=aq q;exact⟨_,c,s,Φ⟩) z C
   .exact⟨dj,bq bm P λr q I=>by
     obtain⟨c,s⟩:=aq I;exact cd bm s Φ q rfl⟩
  .rw[G,U9,ab]
  .obtain⟨c,s⟩:=aq I;exact cQ cE s Φ q
 .
  have G:dG f (i+1)={dG f i with funs:=(dG f i).funs++[dc y]}:=by
   rw[bQ];unfold iT;have cF:2<=(dc y).1.length:=by show 2<=y.sc.length;omega
   generalize dc y=g at cF ⊢;obtain⟨sc,cs⟩:=g
   match sc,cF with
   |_::_::_,_=>rfl
  rw[az dE.p 4 ad rfl,bx aU.p aU.i rfl (show cw.rangeAt de 0 (cR y) from bh.range)];refine h0 (f:=cR) (k:=3) (a:=y) cj.u aU.i Ω rfl rfl λeX eY dw eZ aC dx=>?_;have bn:=bl.ext aC;have dy:=bW.ext aC;have bp:=ad.ext aC;have dz:=bk.ext aC;refine ik (f:=cR) (a:=y) cj.u aU.i rfl bn (by simpa using dx.sl) (cA y bf).one Ω Ω λbI bJ e0 br bK cG=>?_;have cH:=bp.U cG λhe=>cQ bn bp Φ he;rw[aP dE.p rfl];refine bo cj.i (eL br.sl).1 (eL br.sl).2 cH Ξ λdA cI e1 dC=>?_;have R:ae (λr=>leadsTo Z r\/r=A) dw dA:=(cG.mono λr _ h=>.inl h).trans (cI.mono λr _ h=>.inr h);have e2:=aC.size;refine bS _ ⟨dz.U R λr q=>?_,B,H,aR,bI,bJ,L++[y],?_,dy.U R (λr q=>?_),by rw[G];exact ab,aI,br.U cI (λr q I=>?_),λz C=>?_,?_,λr q=>?_⟩
  .rcases q with q|rfl
   .obtain⟨rfl,c,s⟩:=ef bn q;have:=aL _ q;refine⟨Ω,λhe=>?_,.inr (.inr ⟨⟨c,s⟩,this⟩)⟩;subst he;exact absurd (eu s (cz.ext aC)) Φ
   .exact⟨Ω,E,.inl ⟨_,bp⟩⟩
  .rw[G];exact dC
  .rcases q with q|rfl
   .obtain⟨rfl,c,s⟩:=ef bn q;exact⟨_,c,s,Φ,Φ⟩
   .exact⟨_,_,bp,Φ,Φ⟩
  .have I:r=A:=I;subst I;exact cQ br cH Φ q
  .rcases l9.1 C with C|C
   .exact aA z C
   .rw[n9.1 C];exact bf
  .rw[G,j6,ac];rfl
  .rcases bK r q with h|h
   .exact aL r h
   .omega
def qQ (w:x3) (S:Nat->Prop) (e:r9):Prop:=∀r,S r-> ∃c,aa w r e c
theorem wN {a:r9} {k:o6} {g:Nat} {v:x1} (h:ap k a w g v l) (f:ae S w w') (j:qQ w S e) (p:a≠e):ap k a w' g v l:=bq h f λr q I=>by
 obtain⟨c,s⟩:=j r I;exact cd h s p q rfl
theorem Du {α:Type} {f:α->List x1} {k:Nat} {a:r9} {g:Nat} {v:x1} {L:List α} (h:bg f k a w g v L) (j:ae S w w') (p:qQ w S e) (q:a≠e):bg f k a w' g v L:=h.U j λr s I=>by
 obtain⟨c,x⟩:=p r I;exact cQ h x q s
theorem wO {a:r9} {r:Nat} {c:List x1} (h:aa w r a c) (f:ae S w w') (j:qQ w S e) (p:a≠e):aa w' r a c:=h.U f λI=>by
 obtain⟨c,q⟩:=j r I;exact p (eu h q)
theorem Dv {g:Nat} {c:List x1} (h:aa w g e c):qQ w (λr=>r=g) e:=λr a=>by
 have a:r=g:=a;subst a;exact⟨c,h⟩
theorem qR {k:o6} {g:Nat} {v:x1} (h:ap k e w g v l):qQ w (λr=>leads v r) e:=λr f=>by
 have f:leads v r:=f;obtain⟨rfl,_⟩:=bU h f;obtain⟨_,⟨p,_⟩|⟨cap,full,_,q,_⟩⟩:=h
 .obtain⟨a,n,c,j,_⟩:=f;rw[p] at j;cases j
 .exact⟨_,q⟩
def ax (x:bl):Λ:=((V6 x.un.length).map λv:Nat=>(v:Int)).filter λv=>!dropped x.mask v
theorem wP {P:W9} {k:o6} {t:r9} {b:Nat} (a:P.underlying t=σ (.slice e)) (hi:aN P e 1 b z)
  (f:∀v g w',g=w.heap.size->Ext w w'->ap k e w' g v []->K v w'):av P (Y4 t 0 #[]) w K:=
 jG a hi Ω (cs:=#[]) (by simp[Instr.fill]) λg w' h j p=>f _ g w' h j (ap.of (n:=0) (bV.full (by simpa using p) Ξ (by simp[maxLen])))
theorem N5 {v:x1} {n:aS} (h:wM w B v n) {g:Nat} (j:aa w' g dE v.cells.toList):∃szv gz a f aR e gr L,aa w' g dE [Δ n.k,szv,Δ n.zero,a,e]/\ap .i64 ag w gz szv n.sizes/\hE w f a aR/\aR.map (·.l)=n.unary/\bg cR 3 aU w gr e L/\(∀h∈L,fK w n.sizes h)/\L.map dc=n.funs/\(∀r,leads szv r->B<=r)/\ ∀h∈L,∀r,pk h r->B<=r:=by
 obtain⟨szv,gz,a,f,aR,e,gr,L,rfl,p,q,x,s,y,z⟩:=h;obtain⟨_,_,_,A⟩:=du p.ls;obtain⟨_,_,_,_,_,C,_⟩:=q.1.sl;obtain⟨_,_,_,_,_,E,_⟩:=s.sl;refine⟨szv,gz,a,f,aR,e,gr,L,?_,p,q,x,s,y,z⟩;rw[A,C,E] at j ⊢;exact j
def z12:List x1:=[Δ 0,.slice ν 0 0,Δ 0,.slice ν 0 0,.slice ν 0 0,.slice ν 0 0,.slice ν 0 0,.slice ν 0 0]
end Go.Proofs.YtjjhhcfgfdepdaaGreatDoor
namespace Go.Vc
open Go Go.RowKit
section
variable {P:W9} {w:x3} {α:Type} [aj α] {S R:af}
theorem Dw {k:Nat} {vs:List (List x1)} {i:Nat} {c:List x1} (h:∀x∈vs,x.length=k) (e:c.length=k) (hi:i<vs.length):over vs.flatten (i*k) c=(vs.set i c).flatten:=by
 have:=vI (f:=id) (k:=k) (L:=vs) (i:=i) (a:=c) h e hi;rw[List.flatMap_id,List.flatMap_id] at this;exact this
theorem N6 {v:x1} {l:List α} {i:Nat} (h:bj S R w [v] l) (T:i<l.length):∃g cap full p,v= .slice (σ ⟨g,0,ν⟩) l.length cap/\aa w g p full/\S g/\i*aj.n α+aj.n α<=full.length/\
  ∀ {A:af} {cs:List x1} {a:α},bj A R w cs a->(∀r,r<w.heap.size->S r->¬A r/\¬R r)-> ∀w',ae (λr=>r=g) w w'->aa w' g p (over full (i*aj.n α) cs)->bj (λr=>S r\/A r) R w' [v] (l.set i a):=by
 obtain⟨vs,g,F,s,he,I,hm⟩:=ia h;obtain⟨V,p,W⟩:=hm rfl;obtain⟨ah,⟨rfl,ai⟩|⟨cap,full,rfl,E,H,X,J,Y⟩⟩:=id W
 .omega
 have K:vs.length=l.length:=he.1;have Z:(i+1)*aj.n α<=l.length*aj.n α:=X5 _ T;have ab:l.length*aj.n α<=full.length:=by rw[J];exact X5 _ H
 rw[U4,Nat.one_mul] at Z;have y:S g:=V.resolve_left Ξ;refine⟨g,cap,full,p,rfl,E,y,Ω,λ{A cs a} L z w' M ac=>?_⟩;have N:=aj.len L;have O:¬A g:=(z g E.lt y).1;have P:¬R g:=(z g E.lt y).2;have ad:∀c∈vs.set i cs,c.length=aj.n α:=λc x=>by
  rcases W3 x with e|rfl
  .exact he.len c e
  .exact N
 have Q:bV w' g p (aj.n α) (.slice (σ ⟨g,0,ν⟩) l.length cap) (l.set i a).length (vs.set i cs).flatten:=by
  refine⟨by rw[km ad,Z5,Z5,K],.inr ⟨cap,_,by rw[Z5],ac,by rw[Z5];exact H,X,by rw[mn,J],?_⟩⟩;rw[Z5,sN Ω ab,Y,Dw he.len N Ω]
 refine⟨_,rfl,vs.set i cs,g,λj r=>if j=i then A r/\r<w.heap.size else F j r/\r<w.heap.size,⟨λj r f=>?_,λ_ j f=>?_,λ_ j q r ag h1 e=>?_⟩,⟨by simp[K],λj c a' x B=>?_⟩,?_,λ_=>⟨.inr (.inl y),p,Q⟩⟩
 .split at f
  .exact .inr f.1
  .exact .inl (s.sub j r f.1)
 .split at f
  .exact O f.1
  .exact s.top rfl j f.1
 .split at h1<;>split at e
  .omega
  .exact (z r e.2 (s.sub q r e.1)).1 h1.1
  .exact (z r h1.2 (s.sub j r h1.1)).1 e.1
  .exact s.gL rfl j q r ag h1.1 e.1
 .by_cases C:j=i
  .subst C;rw[j9 Ω] at x B;cases x;cases B;have G:bj (λr=>if j=j then A r/\r<w.heap.size else F j r/\r<w.heap.size) R w cs a:=aj.mono L (λr f h=>by rw[if_pos rfl];exact⟨h,f⟩) λ_ _ h=>h;refine aj.U G M λr f h1 e=>?_;have e:r=g:=e;subst e;rcases h1 with h1|h1
   .simp only[if_true] at h1;exact O h1.1
   .exact P h1
  .rw[Y0 (S8 C)] at x B;have G:bj (λr=>if j=i then A r/\r<w.heap.size else F j r/\r<w.heap.size) R w c a':=aj.mono (he.2 j c a' x B) (λr f h=>by rw[if_neg C];exact⟨h,f⟩) λ_ _ h=>h;refine aj.U G M λr f h1 e=>?_;have e:r=g:=e;subst e;rcases h1 with h1|h1
   .simp only[if_neg C] at h1;exact s.top rfl j h1.1
   .exact P h1
 .have:=ny (S:=λr=>(S r\/A r)\/R r) Q (.inr (.inl (.inl y)));exact this
theorem Dx {t:r9} {C:o6} {i b:Nat} {v x:x1} {l:List α} {a:α} {A:af} {K:Unit->x3->Prop} (j:aj.n α=1) (E:y=(i:Int)) (F:P.underlying t=σ (.slice e)) (hi:aN P e 1 b z)
  (h:bj S R w [v] l) (q:i<l.length) (G:x.cells= #[x]) (s:bj A R w [x] a) (H:∀r,r<w.heap.size->S r->¬A r/\¬R r)
  (I:∀w',ae S w w'->bj (λr=>S r\/A r) R w' [v] (l.set i a)->K () w'):V P (c8 t v (.int C y)) w λp=>av P (o5 e p x) w K:=by
 subst E;obtain⟨g,cap,full,Q,rfl,J,L,M,N⟩:=N6 h q;rw[j] at M;rw[fz F hi q λ_=>rfl];refine bo (o:=0+i*1) hi G (aj.one s x (.head _)) J Ω λw' B _ O=>I w' (B.mono λr _ f=>by have f:r=g:=f;subst f;exact L) (N s H w' B ?_);rw[j,W0] at*;exact O
end
end Go.Vc
namespace Go.Proofs.YtjjhhcfgfdepdaaGreatDoor
open Go Go.Vc Go.RowKit Go.Proofs Go.Proofs.Tryz
set_option maxRecDepth 100000
abbrev hl:Type:=(Rd (Λ)×Rd (Λ)×Λ)×Bool
abbrev jq:Type:=Int×Rd (Λ)×Rd (Λ)
def fW (f:b3):hl:=((f.sc,f.ac,f.cs),decide (f.live≠0))
def l1 (e:pf):jq:=(e.v,e.sc,e.hd)
def bz (m:Bool) (A:Nat->af) (R:af) (w:x3) (cs:List x1) (k:Int) (sizes:Λ) (zero:Int) (D:List (Λ)) (G:List Bool) (aR:List (Λ)) (H:List hl) (E:List jq):Prop:=
 ∃szv a e f h p,cs=[Δ k,szv,Δ zero,a,e,f,h,p]/\Seen R w [szv] sizes/\
 aj.rep m (A 0) R w [a] D/\aj.rep m (A 1) R w [e] G/\aj.rep m (A 2) R w [f] aR/\aj.rep m (A 3) R w [h] H/\aj.rep m (A 4) R w [p] E/\
 (m=true->(∀i j r,i≠j->A i r->¬A j r)/\ ∀i r,A i r->¬R r)
abbrev hn (m:Bool) (A:Nat->af) (R:af) (w:x3) (cs:List x1) (k:Int) (sizes:Λ) (s:aq):Prop:=
 bz m A R w cs k sizes s.zero (s.vars.map ax) (s.vars.map λx=>decide (x.gone≠0)) (s.vars.map (·.un)) (s.funs.map fW) (s.ce.map l1)
def ho (w:x3) (v:x1) (k:Int) (sizes:Λ) (s:aq):Prop:=∃cs,v= .agg cs.toArray/\hn false (λ_ _=>False) ek w cs k sizes s
def fa (A:Nat->af) (i:Nat) (B:af):Nat->af:=λj=>if j=i then B else A j
section
variable {m:Bool} {A:Nat->af} {R:af} {w w':x3} {cs:List x1} {k zero:Int} {sizes:Λ} {D:List (Λ)} {G:List Bool} {aR:List (Λ)} {H:List hl} {E:List jq} {s:aq}
theorem bz.len (h:bz m A R w cs k sizes zero D G aR H E):cs.length=8/\ ∀u∈cs,u.oneCell'=true:=by
 obtain⟨szv,q,r,s,x,y,rfl,h1,a,e,f,j,p,_⟩:=h;refine⟨rfl,λu hu=>?_⟩;simp only[V1,List.not_mem_nil,or_false] at hu;rcases hu with rfl|rfl|rfl|rfl|rfl|rfl|rfl|rfl
 .rfl
 .exact e4 h1
 .rfl
 .exact e4 a
 .exact e4 e
 .exact e4 f
 .exact e4 j
 .exact e4 p
theorem bz.U {T:af} (h:bz m A R w cs k sizes zero D G aR H E) (a:ae T w w') (f:∀r,r<w.heap.size->(∃i,A i r)\/R r->¬T r):bz m A R w' cs k sizes zero D G aR H E:=by
 obtain⟨szv,j,p,q,s,x,rfl,h1,y,z,B,C,F,I⟩:=h;have ay:∀i r,r<w.heap.size->A i r\/R r->¬T r:=λi r e h=>f r e (h.imp (λh=>⟨i,h⟩) id);exact⟨szv,j,p,q,s,x,rfl,aj.U h1 a λr e h=>f r e (h.elim False.elim .inr),aj.U y a (ay 0),aj.U z a (ay 1),aj.U B a (ay 2),aj.U C a (ay 3),aj.U F a (ay 4),I⟩
theorem bz.ext (h:bz m A R w cs k sizes zero D G aR H E) (a:Ext w w'):bz m A R w' cs k sizes zero D G aR H E:=h.U (a.U λ_=>False) λ_ _ _ h=>h
theorem hn.Dy (h:hn m A R w cs k sizes s):ho w (.agg cs.toArray) k sizes s:=by
 obtain⟨szv,a,e,f,j,p,rfl,h1,q,r,x,y,z,B⟩:=h;exact⟨_,rfl,szv,a,e,f,j,p,rfl,gK h1,gK q,gK r,gK x,gK y,gK z,λh=>by cases h⟩
theorem bz.old (h:bz true A R w cs k sizes zero D G aR H E):bz true (λi r=>A i r/\r<w.heap.size) R w cs k sizes zero D G aR H E:=by
 obtain⟨szv,f,p,q,s,x,rfl,h1,a,y,z,B,C,e⟩:=h;obtain⟨e,F⟩:=e rfl;have hm:∀i r,r<w.heap.size->A i r->A i r/\r<w.heap.size:=λi r I h=>⟨h,I⟩;exact⟨szv,f,p,q,s,x,rfl,h1,aj.mono a (hm 0) λ_ _ h=>h,aj.mono y (hm 1) λ_ _ h=>h,aj.mono z (hm 2) λ_ _ h=>h,aj.mono B (hm 3) λ_ _ h=>h,aj.mono C (hm 4) λ_ _ h=>h,
  λ_=>⟨λi j r J h1 a=>e i j r J h1.1 a.1,λi r h=>F i r h.1⟩⟩
theorem qS {i:Nat} {B:af} (h:∀i j r,i≠j->A i r->¬A j r) (e:∀j r,j≠i->B r->¬A j r):∀p q r,p≠q->fa A i B p r->¬fa A i B q r:=λp q r f h1 a=>by
 unfold fa at h1 a;split at h1<;>split at a
 .omega
 .exact e q r (by assumption) h1 a
 .exact e p r (by assumption) a h1
 .exact h p q r f h1 a
theorem qT {i:Nat} {B:af} (h:∀i r,A i r->¬R r) (a:∀r,B r->¬R r):∀p r,fa A i B p r->¬R r:=λp r h1=>by
 unfold fa at h1;split at h1
 .exact a r h1
 .exact h p r h1
theorem bz.wQ {B:af} {x:x1} {D':List (Λ)} (h:bz true A R w cs k sizes zero D G aR H E) {T:af} (e:ae T w w') (p:∀r,T r->A 0 r\/(∀j,¬A j r)/\¬R r) (y:bj B R w' [x] D') (z:∀j r,j≠0->B r->¬A j r) (C:∀r,B r->¬R r):bz true (fa A 0 B) R w' (cs.set 3 x) k sizes zero D' G aR H E:=by
 obtain⟨szv,Q,F,I,J,K,rfl,h1,a,L,M,N,O,f⟩:=h;obtain⟨f,q⟩:=f rfl;have s:∀r,R r->¬T r:=λr h a=>(p r a).elim (λa=>q 0 r a h) λa=>a.2 h;have ay:∀j r,j≠0->r<w.heap.size->A j r\/R r->¬T r:=λj r P _ h a=>h.elim (λh=>(p r a).elim (λa=>f j 0 r P h a) λa=>a.1 j h) λh=>s r h a;refine⟨szv,x,F,I,J,K,rfl,aj.U h1 e λr _ h=>h.elim False.elim (s r),?_,?_,?_,?_,?_,λ_=>⟨qS f z,qT q C⟩⟩
 .exact y
 .exact aj.U L e λr=>ay 1 r Ω
 .exact aj.U M e λr=>ay 2 r Ω
 .exact aj.U N e λr=>ay 3 r Ω
 .exact aj.U O e λr=>ay 4 r Ω
theorem bz.N7 {B:af} {x:x1} {p:List Bool} (h:bz true A R w cs k sizes zero D G aR H E) {T:af} (e:ae T w w') (q:∀r,T r->A 1 r\/(∀j,¬A j r)/\¬R r) (z:bj B R w' [x] p) (C:∀j r,j≠1->B r->¬A j r) (F:∀r,B r->¬R r):bz true (fa A 1 B) R w' (cs.set 4 x) k sizes zero D p aR H E:=by
 obtain⟨szv,I,Q,J,K,L,rfl,h1,a,S,M,N,O,f⟩:=h;obtain⟨f,s⟩:=f rfl;have y:∀r,R r->¬T r:=λr h a=>(q r a).elim (λa=>s 1 r a h) λa=>a.2 h;have ay:∀j r,j≠1->r<w.heap.size->A j r\/R r->¬T r:=λj r P _ h a=>h.elim (λh=>(q r a).elim (λa=>f j 1 r P h a) λa=>a.1 j h) λh=>y r h a;refine⟨szv,I,x,J,K,L,rfl,aj.U h1 e λr _ h=>h.elim False.elim (y r),?_,?_,?_,?_,?_,λ_=>⟨qS f C,qT s F⟩⟩
 .exact aj.U a e λr=>ay 0 r Ω
 .exact z
 .exact aj.U M e λr=>ay 2 r Ω
 .exact aj.U N e λr=>ay 3 r Ω
 .exact aj.U O e λr=>ay 4 r Ω
theorem bz.jW {B:af} {x:x1} {p:List (Λ)} (h:bz true A R w cs k sizes zero D G aR H E) {T:af} (e:ae T w w') (q:∀r,T r->A 2 r\/(∀j,¬A j r)/\¬R r) (z:bj B R w' [x] p) (C:∀j r,j≠2->B r->¬A j r) (F:∀r,B r->¬R r):bz true (fa A 2 B) R w' (cs.set 5 x) k sizes zero D G p H E:=by
 obtain⟨szv,I,J,Q,K,L,rfl,h1,a,M,S,N,O,f⟩:=h;obtain⟨f,s⟩:=f rfl;have y:∀r,R r->¬T r:=λr h a=>(q r a).elim (λa=>s 2 r a h) λa=>a.2 h;have ay:∀j r,j≠2->r<w.heap.size->A j r\/R r->¬T r:=λj r P _ h a=>h.elim (λh=>(q r a).elim (λa=>f j 2 r P h a) λa=>a.1 j h) λh=>y r h a;refine⟨szv,I,J,x,K,L,rfl,aj.U h1 e λr _ h=>h.elim False.elim (y r),?_,?_,?_,?_,?_,λ_=>⟨qS f C,qT s F⟩⟩
 .exact aj.U a e λr=>ay 0 r Ω
 .exact aj.U M e λr=>ay 1 r Ω
 .exact z
 .exact aj.U N e λr=>ay 3 r Ω
 .exact aj.U O e λr=>ay 4 r Ω
theorem bz.jX {B:af} {x:x1} {p:List hl} (h:bz true A R w cs k sizes zero D G aR H E) {T:af} (e:ae T w w') (q:∀r,T r->A 3 r\/(∀j,¬A j r)/\¬R r) (z:bj B R w' [x] p) (C:∀j r,j≠3->B r->¬A j r) (F:∀r,B r->¬R r):bz true (fa A 3 B) R w' (cs.set 6 x) k sizes zero D G aR p E:=by
 obtain⟨szv,I,J,K,Q,L,rfl,h1,a,M,N,S,O,f⟩:=h;obtain⟨f,s⟩:=f rfl;have y:∀r,R r->¬T r:=λr h a=>(q r a).elim (λa=>s 3 r a h) λa=>a.2 h;have ay:∀j r,j≠3->r<w.heap.size->A j r\/R r->¬T r:=λj r P _ h a=>h.elim (λh=>(q r a).elim (λa=>f j 3 r P h a) λa=>a.1 j h) λh=>y r h a;refine⟨szv,I,J,K,x,L,rfl,aj.U h1 e λr _ h=>h.elim False.elim (y r),?_,?_,?_,?_,?_,λ_=>⟨qS f C,qT s F⟩⟩
 .exact aj.U a e λr=>ay 0 r Ω
 .exact aj.U M e λr=>ay 1 r Ω
 .exact aj.U N e λr=>ay 2 r Ω
 .exact z
 .exact aj.U O e λr=>ay 4 r Ω
theorem bz.N8 {B:af} {x:x1} {p:List jq} (h:bz true A R w cs k sizes zero D G aR H E) {T:af} (e:ae T w w') (q:∀r,T r->A 4 r\/(∀j,¬A j r)/\¬R r) (z:bj B R w' [x] p) (C:∀j r,j≠4->B r->¬A j r) (F:∀r,B r->¬R r):bz true (fa A 4 B) R w' (cs.set 7 x) k sizes zero D G aR H p:=by
 obtain⟨szv,I,J,K,L,Q,rfl,h1,a,M,N,O,S,f⟩:=h;obtain⟨f,s⟩:=f rfl;have y:∀r,R r->¬T r:=λr h a=>(q r a).elim (λa=>s 4 r a h) λa=>a.2 h;have ay:∀j r,j≠4->r<w.heap.size->A j r\/R r->¬T r:=λj r P _ h a=>h.elim (λh=>(q r a).elim (λa=>f j 4 r P h a) λa=>a.1 j h) λh=>y r h a;refine⟨szv,I,J,K,L,x,rfl,aj.U h1 e λr _ h=>h.elim False.elim (y r),?_,?_,?_,?_,?_,λ_=>⟨qS f C,qT s F⟩⟩
 .exact aj.U a e λr=>ay 0 r Ω
 .exact aj.U M e λr=>ay 1 r Ω
 .exact aj.U N e λr=>ay 2 r Ω
 .exact aj.U O e λr=>ay 3 r Ω
 .exact z
theorem bz.N9 {z:Int} (h:bz m A R w cs k sizes zero D G aR H E):bz m A R w (cs.set 2 (Δ z)) k sizes z D G aR H E:=by
 obtain⟨szv,a,e,f,j,p,rfl,h1,q,r,s,x,y,B⟩:=h;exact⟨szv,a,e,f,j,p,rfl,h1,q,r,s,x,y,B⟩
end
theorem n5 {α:Type} [aj α] {st t J:r9} {pl:List (Nat×Nat)} {gs c q b L:Nat} {M y v:x1} {box:List x1} {S A R:af} {l:List α} {a:α} {K:x3->Prop}
  (N:bK x7 st pl) (O:pl[c]? =σ (c,q+1)) (P:x7.underlying t=σ (.slice e)) (Q:aN x7 t 1 L M) (hi:aN x7 e (aj.n α) b z) (T:z.cells.size=aj.n α)
  (C:aa w gs st box) (W:box[c]? =σ v) (h:bj S R w [v] l) (I:b7 w (aj.n α) y 1 cs) (X:bj A R w cs a) (Y:∀r,r<w.heap.size->S r->¬A r/\¬R r) (p:¬S gs/\¬A gs/\¬R gs) (ag:(l.length+1)*b<=140737488355328) (ah:l.length+1<=1000000)
  (Z:∀j w',ae (λr=>S r\/r=gs) w w'->aa w' gs st (box.set c j)->bj (λr=>S r\/A r\/w.heap.size<=r) R w' [j] (l++[a])->K w'):
  av x7 (b9 #[t,t] J #[v,y]) w λj w2=>V x7 (u6 st (Γ gs) c) w2 λab=>av x7 (o5 t ab j) w2 λ_ s=>K s:=by
 have ac:=(x4.1 W).1;refine nz (A:=A) P hi T h I X (λr E I f=>?_) Ω Ω λj w2 x F=>?_
 .have:=Y r E I;exact f.elim this.1 this.2
 have ad:aa w2 gs st box:=C.U F p.1;rw[aP N O];refine bo (o:=0+c) Q (kW x) (e4 x) ad (by rw[W0];exact ac) λs G ai H=>?_;refine Z j s ((F.mono λr _ h=>.inl h).trans (G.mono λr _ h=>.inr h)) (by rw[W0] at H;exact H) (aj.U x G λr E f B=>?_);have B:r=gs:=B;subst B;have ak:=C.lt;rcases f with f|f
 .rcases f with f|f|f
  .exact p.1 f
  .exact p.2.1 f
  .omega
 .exact p.2.2 f
section
variable {A:Nat->af} {B R:af} {w:x3} {cs xs:List x1} {gs:Nat} {y v:x1} {k zero:Int} {sizes:Λ} {D:List (Λ)} {G:List Bool} {aR:List (Λ)} {H:List hl} {E:List jq} {K:x3->Prop}
theorem bz.Oa {a:Λ} {S:r9} (h:bz true A R w cs k sizes zero D G aR H E) (J:aa w gs aG cs) (x:cs[3]? =σ v) (f:∀j r,A j r->gs<r) (s:∀r,R r->r<gs) (I:b7 w 1 y 1 xs) (U:bj B R w xs a) (q:∀r,r<w.heap.size->B r->(∀j,¬A j r)/\gs<r) (ai:D.length<=1000)
  (W:∀aI bI w',ae (λr=>gs<=r) w w'->aa w' gs aG bI->bz true aI R w' bI k sizes zero (D++[a]) G aR H E->(∀j r,aI j r->gs<r)->(∀j,j≠3->bI[j]? =cs[j]?)->K w'):
  av x7 (b9 #[cu,cu] S #[v,y]) w λL w2=>V x7 (u6 aG (Γ gs) 3) w2 λX=>av x7 (o5 cu X L) w2 λ_ z=>K z:=by
 have M:=h.old;have Y:=J.lt;obtain⟨szv,Z,ak,am,an,N,ab,h1,ac,ao,ap,aq,au,C⟩:=id M;obtain⟨C,O⟩:=C rfl;have N:v=Z:=by rw[ab] at x;exact (c7 x).symm
 subst N;have ad:bj (λr=>B r/\r<w.heap.size) R w xs a:=aj.mono U (λr e h=>⟨h,e⟩) λ_ _ h=>h;refine n5 (pl:=_) (l:=D) aG.p rfl cu.u cu.i al.i rfl J x ac I ad (λr e P=>⟨λaf=>(q r e af.1).1 0 P.1,O 0 r P⟩) ⟨λh=>by have:=f 0 gs h.1;omega,λh=>by have:=(q gs Y h.1).2;omega,λh=>by have:=s gs h;omega⟩ Ω Ω λL z Q ag ah=>?_;refine W _ _ z (Q.mono λr _ h=>h.elim (λh=>by have:=f 0 r h.1;omega) λh=>Ω) ag (M.wQ Q (λr e=>?_) ah (λj r F e=>?_) λr e=>?_) (λj r e=>?_) λj F=>?_
 .rcases e with e|rfl
  .exact .inl e
  .exact .inr ⟨λj h=>by have:=f j r h.1;omega,λh=>by have:=s r h;omega⟩
 .rcases e with e|e|e
  .exact C 0 j r (S8 F) e
  .exact λh=>(q r e.2 e.1).1 j h.1
  .exact λh=>by have:=h.2;omega
 .rcases e with e|e|e
  .exact O 0 r e
  .exact λh=>by have:=(q r e.2 e.1).2;have:=s r h;omega
  .exact λh=>by have:=s r h;omega
 .unfold fa at e;split at e
  .rcases e with e|e|e
   .exact f 0 r e.1
   .exact (q r e.2 e.1).2
   .omega
  .exact f j r e.1
 .rw[Y0 (S8 F)]
theorem bz.Ob {a:Bool} {S:r9} (h:bz true A R w cs k sizes zero D G aR H E) (J:aa w gs aG cs) (x:cs[4]? =σ v) (f:∀j r,A j r->gs<r) (s:∀r,R r->r<gs) (I:b7 w 1 y 1 xs) (U:bj B R w xs a) (q:∀r,r<w.heap.size->B r->(∀j,¬A j r)/\gs<r) (ai:G.length<=1000)
  (W:∀aI bI w',ae (λr=>gs<=r) w w'->aa w' gs aG bI->bz true aI R w' bI k sizes zero D (G++[a]) aR H E->(∀j r,aI j r->gs<r)->(∀j,j≠4->bI[j]? =cs[j]?)->K w'):
  av x7 (b9 #[hs,hs] S #[v,y]) w λL w2=>V x7 (u6 aG (Γ gs) 4) w2 λX=>av x7 (o5 hs X L) w2 λ_ z=>K z:=by
 have M:=h.old;have Y:=J.lt;obtain⟨szv,ak,Z,al,am,N,ab,h1,an,ac,ao,ap,aq,C⟩:=id M;obtain⟨C,O⟩:=C rfl;have N:v=Z:=by rw[ab] at x;exact (c7 x).symm
 subst N;have ad:bj (λr=>B r/\r<w.heap.size) R w xs a:=aj.mono U (λr e h=>⟨h,e⟩) λ_ _ h=>h;refine n5 (pl:=_) (l:=G) aG.p rfl hs.u hs.i ey.i rfl J x ac I ad (λr e P=>⟨λaf=>(q r e af.1).1 1 P.1,O 1 r P⟩) ⟨λh=>by have:=f 1 gs h.1;omega,λh=>by have:=(q gs Y h.1).2;omega,λh=>by have:=s gs h;omega⟩ Ω Ω λL z Q ag ah=>?_;refine W _ _ z (Q.mono λr _ h=>h.elim (λh=>by have:=f 1 r h.1;omega) λh=>Ω) ag (M.N7 Q (λr e=>?_) ah (λj r F e=>?_) λr e=>?_) (λj r e=>?_) λj F=>?_
 .rcases e with e|rfl
  .exact .inl e
  .exact .inr ⟨λj h=>by have:=f j r h.1;omega,λh=>by have:=s r h;omega⟩
 .rcases e with e|e|e
  .exact C 1 j r (S8 F) e
  .exact λh=>(q r e.2 e.1).1 j h.1
  .exact λh=>by have:=h.2;omega
 .rcases e with e|e|e
  .exact O 1 r e
  .exact λh=>by have:=(q r e.2 e.1).2;have:=s r h;omega
  .exact λh=>by have:=s r h;omega
 .unfold fa at e;split at e
  .rcases e with e|e|e
   .exact f 1 r e.1
   .exact (q r e.2 e.1).2
   .omega
  .exact f j r e.1
 .rw[Y0 (S8 F)]
theorem bz.Oc {a:Λ} {S:r9} (h:bz true A R w cs k sizes zero D G aR H E) (J:aa w gs aG cs) (x:cs[5]? =σ v) (f:∀j r,A j r->gs<r) (s:∀r,R r->r<gs) (I:b7 w 1 y 1 xs) (U:bj B R w xs a) (q:∀r,r<w.heap.size->B r->(∀j,¬A j r)/\gs<r) (ai:aR.length<=1000)
  (W:∀aI bI w',ae (λr=>gs<=r) w w'->aa w' gs aG bI->bz true aI R w' bI k sizes zero D G (aR++[a]) H E->(∀j r,aI j r->gs<r)->(∀j,j≠5->bI[j]? =cs[j]?)->K w'):
  av x7 (b9 #[dn,dn] S #[v,y]) w λL w2=>V x7 (u6 aG (Γ gs) 5) w2 λX=>av x7 (o5 dn X L) w2 λ_ z=>K z:=by
 have M:=h.old;have Y:=J.lt;obtain⟨szv,ak,al,Z,am,N,ab,h1,ao,ap,ac,aq,au,C⟩:=id M;obtain⟨C,O⟩:=C rfl;have N:v=Z:=by rw[ab] at x;exact (c7 x).symm
 subst N;have ad:bj (λr=>B r/\r<w.heap.size) R w xs a:=aj.mono U (λr e h=>⟨h,e⟩) λ_ _ h=>h;refine n5 (pl:=_) (l:=aR) aG.p rfl dn.u dn.i an.i rfl J x ac I ad (λr e P=>⟨λaf=>(q r e af.1).1 2 P.1,O 2 r P⟩) ⟨λh=>by have:=f 2 gs h.1;omega,λh=>by have:=(q gs Y h.1).2;omega,λh=>by have:=s gs h;omega⟩ Ω Ω λL z Q ag ah=>?_;refine W _ _ z (Q.mono λr _ h=>h.elim (λh=>by have:=f 2 r h.1;omega) λh=>Ω) ag (M.jW Q (λr e=>?_) ah (λj r F e=>?_) λr e=>?_) (λj r e=>?_) λj F=>?_
 .rcases e with e|rfl
  .exact .inl e
  .exact .inr ⟨λj h=>by have:=f j r h.1;omega,λh=>by have:=s r h;omega⟩
 .rcases e with e|e|e
  .exact C 2 j r (S8 F) e
  .exact λh=>(q r e.2 e.1).1 j h.1
  .exact λh=>by have:=h.2;omega
 .rcases e with e|e|e
  .exact O 2 r e
  .exact λh=>by have:=(q r e.2 e.1).2;have:=s r h;omega
  .exact λh=>by have:=s r h;omega
 .unfold fa at e;split at e
  .rcases e with e|e|e
   .exact f 2 r e.1
   .exact (q r e.2 e.1).2
   .omega
  .exact f j r e.1
 .rw[Y0 (S8 F)]
theorem bz.Od {a:hl} {S:r9} (h:bz true A R w cs k sizes zero D G aR H E) (J:aa w gs aG cs) (x:cs[6]? =σ v) (f:∀j r,A j r->gs<r) (s:∀r,R r->r<gs) (I:b7 w 4 y 1 xs) (U:bj B R w xs a) (q:∀r,r<w.heap.size->B r->(∀j,¬A j r)/\gs<r) (ai:H.length<=1000)
  (W:∀aI bI w',ae (λr=>gs<=r) w w'->aa w' gs aG bI->bz true aI R w' bI k sizes zero D G aR (H++[a]) E->(∀j r,aI j r->gs<r)->(∀j,j≠6->bI[j]? =cs[j]?)->K w'):
  av x7 (b9 #[dP,dP] S #[v,y]) w λL w2=>V x7 (u6 aG (Γ gs) 6) w2 λX=>av x7 (o5 dP X L) w2 λ_ z=>K z:=by
 have M:=h.old;have Y:=J.lt;obtain⟨szv,ak,al,am,Z,N,ab,h1,an,ao,ap,ac,aq,C⟩:=id M;obtain⟨C,O⟩:=C rfl;have N:v=Z:=by rw[ab] at x;exact (c7 x).symm
 subst N;have ad:bj (λr=>B r/\r<w.heap.size) R w xs a:=aj.mono U (λr e h=>⟨h,e⟩) λ_ _ h=>h;refine n5 (pl:=_) (l:=H) aG.p rfl dP.u dP.i cT.i rfl J x ac I ad (λr e P=>⟨λaf=>(q r e af.1).1 3 P.1,O 3 r P⟩) ⟨λh=>by have:=f 3 gs h.1;omega,λh=>by have:=(q gs Y h.1).2;omega,λh=>by have:=s gs h;omega⟩ Ω Ω λL z Q ag ah=>?_;refine W _ _ z (Q.mono λr _ h=>h.elim (λh=>by have:=f 3 r h.1;omega) λh=>Ω) ag (M.jX Q (λr e=>?_) ah (λj r F e=>?_) λr e=>?_) (λj r e=>?_) λj F=>?_
 .rcases e with e|rfl
  .exact .inl e
  .exact .inr ⟨λj h=>by have:=f j r h.1;omega,λh=>by have:=s r h;omega⟩
 .rcases e with e|e|e
  .exact C 3 j r (S8 F) e
  .exact λh=>(q r e.2 e.1).1 j h.1
  .exact λh=>by have:=h.2;omega
 .rcases e with e|e|e
  .exact O 3 r e
  .exact λh=>by have:=(q r e.2 e.1).2;have:=s r h;omega
  .exact λh=>by have:=s r h;omega
 .unfold fa at e;split at e
  .rcases e with e|e|e
   .exact f 3 r e.1
   .exact (q r e.2 e.1).2
   .omega
  .exact f j r e.1
 .rw[Y0 (S8 F)]
end
theorem Oe (u:Λ):ax (newVar u)=(V6 u.length).map λv:Nat=>(v:Int):=by
 unfold ax newVar dropped;rw[List.filter_eq_self.2];intro a _;simp
theorem n7 {R:af} {v:x1} {g:Nat} (h:ap .i64 e w g v l):bj (λr=>leads v r) R w [v] l:=by
 have h1:=nA (R:=R) h;by_cases f:v= .slice ν 0 0
 .subst f;have:l=[]:=by
   obtain⟨j,⟨_,a⟩|⟨_,_,a,_⟩⟩:=h
   .exact Z0 a
   .cases a
  subst this;exact gk
 .obtain⟨j,⟨a,_⟩|⟨cap,cs,a,_⟩⟩:=id h
  .exact absurd a f
  .refine aj.mono h1 (λr _ p=>?_) λ_ _ h=>h;rw[a];exact⟨_,_,_,rfl,p.symm⟩
theorem wR {R:af} {v:x1} {g:Nat} (e:∀r c,B<=r->aa w r ag c->R r) (h:ap .i64 ag w g v l) (f:∀r,leads v r->B<=r):Seen R w [v] l:=nv (n7 (R:=λ_=>False) h) λr p a=>by
 rcases a with a|a
 .obtain⟨c,j⟩:=qR h r a;exact e r c (f r a) j
 .exact a.elim
theorem Of {R:af} {zero:Int} (h:Seen R w [szv] sizes):bz true (λ_ _=>False) R w [Δ k,szv,Δ zero,.slice ν 0 0,.slice ν 0 0,.slice ν 0 0,.slice ν 0 0,.slice ν 0 0] k sizes zero [] [] [] [] []:=
 ⟨_,_,_,_,_,_,rfl,h,gk,gk,gk,gk,gk,λ_=>⟨λ_ _ _ _ h=>h.elim,λ_ _ h=>h.elim⟩⟩
theorem bz.at {A:Nat->af} {R:af} {zero:Int} {D:List (Λ)} {G:List Bool} {aR:List (Λ)} {H:List hl} {E:List jq} (h:bz m A R w cs k sizes zero D G aR H E) (c:Nat) (a:c<8):∃v,cs[c]? =σ v:=⟨_,x6 (by rw[h.len.1];exact a)⟩
def Og (R:af) (w:x3) (e gt gs:Nat) (n:aS) (f:List x1) (i j:Nat) (a:x3):Prop:=Ext w a/\aa a e dE f/\aa a gt aG z12/\ ∃A cs,aa a gs aG cs/\(∀q r,A q r->gs<r)/\
 bz true A R a cs n.k n.sizes n.zero ((n.unary.take i).map λu=>ax (newVar u)) (p9 i false) (n.unary.take i) ((n.funs.take j).map λg=>fW (kx n.sizes g)) []
theorem Dz {bG:x1} {n:aS} {R:af} (ay:∀r,R r->r<w.heap.size) (a2:∀r c,B<=r->aa w r ag c->R r) (cA:wM w B bG n) (ac:jR n) (ee:n.funs.length<=256):ai x7 Ge [bG] w λv w'=>Ext w w'/\ ∃A cs,v= .agg cs.toArray/\hn true A R w' cs n.k n.sizes (dj n)/\ ∀q r,A q r->w.heap.size<=r:=by
 have ef:=ac.sizes.2.1;have cB:=ac.kw;refine aw func38 ?_;refine bn λg1 J eg a6 cC=>?_;obtain⟨szv,gz,cD,eh,bI,cE,ei,a7,aA,aC,cF,bJ,a8,cG,bK,cH,bL⟩:=N5 cA cC;refine bt aG.i λgt w2 ek aF aH=>?_;have aH:aa w2 gt aG z12:=aH;have ba:=aA.ext aF;rw[az dE.p 0 ba rfl,az dE.p 1 ba rfl,az dE.p 2 ba rfl,
  dq (cs:=#[Δ n.k,szv,Δ n.zero,.slice ν 0 0,.slice ν 0 0,.slice ν 0 0,.slice ν 0 0,.slice ν 0 0]) (by obtain⟨_,_,_,e⟩:=du aC.ls;rw[e];kernel_rfl)]
 refine bt aG.i λgs em en aI cI=>?_;have cJ:Seen R w [szv] n.sizes:=wR a2 aC cH;have eo:=a6.size;have ep:=aF.size;have z3:=aI.size;have cK:=(a6.trans aF).trans aI;have bM:=Of (k:=n.k) (zero:=n.zero) (bd cJ cK);refine bT (vs:=[Δ n.k,szv,Δ n.zero,.slice ν 0 0,.slice ν 0 0,.slice ν 0 0,.slice ν 0 0,.slice ν 0 0]) aG.i rfl rfl bM.len.2 cI λcL bb er cM=>?_;have es:=aH.lt;have et:=aA.lt;have cN:gt≠gs:=Ω
 have bc:Ext J cL:=(aF.trans aI).put bb Ω;have bN:=a6.trans bc;have cO:=(aH.ext aI).U bb λhe=>cN he;have eu:w.heap.size<gs:=Ω
 rw[az dE.p 1 (aA.ext bc) rfl,aX al.u (aC.ext bN).ls];have cP:=bM.U bb λr f h he=>by
  have he:r=gs:=he;rcases h with⟨_,h⟩|h
  .exact h
  .have:=ay r h;omega
 refine ci.range n.sizes.length (λi O=>Og R w g1 gt gs n [Δ n.k,szv,Δ n.zero,cD,cE] i 0 O) Ω ⟨bN,aA.ext bc,cO,_,_,cM,(λ_ _ h=>h.elim),cP⟩ ?_ ?_
 .rintro i O cQ hi ⟨P,bf,bg,A,cs,ad,bh,aJ⟩ cS;obtain⟨z,bi⟩:=aE (l:=n.sizes) hi;obtain⟨u,hu⟩:=aE (l:=n.unary) (i:=i) Ω;have ev:=ac.sizes.2.2 z (x5 bi);obtain⟨ew,_⟩:=ac.unary i z u bi hu;refine bH Ω ?_;rw[be al.u ag.i Ψ (aC.ext P).ls bi];obtain⟨bO,rfl⟩:∃m:Nat,z=m:=⟨z.toNat,Ω⟩;refine bY.range bO (λj ah aK=>Ext O aK/\ ∃g,ap .i64 ag aK g ah ((V6 j).map λv:Nat=>(v:Int))/\ ∀r,leads ah r->O.heap.size<=r) Ω
   ⟨Ext.refl _,0,ap.nil _ _ _ _,λr f=>by obtain⟨a,n,c,I,Q⟩:=f;cases I⟩ ?_ ?_
  .rintro j ah aK bk bl ⟨K,cU,S,aL⟩ bm;refine bH Ω ?_;refine ej (k:=.i64) al.u ag.i rfl λez eB cV eC H cW=>?_;refine gP al.u ag.i rfl (S.ext H) cW.ls Θ Θ λeD cX cY cZ c0 V=>?_;rw[aM];have c3:=K.size;have c4:=H.size;refine bm _ _ ⟨(K.trans H).then V λr f he=>by have:=aL r he;omega,cX,?_,λr f=>(c0 r f).elim (aL r) λh=>Ω⟩;rw[List.range_succ,j6];exact cZ
  rintro ah aK bk ⟨K,cU,S,aL⟩;refine ca Ω ?_;have c5:(V6 bO).map (λv:Nat=>(v:Int))=ax (newVar u):=by rw[Oe];congr 2;omega
  rw[c5] at S;have c3:=K.size;have eE:=P.size;have eF:=ad.lt;have aj:∀r,R r->r<gs:=λr f=>by have:=ay r f;omega
  have low:∀ {s C:x3} {b:Nat} {e:r9} {c:List x1},ae (λr=>gs<=r) s C->b<gs->aa s b e c->aa C b e c:=λL c6 h=>h.U L λW=>by have W:gs<=_:=W;omega
  have am:∀ {s C:x3},Ext w s->ae (λr=>gs<=r) s C->Ext w C:=λbo L=>bo.then L λr f h=>by have h:gs<=r:=h;omega
  have bP:=aJ.old.ext K;have c8:∀q r,(A q r/\r<O.heap.size)->gs<r:=λq r h=>bh q r h.1;obtain⟨eH,bQ⟩:=bP.at 3 Ω;rw[az aG.p 3 (ad.ext K) bQ];refine iH cu.u al.i Φ (a:=ax (newVar u)) (cs:=[ah]) S.ls.cells.1 (n7 (R:=R) S) λeI cV H _ c9=>?_;have c4:=H.size;have aN:=K.trans H;refine bz.Oa (bP.ext H) (ad.ext aN) bQ c8 aj c9 (bd (n7 (R:=R) S) H) (λr f h=>?_) Θ λeJ eK cY V bR bS da _=>?_
  .have:=aL r h;exact⟨λj h=>Ω,Ω⟩
  have eL:=V.size;obtain⟨eM,bV⟩:=bS.at 4 Ω;rw[az aG.p 4 bR bV];refine iH (a:=false) (cs:=[.bool false]) (A:=λ_=>False) (R:=R) hs.u ey.i Φ rfl rfl λeN eO X _ dd=>?_;refine bz.Ob (a:=false) (xs:=[.bool false]) (B:=λ_=>False) (bS.ext X) (bR.ext X) bV da aj dd rfl (λr f h=>h.elim) Θ λde eP bW aO bX df dg _=>?_;have z9:=X.size;have eQ:=aO.size;have dh:Ext w bW:=am ((am (P.trans aN) V).trans X) aO;have di:=low aO Ω ((low V Ω (bf.ext aN)).ext X);have dk:=low aO Ω ((low V Ω (bg.ext aN)).ext X);intro bp Y _ _;have bZ:=bX.ext Y;have b0:=di.ext Y;have b1:=dh.trans Y;obtain⟨Z,aP⟩:∃Z,bI[i]? =σ Z:=⟨_,x6 (by have:=congrArg T7 bJ;rw[u7] at this;omega)⟩;have dl:Z.l=u:=by
   have b2:(bI.map (·.l))[i]? =σ Z.l:=by rw[x8,aP];rfl
   rw[bJ,hu] at b2;exact (c7 b2).symm
  have bq:=cF.ext b1;obtain⟨eR,b3⟩:=bq.2 Z (x5 aP);rw[dl] at b3;have b4:=df.old.ext Y;have dm:∀q r,(de q r/\r<bW.heap.size)->gs<r:=λq r h=>dg q r h.1;obtain⟨eS,b5⟩:=b4.at 5 Ω;rw[az aG.p 5 bZ b5,az dE.p 3 b0 rfl,db rfl dn.u an.i bq.1 (x4.1 aP).1,aB (v:=Z.v) (o:=i*1) Ψ (bq.1.range aP 0 _ rfl)];refine wP (k:=.i64) an.u ak.i λdp eU eV eW aQ b6=>?_;refine⟨.inl aQ,?_⟩;refine gP an.u ak.i rfl b6 (b3.ext aQ).ls Θ Θ λb7 eX dr aR ds dt=>?_;rw[List.nil_append] at aR;have eY:=Y.size;have eZ:=aQ.size;have b8:∀r,leads dp r->bp.heap.size<=r:=λr f=>by have:=(bU b6 f).1;omega
  have dv:∀r,leads b7 r->bp.heap.size<=r:=λr f=>(ds r f).elim (b8 r) λh=>Ω
  have br:Ext bp dr:=aQ.then dt λr f he=>by have:=b8 r he;omega
  refine⟨.inl br,?_⟩;have e0:=br.size;refine iH dn.u an.i Φ (a:=u) (cs:=[b7]) aR.ls.cells.1 (n7 (R:=R) aR) λe1 e2 bu _ dw=>?_;have e3:=bu.size;have ab:=br.trans bu;refine⟨.inl ab,?_⟩;refine bz.Oc (b4.ext ab) (bZ.ext ab) b5 dm aj dw (bd (n7 (R:=R) aR) bu) (λr f h=>?_) Θ λdx dy e4 bw dz dA dC _=>?_
  .have:=dv r h;have:=bX.lt;exact⟨λj h=>Ω,Ω⟩
  rw[aM];refine cS _ ⟨am (b1.trans ab) bw,low bw Ω (b0.ext ab),low bw Ω ((dk.ext Y).ext ab),dx,dy,dz,dC,?_⟩;rw[u9,hu,o8,j6,V7,List.map_nil,List.replicate_succ'];exact dA
 rintro O cQ ⟨P,bf,bg,A,cs,ad,bh,aJ⟩;refine ca Ω ?_;rw[o9 Ω] at aJ;have e5:a7.length=n.funs.length:=by rw[<-bK,u7]
 have dD:=a8.ext P;rw[az dE.p 4 bf rfl,eA cj.u dD];have aj:∀r,R r->r<gs:=λr f=>by have:=ay r f;omega
 have low:∀ {s C:x3} {b:Nat} {e:r9} {c:List x1},ae (λr=>gs<=r) s C->b<gs->aa s b e c->aa C b e c:=λL c6 h=>h.U L λW=>by have W:gs<=_:=W;omega
 have am:∀ {s C:x3},Ext w s->ae (λr=>gs<=r) s C->Ext w C:=λbo L=>bo.then L λr f h=>by have h:gs<=r:=h;omega
 refine ci.range a7.length (λj G=>Ext w G/\aa G gt aG z12/\ ∃A cs,aa G gs aG cs/\(∀q r,A q r->gs<r)/\
  bz true A R G cs n.k n.sizes n.zero (n.unary.map λu=>ax (newVar u)) (p9 n.sizes.length false) n.unary ((n.funs.take j).map λg=>fW (kx n.sizes g)) []) a8.le ⟨P,bg,A,cs,ad,bh,aJ⟩ ?_ ?_
 .rintro j G bk bl ⟨M,bA,bB,aT,aV,aW,ao⟩ bm;obtain⟨y,aq⟩:=aE (l:=a7) bl;have b9:n.funs[j]? =σ (dc y):=by rw[<-bK,x8,aq];rfl
  have cb:=(ac.funs (dc y) (x5 b9)).1;have e6:y.cs.length<=4096:=by
   have h1:y.cs.length=_:=cb.len;have W:=cb.small;omega
  have cc:=cG y (x5 aq);have cd:=cc.ext M;have ce:=a8.ext M;refine bH Ω ?_;rw[db rfl cj.u aU.i ce bl,bx aU.p aU.i rfl (ce.range aq)];refine bt aU.i λe7 e8 e9 dF dG=>?_;refine bT (vs:=cR y) aU.i rfl rfl cd.one dG λdH dI fa dJ=>?_;have dK:Ext G dH:=dF.put dI Ω;intro bC cg _ _;have N:=dK.trans cg;have ch:=aV.ext N;have bD:=dJ.ext cg;have dL:=cd.ext N;obtain⟨⟨fb,ck⟩,⟨fc,cl⟩,fd,dM⟩:=id dL;have cm:=ao.old.ext N;have dN:∀q r,(bB q r/\r<G.heap.size)->gs<r:=λq r h=>aW q r h.1;obtain⟨fe,cn⟩:=cm.at 6 Ω;rw[az aG.p 6 ch cn,az aU.p 0 bD rfl,az aU.p 1 bD rfl,az aU.p 2 bD rfl];refine wP (k:=.i64) an.u ak.i λv25 ff fg fh aY cp=>?_;refine⟨.inl aY,?_⟩;refine gP an.u ak.i rfl cp (dM.ext aY).ls Θ Θ λE fj cq aZ dO dQ=>?_;rw[List.nil_append] at aZ;have fm:=N.size;have z25:=aY.size;have cr:∀r,leads v25 r->bC.heap.size<=r:=λr f=>by have:=(bU cp f).1;omega
  have dR:∀r,leads E r->bC.heap.size<=r:=λr f=>(dO r f).elim (cr r) λh=>Ω
  have a1:Ext bC cq:=aY.then dQ λr f he=>by have:=cr r he;omega
  refine⟨.inl a1,?_⟩;rw[dq (cs:=#[y.aD,y.szv,E]) (by obtain⟨_,_,_,I⟩:=du ck.ls;obtain⟨_,_,_,Q⟩:=du cl.ls;obtain⟨_,_,_,au⟩:=du aZ.ls;rw[I,Q,au];kernel_rfl),
   dq (cs:=#[y.aD,y.szv,E,.bool true]) (by obtain⟨_,_,_,I⟩:=du ck.ls;obtain⟨_,_,_,Q⟩:=du cl.ls;obtain⟨_,_,_,au⟩:=du aZ.ls;rw[I,Q,au];kernel_rfl)]
  have fo:=a1.size;have ct:=(M.trans N).trans a1;obtain⟨⟨ga,dS⟩,⟨fk,dT⟩,_⟩:=id cc;have own:bj (α:=hl) (λr=>leads E r) R cq [y.aD,y.szv,E,.bool true] (fW (kx n.sizes (dc y))):=by
   refine⟨[y.aD,y.szv,E],[.bool true],λr=>leads E r,λ_=>False,rfl,λ_ h=>h,λ_ h=>h.elim,λ_ _ _ h=>h,⟨[y.aD],[y.szv,E],λ_=>False,λr=>leads E r,rfl,λ_ h=>h.elim,λ_ h=>h,λ_ _ h=>h.elim,?_,[y.szv],[E],λ_=>False,λr=>leads E r,rfl,λ_ h=>h.elim,λ_ h=>h,λ_ _ h=>h.elim,?_,?_⟩,rfl⟩
   .exact bd (wR a2 dS λr f=>bL y (x5 aq) r (.inr (.inl f))) ct
   .exact bd (wR a2 dT λr f=>bL y (x5 aq) r (.inr (.inr f))) ct
   .exact n7 aZ
  refine iH dP.u cT.i Φ rfl own λfp fq bE _ dU=>?_;have fs:=bE.size;have av:=a1.trans bE;refine⟨.inl av,?_⟩;refine bz.Od (cm.ext av) (ch.ext av) cn dN aj dU (bd own bE) (λr f h=>?_) Θ λdV dW ft cw dX dY dZ _=>?_
  .have:=dR r h;have:=aV.lt;exact⟨λj h=>Ω,Ω⟩
  rw[aM];refine bm _ ⟨am (M.trans (N.trans av)) cw,low cw Ω (bA.ext (N.trans av)),dV,dW,dX,dZ,?_⟩;rw[u9,b9,o8,j6,V7,List.map_nil];exact dY
 rintro G bk ⟨M,bA,bB,aT,aV,aW,ao⟩;rw[o9 Ω] at ao;refine ca Ω ?_;obtain⟨bF,ea⟩:=ao.len;rw[bx aG.p aG.i bF (show G.rangeAt gs 0 aT from aV.range)];refine bT (vs:=aT) aG.i bF rfl ea bA λfu cz fv eb=>?_;rw[fB aG.p aG.i bF eb.range];have ec:=ao.U cz λr f h he=>by
  have he:r=gt:=he;rcases h with⟨q,h⟩|h
  .have:=aW q r h;omega
  .have:=ay r h;omega
 have fw:=M.size;refine⟨M.then cz λr f he=>by have he:r=gt:=he;omega,bB,aT,rfl,?_,λq r h=>by have:=aW q r h;omega⟩;have I:(dj n).vars.map ax=n.unary.map λu=>ax (newVar u):=by show (n.unary.map newVar).map ax=_;rw[R6];rfl
 have Q:(dj n).vars.map (λx=>decide (x.gone≠0))=p9 n.sizes.length false:=by
  show (n.unary.map newVar).map _=_;rw[R6,<-cB];exact List.map_const' ..
 have au:(dj n).vars.map (·.un)=n.unary:=by show (n.unary.map newVar).map _=_;rw[R6];exact List.map_id _
 have ed:(dj n).funs.map fW=n.funs.map λg=>fW (kx n.sizes g):=by show (n.funs.map (kx n.sizes)).map fW=_;rw[R6];rfl
 unfold hn;rw[I,Q,au,ed];exact ec
section
variable {P:W9} {w:x3} {t:r9} {cx cy:Bool} {a b:Nat} {K:x1->Prop}
theorem Oh (f:a<2 ^ 62) (h:b<2 ^ 62):V P (aJ .or t cx cy (Δ a) (Δ b)) w K=K (Δ ((a ||| b:Nat):Int)):=V.of λw' _=>by
 have e:(T1 64 (a:Int) ||| T1 64 (b:Int)).toNat=a ||| b:=by
  rw[my,my,BitVec.toNat_or,BitVec.toNat_ofNat,BitVec.toNat_ofNat,Nat.mod_eq_of_lt Ω,Nat.mod_eq_of_lt Ω]
 have p:a ||| b<2 ^ 62:=Nat.or_lt_two_pow f h;have hw:X7.wrap ((a ||| b:Nat):Int)=((a ||| b:Nat):Int):=wrap_i64 Ω Ω;have j:(T1 X7.bits (a:Int) ||| T1 X7.bits (b:Int)).toNat=a ||| b:=e;simp only[aJ,eqGuard,binOp,Op.intBits,j,hw];rfl
theorem DA (j:a<2 ^ 62) (f:b<2 ^ 62):V P (aJ .and t cx cy (Δ a) (Δ b)) w K=K (Δ ((a &&& b:Nat):Int)):=V.of λw' _=>by
 have e:(T1 64 (a:Int) &&& T1 64 (b:Int)).toNat=a &&& b:=by
  rw[my,my,BitVec.toNat_and,BitVec.toNat_ofNat,BitVec.toNat_ofNat,Nat.mod_eq_of_lt Ω,Nat.mod_eq_of_lt Ω]
 have p:a &&& b<2 ^ 62:=Nat.and_lt_two_pow _ f;have hw:X7.wrap ((a &&& b:Nat):Int)=((a &&& b:Nat):Int):=wrap_i64 Ω Ω;have h:(T1 X7.bits (a:Int) &&& T1 X7.bits (b:Int)).toNat=a &&& b:=e;simp only[aJ,eqGuard,binOp,Op.intBits,h,hw];rfl
theorem Oi {k:o6} {n:Nat} (a:n<62):V P (aJ .shl t cx cy (Δ 1) (.int k (n:Int))) w K=K (Δ ((2 ^ n:Nat):Int)):=by
 rw[zq Ω];have e:min ((n:Int).toNat) X7.bits=n:=Nat.min_eq_left (by show n<=64;omega);have f:2 ^ n<2 ^ 62:=Nat.pow_lt_pow_right Ω a;rw[e,Int.one_mul,show ((2:Int) ^ n)=((2 ^ n:Nat):Int) by simp];generalize 2 ^ n=q at f ⊢;rw[wrap_i64 Ω Ω]
end
theorem DB (a n:Nat):(a / 2 ^ n &&& 1=1)↔a.testBit n=true:=by
 rw[Nat.and_one_is_mod,Nat.testBit_eq_decide_div_mod_eq,decide_eq_true_eq]
theorem DC {b n:Nat} (q:lS b n):ai x7 GA [jm b n,Δ v] w λr w'=>r= .bool (decide (0<=v/\v<n)&&b.testBit v.toNat)/\Ext w w':=by
 refine aw func65 ?_;refine bn λg J A e f=>?_;refine aT (λr w2=>r= .bool (decide (0<=v/\v<n)&&b.testBit v.toNat)/\Ext w w2) (λ_ _ h=>h) λau j=>?_;rw[bx cb.p cb.i rfl f.range];refine AE.mono ?_;rintro _ B _ ⟨rfl,a⟩;rw[ah];refine⟨λh=>?_,λh=>j _ _ ⟨by rw[decide_eq_false h];rfl,e.trans a⟩⟩;obtain⟨x,C⟩:=q;obtain⟨s,rfl⟩:∃s:Nat,v=s:=⟨v.toNat,Ω⟩;have y:=f.ext a;have E:(2:Nat) ^ n<=2 ^ 32:=S3 Ω x;have z:b / 2 ^ s<2 ^ 64:=Nat.lt_of_le_of_lt (Nat.div_le_self _ _) Ω;rw[az cb.p 0 y rfl,k2 Ω,show (1:Int)=((1:Nat):Int) from rfl,u64_and z Ω,bi];refine j _ _ ⟨?_,e.trans a⟩;congr 1;rw[decide_eq_true h,T3,U1,decide_eq_true_eq,r8,<-DB];omega
theorem Oj (m v:Nat):dropped (m:Int) (v:Int)=m.testBit v:=by unfold dropped;rw[r8,r8]
def bQ (w:x3) (ab ad:Nat) (A R:af) (n:aS) (s:aq) (t:aC):Prop:=StateM w ab ad A R n s t/\t.bD=s.cells/\mG t/\br n.k n.sizes s/\jR n
theorem bQ.ext {A R:af} {n:aS} {s:aq} {t:aC} (h:bQ w ab ad A R n s t) (a:Ext w w'):bQ w' ab ad A R n s t:=⟨h.1.ext a,h.2⟩
theorem StateM.parts {A R:af} {n:aS} {s:aq} {t:aC} (h:StateM w ab ad A R n s t):∃a e f j a7 p L q,aa w ab ct [Γ a,Γ ad,e,f,j]/\fU w a n/\dx w ad q t/\ap .i64 ag w a7 e (iu s)/\bg lY 3 dQ w p f L/\lj R w L s:=by
 obtain⟨a,e,f,j,_,a7,p,ge,L,E,q,w0,r,⟨x,y,G⟩,⟨z,H,I,J⟩,B,⟨C,F⟩,K,M⟩:=h;exact⟨a,e,f,j,a7,p,L,q,r,x.ext y,z,B,C,F⟩
theorem qU {s:aq} {i:Nat} (h:i<s.vars.length):(iu s)[i]? =σ (e8 s i:Int):=by
 unfold iu;rw[x8,List.getElem?_range h];rfl
theorem ts {s:aq} {t:aC} (a:t.bD=s.cells) (I:mG t):s.cells.length<=100000000:=by
 rw[<-a];unfold aC.bD;rw[u7];exact I.1
theorem tt {s:aq} {i:Nat} {x:bl} (h:s.vars[i]? =σ x):e8 s i+x.un.length+2<=s.cells.length:=by
 have h1:=pg h (j:=x.un.length+1) Ω;have a:(hF x)[x.un.length+1]? ≠ν:=by
  rw[Ne,S4];show ¬(x.un.length+1+1<=x.un.length+1);omega
 rw[<-h1] at a;have:=(x4.1 (Option.ne_none_iff_exists'.1 a).choose_spec).1;omega
theorem DD {s:aq} {f:b3} (h:s.funs[j]? =σ f):e9 s j+f.cs.length+1<=s.cells.length:=by
 have h1:=wp h (j:=f.cs.length) Ω;have a:(h2 f)[f.cs.length]? ≠ν:=by
  rw[Ne,S4];show ¬(f.cs.length+1<=f.cs.length);omega
 rw[<-h1] at a;have:=(x4.1 (Option.ne_none_iff_exists'.1 a).choose_spec).1;omega
section
variable {w:x3} {ab ad:Nat} {A R:af} {n:aS} {s:aq} {t:aC}
theorem DE (h:bQ w ab ad A R n s t):ai x7 Hh [Γ ab] w λv w'=>(∃a,v=Γ a/\fU w' a n)/\Ext w w':=by
 obtain⟨a,j,q,r,a7,x,L,y,e,f,z,B,C,E⟩:=h.1.parts;refine aw func128 ?_;rw[dp dO.u];simp only[Z7,aW];rw[aO ct.p 0 e rfl];exact⟨⟨a,rfl,f⟩,Ext.refl _⟩
theorem DF (h:bQ w ab ad A R n s t):ai x7 Gy [Γ ab] w λv w'=>v=Δ (n.sizes.length:Int)/\Ext w w':=by
 refine aw func63 ?_;refine (DE h).mono ?_;rintro _ J _ ⟨⟨j,rfl,a⟩,e⟩;refine (wr a).mono ?_;rintro _ w2 _ ⟨rfl,f⟩;exact⟨rfl,e.trans f⟩
theorem n8 (h:bQ w ab ad A R n s t):ai x7 Gt [Γ ab] w λv w'=>v=Δ n.k/\Ext w w':=by
 refine aw func57 ?_;refine (DE h).mono ?_;rintro _ J _ ⟨⟨j,rfl,a⟩,e⟩;refine (Ni a).mono ?_;rintro _ w2 _ ⟨rfl,f⟩;exact⟨rfl,e.trans f⟩
theorem wS {i:Int} (h:bQ w ab ad A R n s t):ai x7 G4 [Γ ab,Δ i] w λv w'=>v= .bool (decide (0<=i/\i<n.sizes.length))/\Ext w w':=by
 refine aw func112 ?_;refine aT (λv J=>v= .bool (decide (0<=i/\i<n.sizes.length))/\Ext w J) (λ_ _ h=>h) λau a=>?_;rw[cU,ah];refine⟨λe=>?_,λe=>a _ _ ⟨by rw[decide_eq_false Ω],Ext.refl _⟩⟩;refine (DF h).mono ?_;rintro _ J _ ⟨rfl,f⟩;rw[aQ];refine a _ _ ⟨?_,f⟩;congr 1;exact decide_eq_decide.2 ⟨λh=>⟨e,h⟩,λh=>h.2⟩
theorem qV (h:bQ w ab ad A R n s t):ai x7 Gg [Γ ab] w λv w'=>v=Δ s.zero/\Ext w w':=by
 obtain⟨j,q,r,x,a7,y,L,z,a,B,e,C,E,G⟩:=h.1.parts;refine aw func41 ?_;rw[dp dO.u];simp only[Z7,aW];rw[aO ct.p 1 a rfl];refine (mF (i:=0) e rfl (show t.bD[0]? =σ s.zero by rw[h.2.1];exact Nc s)).mono ?_;rintro _ J _ ⟨rfl,f⟩;exact⟨rfl,f⟩
theorem wT (h:bQ w ab ad A R n s t):ai x7 Hl [Γ ab] w λv w'=>v=Δ (s.funs.length:Int)/\Ext w w':=by
 obtain⟨j,q,r,x,a7,y,L,z,a,B,C,E,e,f⟩:=h.1.parts;refine aw func132 ?_;rw[dp dO.u];simp only[Z7,aW];rw[aO ct.p 3 a rfl,eA ff.u e];exact⟨by rw[f.1],Ext.refl _⟩
def lq (s:aq) (i:Nat):Bool:=match s.vars[i]? with
 |some x=>decide (x.gone≠0)
 |none=>false
theorem wU {i:Int} (h:bQ w ab ad A R n s t):ai x7 Gz [Γ ab,Δ i] w λv w'=>v= .bool (decide (0<=i)&&lq s i.toNat)/\Ext w w':=by
 refine aw func64 ?_;refine aT (λv J=>v= .bool (decide (0<=i)&&lq s i.toNat)/\Ext w J) (λ_ _ h=>h) λau e=>?_;intro w2 f _ _;refine (wS (h.ext f)).mono ?_;rintro _ I _ ⟨rfl,r⟩;have a:=f.trans r;have K:=h.2.2.2.1.vars;rw[ah];refine⟨λz=>?_,λM=>e _ _ ⟨?_,a⟩⟩
 .obtain⟨N,O,P,Q,a7,S,L,U,j,V,B,C,W,X⟩:=(h.ext a).1.parts;obtain⟨x,q⟩:=aE (l:=s.vars) (i:=i.toNat) Ω;rw[aO ct.p 1 j rfl,aO ct.p 2 j rfl,fA (y:=i) (i:=i.toNat) Ω al.u ag.i Ψ C.ls (qU Ω)];have E:t.bD[e8 s i.toNat+0]? =σ x.gone:=by rw[h.2.1,pg q Ω];rfl
  refine (mF (i:=e8 s i.toNat) B rfl E).mono ?_;rintro _ Y _ ⟨rfl,G⟩;rw[bE];refine e _ _ ⟨?_,a.trans G⟩;rw[decide_eq_true z.1,T3];unfold lq;rw[q]
 .by_cases H:0<=i
  .unfold lq;rw[Z4 Ω,Bool.and_false]
  .rw[decide_eq_false H];rfl
def fX (n:aS) (i v:Int):Prop:=0<=i/\i<n.sizes.length/\0<=v/\v<n.sizes.getD i.toNat 0
instance (n:aS) (i v:Int):Decidable (fX n i v):=inferInstanceAs (Decidable (_/\_))
theorem fX.var {i:Int} (h:fX n i v) (a:br n.k n.sizes s):∃x,s.vars[i.toNat]? =σ x/\v.toNat<x.un.length/\x.un.length<=32/\n.sizes.getD i.toNat 0=x.un.length:=by
 obtain⟨h1,p,q,j⟩:=h;have r:=a.vars;obtain⟨x,f⟩:=aE (l:=s.vars) (i:=i.toNat) Ω;obtain⟨z,e⟩:=aE (l:=n.sizes) (i:=i.toNat) Ω;have w:=a.e1.2.2 z (x5 e);have y:=(a.var i.toNat x z f e).1;rw[u4,e,V8] at j ⊢;exact⟨x,f,Ω,Ω,Ω⟩
theorem wV {i:Int} (h:bQ w ab ad A R n s t):ai x7 GK [Γ ab,Δ i,Δ v] w λr w'=>r=Δ (if fX n i v then ((e8 s i.toNat+2+v.toNat:Nat):Int) else-1)/\Ext w w':=by
 have Z:=h.2.2.2.1.vars;refine aw func76 ?_;refine aT (λr J=>r= .bool (decide (¬fX n i v))/\Ext w J) ?_ ?_
 .rintro _ J ⟨rfl,q⟩;rw[ah];refine⟨λG=>⟨by rw[if_neg G],q⟩,λf=>?_⟩;have f:=Y7.1 f;obtain⟨x,H,aa,ac,_⟩:=f.var h.2.2.2.1;obtain⟨I,K,M,N,a7,O,L,P,a,B,Q,C,S,U⟩:=(h.ext q).1.parts;have E:=tt H;have ae:=ts h.2.1 h.2.2.1;obtain⟨h1,af,aj,ak⟩:=id f;rw[aO ct.p 2 a rfl,fA (y:=i) (i:=i.toNat) Ω al.u ag.i Ψ C.ls (qU Ω),aM,wrap_i64 Ω Ω,aM,wrap_i64 Ω Ω,if_pos f];refine⟨?_,q⟩;congr 1;omega
 .intro au z;refine (wS h).mono ?_;rintro _ w2 _ ⟨rfl,j⟩;rw[bF,b0];refine⟨λa=>?_,λa=>?_⟩
  .have a:¬(0<=i/\i<n.sizes.length):=λV=>by rw[decide_eq_true V] at a;cases a
   exact z _ _ ⟨by rw[decide_eq_true];exact λe=>a ⟨e.1,e.2.1⟩,j⟩
  have a:0<=i/\i<n.sizes.length:=by simpa using a
  rw[aQ,ah];refine⟨λW=>z _ _ ⟨by rw[decide_eq_true];exact λe=>by have:=e.2.2.1;omega,j⟩,λW=>?_⟩;obtain⟨I,K,M,N,a7,O,L,P,X,B,Q,C,S,U⟩:=(h.ext j).1.parts;rw[aO ct.p 0 X rfl];refine (CU B h.2.2.2.2).mono ?_;rintro _ am _ ⟨Y,rfl⟩;rw[if_pos a.1,cU];refine z _ _ ⟨?_,j.trans Y⟩;congr 1;refine decide_eq_decide.2 ⟨λh e=>?_,λh=>?_⟩
  .have:=e.2.2.2;omega
  .refine Int.not_lt.1 λE=>h ⟨a.1,a.2,Ω,E⟩
def hp (s:aq) (i v:Nat):Int:=match s.vars[i]? with
 |some x=>x.un.getD v 0
 |none=>0
theorem mM {i:Int} (h:bQ w ab ad A R n s t):ai x7 F9 [Γ ab,Δ i,Δ v] w λr w'=>r=(if fX n i v then .tuple #[Δ (hp s i.toNat v.toNat),Δ 0] else .tuple #[Δ 0,Δ 1])/\Ext w w':=by
 refine aw func32 ?_;rw[dp dO.u];simp only[Z7,aW];refine (wV h).mono ?_;rintro _ J _ ⟨rfl,e⟩;by_cases a:fX n i v
 .rw[if_pos a,if_pos a];refine ca Ω ?_;obtain⟨x,f,j,C,_⟩:=a.var h.2.2.2.1;obtain⟨E,G,H,I,a7,K,L,M,q,N,y,O,P,Q⟩:=(h.ext e).1.parts;rw[aO ct.p 1 q rfl];have z:t.bD[e8 s i.toNat+2+v.toNat]? =σ (x.un.getD v.toNat 0):=by
   rw[h.2.1,R7,pg f Ω,show 2+v.toNat=v.toNat+1+1 by omega];show x.un[v.toNat]? =_;rw[u4,x6 j];rfl
  refine (mF (i:=e8 s i.toNat+2+v.toNat) y rfl z).mono ?_;rintro _ w2 _ ⟨rfl,B⟩;refine⟨?_,e.trans B⟩;unfold hp;rw[f]
 .rw[if_neg a,if_neg a,aQ,ah];exact⟨λ_=>⟨rfl,e⟩,λh=>Ω⟩
def gA (s:aq) (j:Nat):Bool:=match s.funs[j]? with
 |some f=>decide (f.live≠0)
 |none=>false
theorem wW {j:Int} (h:bQ w ab ad A R n s t):ai x7 GB [Γ ab,Δ j] w λv w'=>v= .bool (decide (0<=j)&&gA s j.toNat)/\Ext w w':=by
 refine aw func67 ?_;refine aT (λv J=>v= .bool (decide (0<=j)&&gA s j.toNat)/\Ext w J) (λ_ _ h=>h) λau a=>?_;intro w2 e _ _;rw[cU,ah];refine⟨λq=>?_,λq=>a _ _ ⟨by rw[decide_eq_false q];rfl,e⟩⟩;refine (wT (h.ext e)).mono ?_;rintro _ N _ ⟨rfl,G⟩;have r:=e.trans G;rw[aQ,ah];refine⟨λO=>?_,λP=>a _ _ ⟨?_,r⟩⟩
 .obtain⟨Q,S,U,V,a7,W,L,X,B,Y,H,Z,C,x⟩:=(h.ext r).1.parts;obtain⟨f,z⟩:=aE (l:=s.funs) (i:=j.toNat) Ω;obtain⟨y,E⟩:∃y,L[j.toNat]? =σ y:=⟨_,x6 (by rw[x.1];omega)⟩;obtain⟨_,_,I⟩:=x.2 j.toNat y f E z;rw[aO ct.p 1 B rfl,aO ct.p 3 B rfl,db (i:=j.toNat) Ω ff.u dQ.i C (by rw[x.1];omega),aP dQ.p rfl,aB (v:=Δ (y.at_:Int)) Ψ (C.range E 2 _ rfl)];have K:t.bD[e9 s j.toNat+0]? =σ f.live:=by rw[h.2.1,wp z Ω];rfl
  refine (mF (i:=e9 s j.toNat) H (by rw[I]) K).mono ?_;rintro _ aa _ ⟨rfl,M⟩;rw[bE];refine a _ _ ⟨?_,r.trans M⟩;rw[decide_eq_true q,T3];unfold gA;rw[z]
 .unfold gA;rw[Z4 Ω,Bool.and_false]
end
def tu (s:aq) (n:aS) (i:Int) (b m:Nat):Prop:=lS b m/\(¬(0<=i/\i<n.sizes.length)->b=0/\m=0)/\ ∀x,0<=i->s.vars[i.toNat]? =σ x->m=x.un.length/\ ∀j:Nat,b.testBit j=(decide (j<x.un.length)&& !dropped x.mask (j:Int))
section
variable {w:x3} {ab ad:Nat} {A R:af} {n:aS} {s:aq} {t:aC}
theorem kC {i:Int} (h:bQ w ab ad A R n s t):ai x7 Gi [Γ ab,Δ i] w λv w'=>(∃b m,v=jm b m/\tu s n i b m)/\Ext w w':=by
 have bm:=h.2.2.2.1.vars;refine aw func44 ?_;refine bt cb.i λf J bn am P=>?_;have P:aa J f cb [.int .u64 0,Δ 0]:=P;refine (wS (h.ext am)).mono ?_;rintro _ w2 _ ⟨rfl,an⟩;have Q:=P.ext an;have S:=am.trans an;rw[bF,b0];refine⟨λa=>?_,λa=>?_⟩
 .have a:¬(0<=i/\i<n.sizes.length):=λaL=>by rw[decide_eq_true aL] at a;cases a
  rw[dq (cs:=#[.int .u64 0,Δ 0]) Ψ];refine bT (vs:=[.int .u64 0,Δ 0]) cb.i rfl rfl (by intro u hu;simp at hu;rcases hu with rfl|rfl<;>rfl) Q λbo aN bp aP=>?_;rw[fB cb.p cb.i rfl aP.range];refine⟨⟨0,0,rfl,⟨Ω,Ξ⟩,λ_=>⟨rfl,rfl⟩,λx ao aQ=>?_⟩,S.put aN Ω⟩;have:=(x4.1 aQ).1;exact absurd ⟨ao,Ω⟩ a
 have a:0<=i/\i<n.sizes.length:=by simpa using a
 obtain⟨x,E⟩:=aE (l:=s.vars) (i:=i.toNat) Ω;obtain⟨z,V⟩:=aE (l:=n.sizes) (i:=i.toNat) Ω;have aR:=h.2.2.2.1.e1.2.2 z (x5 V);obtain⟨bq,_,br,bz⟩:=h.2.2.2.1.var i.toNat x z E V;obtain⟨aS,aT,aU,aV,a7,aW,L,aX,G,ap,_⟩:=(h.ext S).1.parts;rw[aO ct.p 0 G rfl];refine (CU ap h.2.2.2.2).mono ?_;rintro _ bA _ ⟨W,rfl⟩;rw[if_pos a.1,u4,V,V8];refine JK.mono ?_;rintro _ bB _ ⟨X,rfl⟩;rw[if_pos aR];obtain⟨m,rfl⟩:∃m:Nat,z=m:=⟨z.toNat,Ω⟩;rw[bu,bw,r8];have aq:=(S.trans W).trans X;refine bt cb.i λe bC bE av aY=>?_;refine bT (vs:=[.int .u64 ((2 ^ m-1:Nat):Int),Δ (m:Int)]) cb.i rfl rfl (by intro u hu;simp at hu;rcases hu with rfl|rfl<;>rfl) aY λax ay bG aZ=>?_;have z5:=aq.size;have az:Ext w ax:=(aq.trans av).put ay Ω;have bI:=(((Q.ext W).ext X)).lt;have a1:aa ax f cb [.int .u64 0,Δ 0]:=(((Q.ext W).ext X).ext av).U ay λhe=>by have he:f=e:=he;omega
 intro bJ Y _ _;have aA:=az.trans Y;obtain⟨aS,aT,aU,aV,a7,aW,L,aX,G,ap,a2,a6,_⟩:=(h.ext aA).1.parts;have bK:=tt E;have bL:=ts h.2.1 h.2.2.1;rw[aO ct.p 1 G rfl,aO ct.p 2 G rfl,fA (y:=i) (i:=i.toNat) Ω al.u ag.i Ψ a6.ls (qU Ω),aM,wrap_i64 Ω Ω];have a8:t.bD[e8 s i.toNat+1]? =σ x.mask:=by rw[h.2.1,pg E Ω];rfl
 refine (mF (i:=e8 s i.toNat+1) a2 Ω a8).mono ?_;rintro _ ba _ ⟨rfl,Z⟩;have aB:=(aZ.ext Y).ext Z;have bb:=(a1.ext Y).ext Z;obtain⟨mk,aC⟩:∃mk:Nat,x.mask=mk:=⟨x.mask.toNat,Ω⟩;rw[bx cb.p cb.i rfl (show ba.rangeAt e 0 [.int .u64 ((2 ^ m-1:Nat):Int),Δ (m:Int)] from aB.range)];refine (AF (b:=2 ^ m-1) (n:=m)).mono ?_;rintro _ bM _ ⟨rfl,ac⟩;have bc:=aA.trans Z;have bd:f≠e:=Ω
 have bN:=az.size;have bO:w.heap.size<=e:=Ω
 have bP:w.heap.size<=f:=Ω
 refine ci.range m (λq B=>Ext w B/\aa B f cb [.int .u64 0,Δ 0]/\ ∃b:Nat,aa B e cb [.int .u64 (b:Int),Δ (m:Int)]/\lS b m/\ ∀j:Nat,b.testBit j=(decide (j<m)&& !(decide (j<q)&&mk.testBit j))) Ω
  ⟨bc.trans ac,bb.ext ac,_,aB.ext ac,⟨Ω,by have:=Nat.two_pow_pos m;omega⟩,λj=>by rw[AD];simp⟩ ?_ ?_
 .rintro q B be bR ⟨H,I,b,C,K,M⟩ bf;refine bH Ω ?_;refine dm (λN=>Ext w N/\aa N f cb [.int .u64 0,Δ 0]/\ ∃b:Nat,aa N e cb [.int .u64 (b:Int),Δ (m:Int)]/\lS b m/\ ∀j:Nat,b.testBit j=(decide (j<m)&& !(decide (j<q+1)&&mk.testBit j))) ?_ ?_
  .rintro N bg;rw[aM];exact bf _ bg
  intro au aD;have bh:mk / 2 ^ q<2 ^ 62:=Nat.lt_of_le_of_lt (Nat.div_le_self _ _) Ω;rw[aC,BG Ω,show (1:Int)=((1:Nat):Int) from rfl,DA bh Ω,bi,ah];have aF:(((mk / 2 ^ q &&& 1:Nat):Int)=((1:Nat):Int))↔mk.testBit q=true:=by rw[<-DB];omega
  refine⟨λae=>?_,λaf=>?_⟩
  .have ae:=aF.1 ae;rw[bx cb.p cb.i rfl (show B.rangeAt e 0 [.int .u64 (b:Int),Δ (m:Int)] from C.range)];refine (JM (v:=(q:Int)) K).mono ?_;rintro _ bS _ ⟨rfl,aj⟩;rw[if_pos ⟨Ω,Ω⟩,r8];refine bT (vs:=[.int .u64 ((jK b (2 ^ q):Nat):Int),Δ (m:Int)]) cb.i rfl rfl (by intro u hu;simp at hu;rcases hu with rfl|rfl<;>rfl) (C.ext aj) λbU aG bV bj=>?_;have aH:∀j:Nat,(jK b (2 ^ q)).testBit j=(decide (j<m)&& !(decide (j<q+1)&&mk.testBit j)):=λj=>by
    rw[Av,M,Nat.testBit_two_pow];by_cases aI:j<m
    .by_cases O:j=q
     .subst O;simp[ae]
     .have ak:decide (j<q+1)=decide (j<q):=decide_eq_decide.2 ⟨λh=>Ω,λh=>Ω⟩;rw[ak,decide_eq_true aI,decide_eq_true (show j<64 by omega),decide_eq_false (show ¬q=j from λh=>O h.symm)];simp
    .simp[aI]
   refine aD _ ⟨(H.trans aj).then aG λr bW he=>by have he:r=e:=he;omega,(I.ext aj).U aG λhe=>bd he,_,bj,⟨Ω,JD λj aJ=>by rw[aH,decide_eq_false Ω];rfl⟩,aH⟩
  .have af:mk.testBit q=false:=by simpa using λh=>af (aF.2 h)
   refine aD _ ⟨H,I,b,C,K,λj=>?_⟩;rw[M];by_cases O:j=q
   .subst O;simp[af]
   .have ak:decide (j<q+1)=decide (j<q):=decide_eq_decide.2 ⟨λh=>Ω,λh=>Ω⟩;rw[ak]
 .rintro B be ⟨H,I,b,C,K,M⟩;refine ca Ω ?_;rw[bx cb.p cb.i rfl (show B.rangeAt e 0 [.int .u64 (b:Int),Δ (m:Int)] from C.range)];refine bT (vs:=[.int .u64 (b:Int),Δ (m:Int)]) cb.i rfl rfl (by intro u hu;simp at hu;rcases hu with rfl|rfl<;>rfl) I λbX bk bY bl=>?_;rw[fB cb.p cb.i rfl bl.range];refine⟨⟨b,m,rfl,K,λh=>absurd a h,λy ao aK=>?_⟩,H.put bk Ω⟩;rw[E] at aK;cases aK;refine⟨Ω,λj=>?_⟩;rw[M,aC,Oj,show x.un.length=m by omega];by_cases aJ:j<m<;>simp[aJ]
theorem wX {f:b3} (e:br k sizes s) (j:f∈s.funs):b2 f.ac/\f.cs.length=(aK f.ac).toNat/\aK f.ac<=4096:=by
 obtain⟨a,I,_⟩:=e.funs f j;rw[I];refine⟨⟨?_,la e.e1.2.2 λv h=>⟨(a.scope.1 v h).1,a.vars v h⟩⟩,a.len,a.small⟩;have:=a.scope.2;simp[bP];exact this
def gB (s:aq) (j:Nat) (tl:Λ):Option Nat:=match s.funs[j]? with
 |some f=>if f.live≠0 then (cH f.ac tl 0).map λm=>e9 s j+1+m.toNat else ν
 |none=>ν
def kD (s:aq) (j:Nat) (tl:Λ):Int:=match s.funs[j]? with
 |some f=>ba f.ac f.cs tl
 |none=>0
theorem DG (h:bQ w ab ad A R n s t) (N:aF .i64 w aL tl):ai x7 GJ [Γ ab,Δ (j:Int),aL] w λv w'=>v=Δ (match gB s j tl with|some p=>(p:Int)|none=>-1)/\Ext w w':=by
 refine aw func75 ?_;refine (wW h).mono ?_;rintro _ J _ ⟨rfl,B⟩;rw[decide_eq_true Ω,T3,r8,bF,b0];refine⟨λa=>⟨?_,B⟩,λa=>?_⟩
 .have a:gA s j=false:=by simpa using a
  have:gB s j tl=ν:=by
   unfold gB;unfold gA at a;cases e:s.funs[j]? with
   |none=>rfl
   |some f=>
    rw[e] at a;have a:f.live=0:=by simpa using a
    simp[a]
  rw[this]
 have a:gA s j=true:=by simpa using a
 obtain⟨f,e,O⟩:∃f,s.funs[j]? =σ f/\f.live≠0:=by
  unfold gA at a;cases e:s.funs[j]? with
  |none=>rw[e] at a;cases a
  |some f=>rw[e] at a;exact⟨f,rfl,by simpa using a⟩
 obtain⟨I,af,ag⟩:=wX h.2.2.2.1 (x5 e);obtain⟨P,Q,S,U,a7,K,L,V,C,W,X,Y,x,z⟩:=(h.ext B).1.parts;obtain⟨y,r⟩:∃y,L[j]? =σ y:=⟨_,x6 (by rw[z.1];exact (x4.1 e).1)⟩;have E:=(x4.1 r).1;obtain⟨_,Z,M⟩:=z.2 j y f r e;have aa:J.rangeAt K (j*3+1) [y.szv]:=λq v G=>by
  match q,G with
  |0,G=>cases G;exact x.range r 1 _ rfl
 rw[aO ct.p 3 C rfl,db rfl ff.u dQ.i x E,aP dQ.p rfl,bx (cs:=[y.szv]) bA.p bA.i rfl aa];refine (zM Z.ls (N.ext B) I).mono ?_;rintro _ w2 _ ⟨rfl,ae⟩;have H:=B.trans ae;unfold kX gB;rw[e];simp only[if_pos O];cases hi:cH f.ac tl 0 with
 |none=>
  simp only[Option.map_none];rw[bu,bw,bE,ah];exact⟨λ_=>⟨trivial,H⟩,λh=>absurd (show (3:Int)≠0 by decide) h⟩
 |some m=>
  simp only[Z6];rw[bu,bw,bE,ah];refine⟨λh=>absurd rfl h,λ_=>?_⟩;have aj:=nB I.2 hi;have ak:=DD e;have al:=ts h.2.1 h.2.2.1;obtain⟨P,Q,S,U,a7,K,L,V,C,W,X,Y,x,z⟩:=(h.ext H).1.parts;obtain⟨y,r⟩:∃y,L[j]? =σ y:=⟨_,x6 (by rw[z.1];exact (x4.1 e).1)⟩;have E:=(x4.1 r).1;obtain⟨_,_,M⟩:=z.2 j y f r e;rw[aO ct.p 3 C rfl,db rfl ff.u dQ.i x E,aP dQ.p rfl,aB (v:=Δ (y.at_:Int)) Ψ (x.range r 2 _ rfl),M,aM,wrap_i64 Ω Ω,aM,wrap_i64 Ω Ω];refine⟨?_,H⟩;congr 1;omega
theorem DH {p:Nat} (e:br k sizes s) (h:gB s j tl=σ p):s.cells[p]? =σ (kD s j tl)/\ ∃f,s.funs[j]? =σ f/\f.live≠0/\ ∃m:Nat,cH f.ac tl 0=σ (m:Int)/\m<f.cs.length/\p=e9 s j+(m+1):=by
 unfold gB at h;cases a:s.funs[j]? with
 |none=>rw[a] at h;cases h
 |some f=>
  rw[a] at h;simp only at h;split at h
  .rename_i r;obtain⟨m,hm,rfl⟩:=X3.1 h;obtain⟨w,x,y⟩:=wX e (x5 a);have z:=nB w.2 hm;obtain⟨q,rfl⟩:∃q:Nat,m=q:=⟨m.toNat,Ω⟩;refine⟨?_,f,rfl,r,q,hm,Ω,Ω⟩;rw[show e9 s j+1+(q:Int).toNat=e9 s j+(q+1) by omega,wp a Ω];unfold kD ba;rw[a];simp only[hm];show f.cs[q]? =_;rw[r8,u4,x6 Ω];rfl
  .cases h
theorem pm (h:bQ w ab ad A R n s t) (e:aF .i64 w aL tl):ai x7 F8 [Γ ab,Δ (j:Int),aL] w λv w'=>v=(if (gB s j tl).isSome then .tuple #[Δ (kD s j tl),Δ 0] else .tuple #[Δ 0,Δ 1])/\Ext w w':=by
 refine aw func31 ?_;rw[dp dO.u];simp only[Z7,aW];refine (DG h e).mono ?_;rintro _ J _ ⟨rfl,a⟩;cases f:gB s j tl with
 |none=>
  simp only;rw[aQ,ah];exact⟨λ_=>⟨rfl,a⟩,λh=>Ω⟩
 |some p=>
  simp only;refine ca Ω ?_;obtain⟨y,z,B,C,a7,E,L,G,q,H,r,I,K,M⟩:=(h.ext a).1.parts;rw[aO ct.p 1 q rfl];refine (mF (i:=p) r rfl (by rw[h.2.1];exact (DH h.2.2.2.1 f).1)).mono ?_;rintro _ w2 _ ⟨rfl,x⟩;exact⟨rfl,a.trans x⟩
end
theorem eM.parts {a:Nat} {e f q:x1} {A R:af} {n:aS} {s:aq} {t:aC} (h:eM w ab ad a e f q A R n s t):∃a7 j L p,aa w ab ct [Γ a,Γ ad,e,f,q]/\fU w a n/\dx w ad p t/\ap .i64 ag w a7 e (iu s)/\bg lY 3 dQ w j f L/\lj R w L s:=by
 obtain⟨_,a7,j,ge,L,E,p,w0,r,⟨x,y,G⟩,⟨z,H,I,J⟩,B,⟨C,F⟩,K,M⟩:=h;exact⟨a7,j,L,p,r,x.ext y,z,B,C,F⟩
theorem Ol {b:Int} (e:0<=a/\a<=k) (f:0<=b/\b<=k) (hk:1<=k/\k<=2147483648):ai x7 yY [Δ a,Δ b,Δ k] w λv w'=>v= .tuple #[Δ (min (a+b) k),Δ 0]/\Ext w w':=by
 refine Bb.mono ?_;rintro _ J _ ⟨rfl,h⟩;refine⟨?_,h⟩;unfold qh;rw[if_pos ⟨⟨hk,e.1,e.2⟩,hk,f.1,f.2⟩]
def Room (t:aC):Prop:=t.marks=[]\/t.olds.length<100000000
def e2 (s:aq) (i v:Nat):aq:=match s.vars[i]? with
 |some x=>{s with vars:=s.vars.set i {x with mask:=((x.mask.toNat ||| 2 ^ v:Nat):Int)}}
 |none=>s
theorem br.tv {s:aq} {i:Nat} {x y:bl} (h:br k sizes s) (e:s.vars[i]? =σ x) (r:y.un.length=x.un.length) (w:∀c∈y.un,0<=c/\c<=k) (hm:0<=y.mask/\y.mask<4294967296):br k sizes {s with vars:=s.vars.set i y}:=
 ⟨h.fV,h.e1,h.zero,by show (s.vars.set i y).length=_;rw[Z5];exact h.vars,λp z q a f=>by
  have a:(s.vars.set i y)[p]? =σ z:=a;rw[X6] at a;by_cases j:i=p
  .subst j;rw[if_pos rfl,if_pos (x4.1 e).1] at a;cases a;exact⟨r.trans (h.var i x q e f).1,w,hm⟩
  .rw[if_neg j] at a;exact h.var p z q a f,h.funs⟩
theorem br.DI {s:aq} {f g:b3} (h:br k sizes s) (e:s.funs[j]? =σ f) (h1:g.sc=f.sc) (p:g.ac=f.ac) (q:g.cs.length=f.cs.length) (r:∀c∈g.cs,0<=c/\c<=k):br k sizes {s with funs:=s.funs.set j g}:=
 ⟨h.fV,h.e1,h.zero,h.vars,h.var,λx a=>by
  rcases W3 a with a|rfl
  .exact h.funs x a
  .obtain⟨⟨c1,c2,w,y,z,C⟩,A,B⟩:=h.funs f (x5 e);refine⟨⟨?_,?_,?_,?_,?_,r⟩,?_,?_⟩
   .show jo x.sc;rw[h1];exact c1
   .show x.sc.Pairwise _;rw[h1];exact c2
   .show ∀v∈x.sc,_;rw[h1];exact w
   .show x.cs.length=(aK (bP sizes x.sc)).toNat;rw[h1,q];exact y
   .show aK (bP sizes x.sc)<=_;rw[h1];exact z
   .rw[h1,p];exact A
   .rw[h1];exact B⟩
theorem Om {r:Nat} {c:List x1} (a:aa w r e c) (he:¬(e=fx\/e=eG\/e=kS\/e=gi\/e=ct\/e=dQ\/e=gf)):¬eN w r:=by
 rintro (⟨p,q,f,h⟩|j)
 .rw[eu a f] at he;exact he h
 .exact j _ a rfl
section
variable {w:x3} {ab ad:Nat} {A R:af} {n:aS} {s:aq} {t:aC}
theorem mG.set (h:mG t) (a:Room t) (p:Nat) (x:Int):mG (t.set p x):=by
 refine⟨by rw[aC.CZ];exact h.1,?_,by rw[aC.wu];exact h.2.2⟩;rcases a with a|a
 .rw[aC.wv a];exact h.2.1
 .have:=aC.C0 t p x;omega
theorem DJ {s':aq} {p:Nat} {x:Int} (h:bQ w ab ad A R n s t) (z:y=(p:Int)) (a:p<s.cells.length) (B:s.cells.set p x=s'.cells) (I:n0 s s') (C:br n.k n.sizes s') (E:Room t):
  ai x7 y5 [Γ ad,Δ y,Δ x] w λr w'=>r=Δ 0/\ae (eN w) w w'/\ ∃aI,Grow A w aI w'/\bQ w' ab ad aI R n s' (t.set p x):=by
 obtain⟨G,j,q,_,H⟩:=id h;obtain⟨K,L,M⟩:=G.qN;have N:p<t.cells.length:=by rw[<-j] at a;unfold aC.bD at a;rw[u7] at a;exact a
 refine (tk L.min z N q).mono ?_;rintro _ J _ ⟨rfl,O,e,P⟩;obtain⟨aI,Q,S⟩:=M (λr=>K r\/O r) J _ ⟨e.1.mono λr _ h=>h.1,λr f=>f.elim .inl λh=>(e.2.1 r h).imp (λh=>h.1) id,λr f=>.inl f⟩ (P.mono λr h=>.inr h);exact⟨rfl,e.1.mono λr _ h=>.inl h.2,aI,Q,S.same I,by rw[aC.pX,j,B],q.set E p x,C,H⟩
theorem DK {i:Int} (h:bQ w ab ad A R n s t) (K:Room t):ai x7 Gu [Γ ab,Δ i,Δ v] w λr w'=>(¬fX n i v->r=Δ 1/\Ext w w')/\
  (fX n i v->r=Δ 0/\ae (eN w) w w'/\ ∃aI x,Grow A w aI w'/\bQ w' ab ad aI R n (e2 s i.toNat v.toNat) (t.set (e8 s i.toNat+1) x)):=by
 refine aw func58 ?_;rw[dp dO.u];simp only[Z7,aW];refine (wV h).mono ?_;rintro _ J _ ⟨rfl,f⟩;by_cases e:fX n i v
 rotate_left
 .rw[if_neg e,aQ,ah];exact⟨λ_=>⟨λ_=>⟨by trivial,f⟩,λh=>absurd h e⟩,λh=>Ω⟩
 rw[if_pos e];refine ca Ω ?_;obtain⟨x,a,M,aa,ac⟩:=e.var h.2.2.2.1;obtain⟨h1,af,aj,ak⟩:=id e;have am:=h.2.2.2.1.vars;obtain⟨z,N⟩:=aE (l:=n.sizes) (i:=i.toNat) Ω;obtain⟨_,O,an,ao⟩:=h.2.2.2.1.var i.toNat x z a N;have ap:=tt a;have aq:=ts h.2.1 h.2.2.1;obtain⟨au,av,ax,ay,P⟩:=(h.ext f).1;obtain⟨a7,az,L,aA,E,aB,Q,S,aC,aD⟩:=P.parts;rw[aO ct.p 2 E rfl,fA (y:=i) (i:=i.toNat) Ω al.u ag.i Ψ S.ls (qU Ω),aM,wrap_i64 Ω Ω];intro w2 j _ _;have U:=f.trans j;have G:=E.ext j;have V:=Q.ext j;obtain⟨q,rfl⟩:∃q:Nat,v=q:=⟨v.toNat,Ω⟩;obtain⟨mk,H⟩:∃mk:Nat,x.mask=mk:=⟨x.mask.toNat,Ω⟩;rw[r8] at M;rw[aO ct.p 1 G rfl,aO ct.p 1 G rfl,Oi Ω];have W:t.bD[e8 s i.toNat+1]? =σ x.mask:=by rw[h.2.1,pg a Ω];rfl
 refine (mF (i:=e8 s i.toNat+1) V Ω W).mono ?_;rintro _ aF _ ⟨rfl,I⟩;refine⟨.inl I,?_⟩;have aG:(2:Nat) ^ q<=2 ^ 31:=S3 Ω Ω;rw[H,Oh Ω Ω];have B:=U.trans I;have aH:mk ||| 2 ^ q<2 ^ 32:=Nat.or_lt_two_pow Ω Ω;have C:e2 s i.toNat (q:Int).toNat={s with vars:=s.vars.set i.toNat {x with mask:=((mk ||| 2 ^ q:Nat):Int)}}:=by
  unfold e2;rw[a];simp only[H,r8]
 refine (DJ (p:=e8 s i.toNat+1) (s':=e2 s i.toNat (q:Int).toNat) (h.ext B) Ω Ω ?_ ?_ ?_ K).mono ?_
 .rw[C,CR a Ω];rfl
 .rw[C];exact CX a rfl
 .rw[C];exact h.2.2.2.1.tv a rfl O ⟨by simp only;omega,by simp only;omega⟩
 rintro _ aJ _ ⟨rfl,X,aI,Y,Z⟩;exact⟨λh=>absurd e h,λ_=>⟨rfl,jT B X,aI,_,(Grow.ext B).trans Y,Z⟩⟩
end
theorem tw {j:x1} (h:aF .i64 w j l):ai x7 F5 [j,Δ v] w λr w'=>r= .bool (decide (v∈l))/\Ext w w':=by
 refine aw func23 ?_;rw[aX al.u h];refine bY.range l.length (λi _ J=>Ext w J/\v∉l.take i) h.le ⟨Ext.refl _,Ξ⟩ ?_ ?_
 .rintro i _ J k hi ⟨a,e⟩ hk;obtain⟨x,f⟩:=aE (l:=l) hi;refine bH Ω ?_;rw[be al.u ag.i Ψ (h.ext a) f,bi,ah];refine⟨λhe=>⟨by rw[decide_eq_true];rw[<-he];exact x5 f,a⟩,λp=>?_⟩;rw[aM];refine hk _ _ ⟨a,λhm=>?_⟩;rw[u9,f,o8,l9,n9] at hm;rcases hm with hm|hm
  .exact e hm
  .exact p hm.symm
 .rintro _ J k ⟨a,e⟩;rw[o7] at e;rw[aQ,ah];exact⟨λh=>Ω,λ_=>⟨by rw[decide_eq_false e],a⟩⟩
theorem DL {x:bl} (h:0<=v/\v<x.un.length):v∈ax x↔dropped x.mask v=false:=by
 unfold ax;rw[T4,l7];constructor
 .rintro⟨_,a⟩;simpa using a
 .intro a;exact⟨⟨v.toNat,List.mem_range.2 Ω,Ω⟩,by simp[a]⟩
def dD (s:aq):Prop:=∀f∈s.funs,f.live≠0-> ∀v∈f.sc,∀x,s.vars[v.toNat]? =σ x->x.gone=0
theorem fU.put {g x:Nat} {c:List x1} {n:aS} (h:fU w x n) (a:aa w g aG c) (f:ae (λr=>r=g) w w'):fU w' x n:=by
 have p:=Dv a;have y:∀r,r=g-> ∃e c,aa w r e c/\e≠hv/\e≠cX/\e≠ag/\e≠ak/\e≠an:=λr j=>by
  subst j;exact⟨_,c,a,Φ,Φ,Φ,Φ,Φ⟩
 obtain⟨z,A,B,C,gr,aR,L,nm,szv,gz,fv2,h1,E,F,G,H,I,J⟩:=h;refine⟨z,A,B,C,gr,aR,L,nm,szv,gz,fv2,wO h1 f p Φ,wO E f p Φ,wN F f p Φ,G.U f λr j=>?_,H,I.U f λr j=>?_,J⟩
 .obtain⟨e,c,a,_,_,_,q,s⟩:=y r j;exact⟨e,c,a,q,s⟩
 .obtain⟨e,c,a,q,s,K,M,_⟩:=y r j;exact⟨e,c,a,q,s,K,M⟩
theorem StateM.put {g:Nat} {A R:af} {n:aS} {s:aq} {t:aC} {c:List x1} (h:StateM w ab ad A R n s t) (y:aa w g aG c) (p:ae (λr=>r=g) w w') (S:¬A g):∃R',(∀r,R' r->R r/\r≠g)/\StateM w' ab ad A R' n s t:=by
 obtain⟨V,W,X,Y,⟨h1,Z,ac,ag⟩,a7,ah,ge,L,E,ai,w0,aj,⟨K,C,ak⟩,⟨al,M,am,an⟩,ao,⟨ap,N⟩,au,O⟩:=h;obtain⟨cq,P⟩:=CK;have z:=p.size;have q:=Dv y;have B:∀r,(w0.heap.setIfInBounds g cq)[r]? =if g=r then (if g<w0.heap.size then σ cq else ν) else w0.heap[r]?:=λr=>Array.getElem?_setIfInBounds;have av:∀r,A r->r≠g:=λr a he=>S (he▸a);have int:∀ {v:x1} {l:Λ},iV R w v l->iV (λr=>R r/\r≠g) w' v l:=λ⟨⟨aw,hm⟩,ax⟩=>⟨⟨aw,wN hm p q Φ⟩,λr a=>⟨ax r a,cd hm y Φ a⟩⟩;refine⟨λr=>R r/\r≠g,λr h=>h,V,W,X,Y,⟨h1,λr a ay=>Z r a ay.1,λr a=>by have:=ac r a.1;omega,λr a=>by have:=ag r a;omega⟩,a7,ah,ge,L,E,ai,{w0 with heap:=w0.heap.setIfInBounds g cq},wO aj p q Φ,⟨?_,?_,?_⟩,
  ⟨al.U p λr a=>av r (M r a),M,am,an⟩,wN ao p q Φ,⟨Du ap p q Φ,N.1,λj x f F az=>?_⟩,Du au p q Φ,O.1,λj x e F he=>?_⟩
 .by_cases I:∃o,w0.heap[g]? =σ o/\fs o=true
  .obtain⟨o,Q,aA⟩:=I;have aB:aa w0 g aG c:=by
    unfold aa at y ⊢;have:=C.aV g o Q aA;rw[y] at this;rw[Q,this]
   refine K.put aB ⟨Ξ,λr o a I aD=>?_⟩;show (w0.heap.setIfInBounds g cq)[r]? =σ o;rw[B,if_neg λhe=>aD he.symm];exact a
  .refine K.ext ⟨Ξ,λr o a aE=>?_⟩;show (w0.heap.setIfInBounds g cq)[r]? =σ o;rw[B,if_neg λhe=>I ⟨o,by rw[he];exact a,aE⟩];exact a
 .refine⟨by show (w0.heap.setIfInBounds g cq).size<=_;rw[Array.size_setIfInBounds];exact X0 C.size z,λr o a I=>?_⟩;have a:(w0.heap.setIfInBounds g cq)[r]? =σ o:=a;rw[B] at a;by_cases he:g=r
  .rw[if_pos he] at a;split at a
   .cases a;rw[P] at I;cases I
   .cases a
  .rw[if_neg he] at a;exact p.aV r o (C.aV r o a I) I λh=>he h.symm
 .intro r o a I;have a:(w0.heap.setIfInBounds g cq)[r]? =σ o:=a;rw[B] at a;by_cases he:g=r
  .rw[if_pos he] at a;split at a
   .cases a;rw[P] at I;cases I
   .cases a
  .rw[if_neg he] at a;exact⟨ak r o a I,λh=>he h.symm⟩
 .obtain⟨G,H,J⟩:=N.2 j x f F az;exact⟨int G,int H,J⟩
 .obtain⟨G,H,J⟩:=O.2 j x e F he;exact⟨G,int H,int J⟩
theorem On {pl:Λ} {f:bZ} (j:pl.length<=60000) (h:fh pl=σ f):∃N,N<=60000/\e6 N f/\f.name≠[]/\ ∀b∈f.name,bM b=true:=by
 unfold fh at h;rw[if_neg Ω] at h;cases a:gY ⟨(lex pl).1,0,false,[]⟩ with
 |none=>rw[a] at h;cases h
 |some q=>
  obtain⟨p,s⟩:=q;rw[a] at h;simp only at h;split at h
  .rename_i ay;cases h;obtain⟨h1,e⟩:=A4 rfl a ay.2.2;have r:=oL pl.length pl (o4 _);obtain⟨J,w2,_⟩:=sh pl.length pl (o4 _) f.name e;exact⟨_,by show (lex pl).1.length<=60000;omega,h1,J,w2⟩
  .cases h
theorem Oo:ai x7 yV [.pointer ν] w λv w'=>v= .pointer ν/\Ext w w':=by
 refine aw func37 ?_;rw[dp mi.u];simp only[Option.isNone_none,bO];exact⟨by trivial,Ext.refl _⟩
theorem Oq {v:x1} (h:aF .u8 w v l) (B:l.length<=100000):ai x7 Ga [v] w λf w'=>Ext w w'/\ ∃g,ap .u8 cC w' g f l:=by
 have e:=h;obtain⟨C,b,o,base,cap,rfl,E,hm,q,s⟩:=h;refine aw func33 ?_;rw[r2 cP.u,b0];refine⟨λx=>⟨Ext.refl _,0,?_⟩,λ_=>?_⟩
 .have:l=[]:=by
   cases base with
   |none=>
        by_cases e:0<l.length
        .have:=q e;cases this
        .exact Z0 Ω
   |some a=>cases x
  subst this;exact ap.nil _ _ _ _
 .refine wP (k:=.u8) cP.u cC.i λG g1 J H j p=>?_;refine gP cP.u cC.i rfl p (e.ext j) Θ Θ λf y w2 z I A=>?_;exact⟨j.then A (λr s he=>by have:=(bU p he).1;omega),y,by simpa using z⟩
def Ot (sv:x1):Prop:=∃cs:List x1,sv= .agg cs.toArray/\cs.length=8/\ ∀u∈cs,u.oneCell'=true
theorem DM:Ot (.agg z12.toArray):=⟨z12,rfl,rfl,by intro u hu;simp[z12] at hu;rcases hu with rfl|rfl|rfl|rfl<;>rfl⟩
theorem wY {N:Nat} {f:bZ} (a:e6 N f):(df f).funs.length<=256:=by
 have h1:=(qy a).2.length_eq;have h:=(lb a).2.2;have j:=List.length_filter_le fD (fl f);have p:=a.k3;have e:=(pe f (fE f).length).2.2.2;rw[ti] at e;omega
theorem Ou {n:aS} {t:aC} (e:jR n) (f:n.funs.length<=256) (h:t.bD=(dj n).cells) (a:Plain t):mG t:=by
 have h1:=tq e f n.unary.length n.funs.length;rw[wB,<-h] at h1;unfold aC.bD at h1;rw[u7] at h1;refine⟨Ω,?_,?_⟩
 .rw[a.2.1];exact X8 _
 .rw[a.1];exact X8 _
def tx (B:Nat) (w:x3) (a:x1) (cs:List x1) (f:bZ):Prop:=∃ab ad A R t N A9 aH,e6 N f/\a=Γ ab/\bQ w ab ad A R (df f) (dj (df f)) t/\Plain t/\(∀r,A r->B<=r)/\
 hn true A9 aH w cs (df f).k (df f).sizes (dj (df f))/\(∀q r,A9 q r->¬A r/\¬R r/\B<=r)/\(∀r,aH r->¬eN w r/\r<w.heap.size/\B<=r)/\ ∀r,R r->B<=r
def Ov (w:x3) (q:Λ) (v:x1) (w':x3):Prop:=Ext w w'/\ ∃a cs ok,v= .tuple #[a,.agg cs.toArray,.bool ok]/\(cs.length=8/\ ∀u∈cs,u.oneCell'=true)/\((ok=false/\a= .pointer ν)\/(ok=true/\ ∃f,fh q=σ f/\tx w.heap.size w' a cs f))/\ ∀f,fh q=σ f->ip f.funs<=16384->ok=true
section
variable {w:x3} {ab ad:Nat} {A R:af} {n:aS} {s:aq} {t:aC}
theorem Ow {j:Int} (h:bQ w ab ad A R n s t) (p:¬(0<=j/\j<s.funs.length)):ai x7 rR [Γ ab,Δ j] w λr w'=>r= .slice ν 0 0/\Ext w w':=by
 refine aw func120 ?_;refine aT (λv J=>v= .bool true/\Ext w J) ?_ ?_
 .rintro _ J ⟨rfl,e⟩;rw[bO];exact⟨rfl,e⟩
 intro au a;rw[aQ,ah];refine⟨λ_=>a _ _ ⟨rfl,Ext.refl _⟩,λq=>?_⟩;refine (wT h).mono ?_;rintro _ x _ ⟨rfl,f⟩;rw[cU];exact a _ _ ⟨by rw[decide_eq_true Ω],f⟩
end
section
variable {w:x3} {B:Nat} {sv:x1} {k:Int} {sizes:Λ} {s:aq}
end
def iv:List (Λ)->List (Λ)
 |[]=>[[]]
 |d::a=>d.flatMap λv=>(iv a).map (v:: ·)
theorem tz:∀ {e:List (Λ)} {t:Λ},t∈iv e↔t.length=e.length/\ ∀ (p:Nat) d v,e[p]? =σ d->t[p]? =σ v->v∈d
 |[],t=>by
  simp only[iv,n9];exact⟨λh=>by subst h;exact⟨rfl,λp d v h=>by simp at h⟩,λh=>Z0 h.1⟩
 |d::e,t=>by
  simp only[iv,List.mem_flatMap,l7];constructor
  .rintro⟨v,q,bp,r,rfl⟩;obtain⟨h1,f⟩:=tz.1 r;refine⟨by simp[h1],λp j u a hu=>?_⟩;cases p with
   |zero=>simp at a hu;subst a hu;exact q
   |succ p=>exact f p j u (by simpa using a) (by simpa using hu)
  .rintro⟨h1,f⟩;cases t with
   |nil=>simp at h1
   |cons v bp=>exact⟨v,f 0 d v rfl rfl,bp,tz.2 ⟨by simpa using h1,λp j u a hu=>f (p+1) j u (by simpa using a) (by simpa using hu)⟩,rfl⟩
def mN:List (Int->Bool)->Λ->Bool
 |q::a,v::t=>q v&&mN a t
 |_,_=>true
theorem DN:∀ (j:List (Λ)) (a:List (Int->Bool)),a.length=j.length->iv ((j.zip a).map λp=>p.1.filter p.2)=(iv j).filter (mN a)
 |[],[],_=>rfl
 |d::j,q::a,h=>by
  have r:=DN j a (by simpa using h);simp only[List.zip_cons_cons,V7,iv];rw[r];clear r h;induction d with
  |nil=>rfl
  |cons v d s=>
   rw[X2,List.filter_append,<-s];have e:((iv j).map (v:: ·)).filter (mN (q::a))=if q v then ((iv j).filter (mN a)).map (v:: ·) else[]:=by
    rw[List.filter_map];by_cases f:q v=true
    .rw[if_pos f];congr 1;apply List.filter_congr;intro t _;show (q v&&mN a t)=_;rw[f,T3]
    .rw[if_neg f];rw[List.filter_eq_nil_iff.2 λt _=>by show ¬(q v&&mN a t)=true;simp[f]];rfl
   rw[e];by_cases f:q v=true
   .rw[if_pos f,List.filter_cons_of_pos f,X2]
   .rw[if_neg f,List.filter_cons_of_neg f];rfl
def hG (k:Int):Λ:=(V6 k.toNat).map λv:Nat=>(v:Int)
theorem wZ:∀ (s:Λ),a8 s=iv (s.map hG)
 |[]=>rfl
 |k::s=>by
  simp only[a8,V7,iv,hG,List.flatMap_map,<-wZ s]
theorem tA:v∈hG k↔0<=v/\v<k:=by
 unfold hG;rw[l7];constructor
 .rintro⟨n,a,rfl⟩;have:=List.mem_range.1 a;omega
 .intro h;exact⟨v.toNat,List.mem_range.2 Ω,Ω⟩
def cZ (f:Int->Int) (L:List (Λ)) (ac cs:Λ):Λ:=((a8 ac).zip cs).map λp=>if p.1∈L then f p.2 else p.2
theorem jr (f:Int->Int) (L:List (Λ)) (ac cs:Λ) (h:cs.length<=(a8 ac).length):(cZ f L ac cs).length=cs.length:=by
 unfold cZ;rw[u7,List.length_zip];omega
theorem kE {f:Int->Int} {cs:Λ} {i:Nat} (a:(a8 ac)[i]? =σ t) (e:cs[i]? =σ c):(cZ f L ac cs)[i]? =σ (if t∈L then f c else c):=by
 unfold cZ;have h:((a8 ac).zip cs)[i]? =σ (t,c):=List.getElem?_zip_eq_some.2 ⟨a,e⟩;rw[x8,h];rfl
theorem Ox {f:Int->Int} {cs:Λ} {i:Nat} (I:dv ac) (q:cs.length<=(a8 ac).length) (p:(a8 ac)[i]? =σ t) (r:cs[i]? =σ c) (x:t∉L):(cZ f L ac cs)[i]? =σ c/\(cZ f L ac cs).set i (f c)=cZ f (L++[t]) ac cs:=by
 have h1:=kE (f:=f) (L:=L) p r;rw[if_neg x] at h1;refine⟨h1,?_⟩;apply Y6;intro j;rw[X6];by_cases s:i=j
 .subst s;rw[if_pos rfl,if_pos (x4.1 h1).1,kE p r,if_pos Ξ]
 .rw[if_neg s];cases a:cs[j]? with
  |none=>
   have:=S4.1 a;rw[Z4 (by rw[jr _ _ _ _ q];exact this),Z4 (by rw[jr _ _ _ _ q];exact this)]
  |some A=>
   obtain⟨u,hu⟩:∃u,(a8 ac)[j]? =σ u:=⟨_,x6 (by have:=(x4.1 a).1;omega)⟩;rw[kE hu a,kE hu a];have y:u≠t:=λhe=>by
    subst he;have z:=hW I p;have w:=hW I hu;rw[z] at w;have:=c7 w;omega
   have:u∈L++[t]↔u∈L:=by simp[y]
   by_cases e:u∈L
   .rw[if_pos e,if_pos (this.2 e)]
   .rw[if_neg e,if_neg λh=>e (this.1 h)]
def jW (s:aq) (i v:Nat) (c:Int):aq:=match s.vars[i]? with
 |some x=>{s with vars:=s.vars.set i {x with un:=x.un.set v c}}
 |none=>s
def jX (s:aq) (j m:Nat) (c:Int):aq:=match s.funs[j]? with
 |some f=>{s with funs:=s.funs.set j {f with cs:=f.cs.set m c}}
 |none=>s
theorem qW {i:Nat} (h:∀x∈l,0<=x/\x<=k) (e:0<=c/\c<=k):∀x∈l.set i c,0<=x/\x<=k:=λx a=>by
 rcases W3 a with a|rfl
 .exact h x a
 .exact e
def mO (w:x3) (ab ad:Nat) (A R:af) (n:aS) (s':aq) (t:aC) (v:x1) (w':x3):Prop:=v=Δ 0/\ae (eN w) w w'/\ ∃aI p x,Grow A w aI w'/\bQ w' ab ad aI R n s' (t.set p x)
theorem mO.ext {J:x3} {A R:af} {n:aS} {s':aq} {t:aC} {v:x1} (a:Ext w J) (h:mO J ab ad A R n s' t v w'):mO w ab ad A R n s' t v w':=by
 obtain⟨h1,e,aI,p,x,f,j⟩:=h;exact⟨h1,jT a e,aI,p,x,(Grow.ext a).trans f,j⟩
section
variable {w:x3} {ab ad:Nat} {A R:af} {n:aS} {s:aq} {t:aC}
theorem qX (h:bQ w ab ad A R n s t) (f:y<0\/¬(0<=c/\c<=n.k)):ai x7 zg [Γ ab,Δ y,Δ c] w λv w'=>v=Δ (if y<0 then 1 else 3)/\Ext w w':=by
 refine aw func181 ?_;rw[dp dO.u];simp only[Z7,aW];rw[aQ,ah];refine⟨λe=>⟨by rw[if_pos e],Ext.refl _⟩,λe=>?_⟩;refine (n8 h).mono ?_;rintro _ J _ ⟨rfl,j⟩;refine (jJ (a:=c) (k:=n.k)).mono ?_;rintro _ w2 _ ⟨rfl,p⟩;have q:=f.resolve_left e;rw[decide_eq_false (λh=>q h.2),bF,V0,bO,if_neg e];exact⟨rfl,j.trans p⟩
theorem w1 {s':aq} {p:Nat} (h:bQ w ab ad A R n s t) (f:Room t) (j:y=(p:Int)) (q:p<s.cells.length) (r:s.cells.set p c=s'.cells) (I:n0 s s') (x:br n.k n.sizes s') (z:0<=c/\c<=n.k):
  ai x7 zg [Γ ab,Δ y,Δ c] w (mO w ab ad A R n s' t):=by
 refine aw func181 ?_;rw[dp dO.u];simp only[Z7,aW];refine ca Ω ?_;refine (n8 h).mono ?_;rintro _ J _ ⟨rfl,B⟩;refine (jJ (a:=c) (k:=n.k)).mono ?_;rintro _ w2 _ ⟨rfl,C⟩;have e:=B.trans C;rw[decide_eq_true (show cv c n.k from⟨h.2.2.2.1.fV,z⟩),bF,Y5,aW];obtain⟨M,N,O,P,a7,Q,L,S,E,U,V,W,X,Y⟩:=(h.ext e).1.parts;rw[aO ct.p 1 E rfl];refine (DJ (h.ext e) j q r I x f).mono ?_;rintro _ Z _ ⟨rfl,G,aI,H,K⟩;exact mO.ext e ⟨rfl,G,aI,_,_,H,K⟩
theorem Oy (h:bQ w ab ad A R n s t) (e:Room t):ai x7 Hf [Γ ab,Δ c] w λv w'=>(¬(0<=c/\c<=n.k)->v=Δ 3/\Ext w w')/\((0<=c/\c<=n.k)->mO w ab ad A R n {s with zero:=c} t v w'):=by
 refine aw func126 ?_;by_cases a:0<=c/\c<=n.k
 .refine (w1 (p:=0) h e rfl (by unfold aq.cells iU;simp) (Nd s c) (CW s c) ⟨h.2.2.2.1.fV,h.2.2.2.1.e1,a,h.2.2.2.1.vars,h.2.2.2.1.var,h.2.2.2.1.funs⟩ a).mono ?_;rintro v J _ f;exact⟨λh=>absurd a h,λ_=>f⟩
 .refine (qX h (.inr a)).mono ?_;rintro v J _ ⟨rfl,j⟩;exact⟨λ_=>⟨rfl,j⟩,λh=>absurd h a⟩
theorem DO {i:Int} (h:bQ w ab ad A R n s t) (B:Room t):ai x7 He [Γ ab,Δ i,Δ v,Δ c] w λr w'=>
  (¬fX n i v->r=Δ 1/\Ext w w')/\(fX n i v->¬(0<=c/\c<=n.k)->r=Δ 3/\Ext w w')/\(fX n i v->(0<=c/\c<=n.k)->mO w ab ad A R n (jW s i.toNat v.toNat c) t r w'):=by
 refine aw func125 ?_;refine (wV h).mono ?_;rintro _ J _ ⟨rfl,e⟩;by_cases a:fX n i v
 .rw[if_pos a];by_cases j:0<=c/\c<=n.k
  .obtain⟨x,f,H,I,_⟩:=a.var h.2.2.2.1;have K:=h.2.2.2.1.vars;obtain⟨z,C⟩:∃z,n.sizes[i.toNat]? =σ z:=⟨_,x6 (by have:=a.1;have:=a.2.1;omega)⟩;obtain⟨_,E,hm⟩:=h.2.2.2.1.var i.toNat x z f C;have L:=tt f;have q:jW s i.toNat v.toNat c={s with vars:=s.vars.set i.toNat {x with un:=x.un.set v.toNat c}}:=by unfold jW;rw[f]
   refine (w1 (p:=e8 s i.toNat+(2+v.toNat)) (s':=jW s i.toNat v.toNat c) (h.ext e) B Ω Ω ?_ ?_ ?_ j).mono ?_
   .rw[q];refine CR f Ω ?_;rw[show 2+v.toNat=v.toNat+1+1 by omega];rfl
   .rw[q];exact CX f Ξ
   .rw[q];exact h.2.2.2.1.tv f Ξ (qW E j) hm
   .rintro r w2 _ G;exact⟨λh=>absurd a h,λ_ h=>absurd j h,λ_ _=>G.ext e⟩
  .refine (qX (h.ext e) (.inr j)).mono ?_;rintro r w2 _ ⟨rfl,y⟩;rw[if_neg Ω];exact⟨λh=>absurd a h,λ_ _=>⟨rfl,e.trans y⟩,λ_ h=>absurd h j⟩
 .rw[if_neg a];refine (qX (h.ext e) (.inl Ω)).mono ?_;rintro r w2 _ ⟨rfl,y⟩;rw[if_pos Ω];exact⟨λ_=>⟨rfl,e.trans y⟩,λh=>absurd h a,λh=>absurd h a⟩
theorem Oz (h:bQ w ab ad A R n s t) (C:Room t) (E:aF .i64 w aL tl):ai x7 Hd [Γ ab,Δ (j:Int),aL,Δ c] w λr w'=>
  (gB s j tl=ν->r=Δ 1/\Ext w w')/\((gB s j tl).isSome=true->¬(0<=c/\c<=n.k)->r=Δ 3/\Ext w w')/\
  ((gB s j tl).isSome=true->(0<=c/\c<=n.k)-> ∀f (m:Nat),s.funs[j]? =σ f->cH f.ac tl 0=σ (m:Int)->mO w ab ad A R n (jX s j m c) t r w'):=by
 refine aw func124 ?_;refine (DG h E).mono ?_;rintro _ J _ ⟨rfl,e⟩;cases G:gB s j tl with
 |none=>
  simp only;refine (qX (h.ext e) (.inl Ω)).mono ?_;rintro r w2 _ ⟨rfl,x⟩;rw[if_pos Ω];exact⟨λ_=>⟨rfl,e.trans x⟩,λh=>by simp at h,λh=>by simp at h⟩
 |some p=>
  simp only;by_cases q:0<=c/\c<=n.k
  .obtain⟨K,f,a,L,m,hm,M,rfl⟩:=DH h.2.2.2.1 G;have N:=DD a;have y:jX s j m c={s with funs:=s.funs.set j {f with cs:=f.cs.set m c}}:=by unfold jX;rw[a]
   obtain⟨H,_⟩:=h.2.2.2.1.funs f (x5 a);refine (w1 (p:=e9 s j+(m+1)) (s':=jX s j m c) (h.ext e) C rfl Ω ?_ ?_ ?_ q).mono ?_
   .rw[y];exact Nf a Ω rfl
   .rw[y];exact No a Ξ rfl rfl
   .rw[y];exact h.2.2.2.1.DI a rfl rfl Ξ (qW H.im q)
   .rintro r w2 _ I;refine⟨(λh=>by cases h),λ_ h=>absurd q h,λ_ _ O cm z B=>?_⟩;rw[a] at z;cases z;rw[hm] at B;have:cm=m:=by have:=c7 B;omega
    subst this;exact I.ext e
  .refine (qX (h.ext e) (.inr q)).mono ?_;rintro r w2 _ ⟨rfl,x⟩;rw[if_neg Ω];exact⟨(λh=>by cases h),λ_ _=>⟨rfl,e.trans x⟩,λ_ h=>absurd h q⟩
end
theorem l2 {s:aq} {n:aS} {i:Int} {b m:Nat} {x:bl} (h:tu s n i b m) (e:0<=i) (f:s.vars[i.toNat]? =σ x):(gq b m).map (λv:Nat=>(v:Int))=ax x:=by
 obtain⟨_,_,j⟩:=h;obtain⟨rfl,p⟩:=j x e f;unfold gq ax;rw[List.filter_map];congr 1;refine List.filter_congr λq a=>?_;have a:=List.mem_range.1 a;rw[p,decide_eq_true a,T3];rfl
section
variable {w:x3} {ab ad:Nat} {A R:af} {n:aS} {s:aq} {t:aC}
end
theorem OA {x:bl} (h:v∈ax x):0<=v/\v<x.un.length:=by
 unfold ax at h;obtain⟨h,_⟩:=T4.1 h;obtain⟨q,a,rfl⟩:=l7.1 h;have:=List.mem_range.1 a;omega
theorem OB {s:aq} {n:aS} {i:Int} {b m:Nat} {x:bl} (h:tu s n i b m) (f:0<=i) (j:s.vars[i.toNat]? =σ x):(decide (0<=v/\v<m)&&b.testBit v.toNat)=decide (v∈ax x):=by
 obtain⟨_,_,p⟩:=h;obtain⟨rfl,q⟩:=p x f j;by_cases a:0<=v/\v<x.un.length
 .rw[decide_eq_true a,T3,q,decide_eq_true (show v.toNat<x.un.length by omega),T3,show ((v.toNat:Nat):Int)=v by omega];have:=DL a;cases e:dropped x.mask v with
  |false=>rw[decide_eq_true (this.2 e)];rfl
  |true=>rw[decide_eq_false λh=>by rw[this.1 h] at e;cases e];rfl
 .rw[decide_eq_false a,decide_eq_false λh=>a (OA h)];rfl
section
variable {w:x3} {ab ad:Nat} {A R:af} {n:aS} {s:aq} {t:aC}
theorem w3 {f:b3} (h:bQ w ab ad A R n s t) (a:s.funs[j]? =σ f):ai x7 rR [Γ ab,Δ (j:Int)] w λr w'=>Ext w w'/\ ∃g,w.heap.size<=g/\ap .i64 ag w' g r f.sc:=by
 have I:=(x4.1 a).1;refine aw func120 ?_;refine aT (λv J=>v= .bool false/\Ext w J) ?_ ?_
 .rintro _ J ⟨rfl,e⟩;rw[aW];obtain⟨K,M,N,O,a7,P,L,Q,B,S,U,V,x,q⟩:=(h.ext e).1.parts;obtain⟨y,z⟩:∃y,L[j]? =σ y:=⟨_,x6 (by rw[q.1];omega)⟩;obtain⟨C,_,_⟩:=q.2 j y f z a;rw[aO ct.p 3 B rfl,db rfl ff.u dQ.i x (by rw[q.1];omega),aP dQ.p rfl,aB (v:=y.aD) Ψ (x.range z 0 _ rfl)];have W:f.sc.length<=6:=(h.2.2.2.1.funs f (x5 a)).1.scope.2;refine (kY C.ls Ω).mono ?_;rintro v w2 _ ⟨E,g,X,hm⟩;have:=e.size;exact⟨e.trans E,g,Ω,hm⟩
 intro au G;rw[aQ,ah];refine⟨λY=>Ω,λ_=>?_⟩;refine (wT h).mono ?_;rintro _ Z _ ⟨rfl,H⟩;rw[cU];exact G _ _ ⟨by rw[decide_eq_false Ω],H⟩
end
def cS (s:aq) (i:Int):Λ:=match s.vars[i.toNat]? with
 |some x=>ax x
 |none=>[]
section
variable {ab ad:Nat} {A R:af} {n:aS} {s:aq} {t:aC}
end
def h4 (s:aq) (pos:Nat) (v:Int):Λ->Nat->List (Λ)
 |[],_=>[]
 |u::sc,p=>(if p=pos then[v] else cS s u)::h4 s pos v sc (p+1)
def bX (s:aq) (sc:Λ) (pos:Nat) (v:Int):List (Λ):=iv (h4 s pos v sc 0)
def oa (s:aq) (pos:Nat) (v:Int):Λ->Nat->List (Int->Bool)
 |[],_=>[]
 |u::sc,p=>(λx=>(decide (p=pos->x=v))&&decide (x∈cS s u))::oa s pos v sc (p+1)
theorem OC (h:0<=v/\v<k):(hG k).filter (λx=>decide (x=v))=[v]:=by
 have f:(hG k).Nodup:=by
  unfold hG;exact List.Pairwise.map _ (λa b s=>Ω) List.nodup_range
 have hm:v∈hG k:=tA.2 h;generalize hG k=l at f hm;induction l with
 |nil=>cases hm
 |cons a l p=>
  have j:=List.nodup_cons.1 f;by_cases e:a=v
  .subst e;rw[List.filter_cons_of_pos Ξ,List.filter_eq_nil_iff.2 λx q=>by simp;intro r;exact j.1 (r▸q)]
  .rw[List.filter_cons_of_neg (by simpa using e)];exact p j.2 ((V1.1 hm).resolve_left (S8 e))
section
variable {k:Int} {sizes:Λ} {s:aq} {v:Int} {pos:Nat}
theorem OD {u:Int} (a:br k sizes s) (h:0<=u/\u<sizes.length):(hG (sizes.getD u.toNat 0)).filter (λx=>decide (x∈cS s u))=cS s u:=by
 have w:=a.vars;obtain⟨x,j⟩:=aE (l:=s.vars) (i:=u.toNat) Ω;obtain⟨z,f⟩:=aE (l:=sizes) (i:=u.toNat) Ω;have h1:=(a.var _ x z j f).1;have e:cS s u=ax x:=by unfold cS;rw[j]
 have p:sizes.getD u.toNat 0=z:=by rw[u4,f];rfl
 have A:=a.e1.2.2 z (x5 f);have q:ax x=(hG z).filter λv=>!dropped x.mask v:=by unfold ax hG;rw[h1]
 rw[e,p,q];refine List.filter_congr λy r=>?_;simp[T4,r]
theorem DP (r:br k sizes s):∀ (sc:Λ) (p:Nat),(∀u∈sc,0<=u/\u<sizes.length)->(∀u,p<=pos->sc[pos-p]? =σ u->v∈cS s u)->
  h4 s pos v sc p=(((bP sizes sc).map hG).zip (oa s pos v sc p)).map λq=>q.1.filter q.2
 |[],p,_,_=>rfl
 |u::sc,p,hu,w=>by
  have y:=DP r sc (p+1) (λu h=>hu u (.tail _ h)) λu' a h=>w u' Ω (by rw[show pos-p=(pos-(p+1))+1 by omega];exact h);have z:=hu u (.head _);have f:=OD (s:=s) r z;show (if p=pos then[v] else cS s u)::h4 s pos v sc (p+1)=(hG (sizes.getD u.toNat 0)).filter (λx=>decide (p=pos->x=v)&&decide (x∈cS s u))::((((bP sizes sc).map hG).zip (oa s pos v sc (p+1))).map λq=>q.1.filter q.2);rw[<-y];congr 1;by_cases a:p=pos
  .rw[if_pos a];have j:v∈cS s u:=w u Ω (by rw[a,U7];rfl);have A:v∈hG (sizes.getD u.toNat 0):=by rw[<-f] at j;exact (T4.1 j).1
   rw[<-OC (tA.1 A)];refine List.filter_congr λx _=>?_;by_cases e:x=v
   .subst e;simp[j]
   .simp[e,a]
  .rw[if_neg a,<-f];refine (List.filter_congr λx B=>?_).symm;rw[f];simp[a]
theorem DQ:∀ (sc:Λ) (p:Nat),(oa s pos v sc p).length=sc.length
 |[],_=>rfl
 |u::sc,p=>by unfold oa;rw[b8,DQ sc (p+1),b8]
theorem w4 (a:br k sizes s) (e:∀u∈sc,0<=u/\u<sizes.length) (f:∀u,sc[pos]? =σ u->v∈cS s u):
  bX s sc pos v=(a8 (bP sizes sc)).filter (mN (oa s pos v sc 0)):=by
 unfold bX;rw[DP a sc 0 e λu _ h=>f u h,DN _ _ (by rw[DQ,u7];unfold bP;rw[u7]),wZ]
end
theorem w5 {k:Int}:∀ (l:Λ) (z:Int),z<=k->(∀c∈l,0<=c)->l.foldl (λa c=>min (a+c) k) z=min (z+l.sum) k
 |[],z,h,_=>Θ
 |c::l,z,h,e=>by
  have I:∀ (l:Λ),(∀c∈l,0<=c)->0<=l.sum:=λl=>by
   induction l with
   |nil=>intro _;simp
   |cons a l f=>intro h;have:=f λc e=>h c (.tail _ e);have:=h a (.head _);rw[List.sum_cons];omega
  have h1:=e c (.head _);have j:=I l λc h=>e c (.tail _ h);rw[List.foldl_cons,w5 l _ Ω λc h=>e c (.tail _ h),List.sum_cons];omega
def dy (p:bl×Int):Int:=if p.1.gone≠0 then 0 else p.1.un.getD p.2.toNat 0
def fb (a:Λ) (f:b3):Int:=if f.live≠0 then ba f.ac f.cs (qJ a f.sc) else 0
theorem foldl_map' {α β e:Type} (g:α->β) (h:e->β->e) (h':e->α->e) (P:e->Prop) (ay:∀c a,P c->h' c a=h c (g a)) (f:∀c a,P c->P (h' c a)):∀ (l:List α) (c:e),P c->l.foldl h' c=(l.map g).foldl h c
 |[],_,_=>rfl
 |a::l,c,j=>by
  rw[List.foldl_cons,V7,List.foldl_cons,<-ay c a j];exact foldl_map' g h h' P ay f l _ (f c a j)
theorem w6 {i:Nat} {x:Int} (h:l[i]? =σ x):(l.set i y).sum=l.sum-x+y:=by
 induction l generalizing i with
 |nil=>simp at h
 |cons a l e=>
  cases i with
  |zero=>simp at h;subst h;rw[List.set_cons_zero,List.sum_cons,List.sum_cons];omega
  |succ i=>
   rw[List.set_cons_succ,List.sum_cons,List.sum_cons,e (by simpa using h)];omega
def cA (k a c:Int):Int:=if a=k then k else a-c
def cL (k a c:Int):Int:=min (a+c) k
theorem tB {r g u:Int} (a:0<=r) (e:c<=g/\g<=k) (hu:0<=u/\u<=k) (f:0<=c):min (r+cA k g c+cL k u c) k=min (r+g+u) k:=by
 unfold cA cL;split<;>omega
theorem qY:∀ (l:Λ),(∀c∈l,0<=c)->0<=l.sum
 |[],_=>Ξ
 |a::l,h=>by have:=qY l λc e=>h c (.tail _ e);have:=h a (.head _);rw[List.sum_cons];omega
theorem qZ:∀ {l:Λ} {i:Nat} {x:Int},(∀c∈l,0<=c)->l[i]? =σ x->x<=l.sum
 |[],_,_,_,h=>by simp at h
 |a::l,0,x,e,h=>by
  simp at h;subst h;have:=qY l λc h=>e c (.tail _ h);rw[List.sum_cons];omega
 |a::l,i+1,x,e,h=>by
  have:=qZ (λc h=>e c (.tail _ h)) (show l[i]? =σ x by simpa using h);have:=e a (.head _);rw[List.sum_cons];omega
theorem DR {i:Nat} (hk:0<=k) (h:∀c∈l,0<=c/\c<=k):0<=l.getD i 0/\l.getD i 0<=k:=by
 rw[u4];cases a:l[i]? with
 |none=>exact⟨Int.le_refl _,hk⟩
 |some c=>exact h c (x5 a)
theorem w7 {f:Int->Int} {cs:Λ} {m:Int} (I:dv ac) (h:cs.length=(a8 ac).length) (hi:cH ac t 0=σ m):ba ac (cZ f L ac cs) t=if t∈L then f (ba ac cs t) else ba ac cs t:=by
 have a:=mz I hi;have j:=(x4.1 a).1;obtain⟨c,e⟩:=aE (l:=cs) (i:=m.toNat) Ω;have h1:=kE (f:=f) (L:=L) a e;unfold ba;rw[hi];simp only;rw[u4,h1,u4,e,V8,V8]
section
variable {k:Int} {sizes a:Λ} {s:aq}
theorem OE {i:Nat} {p:bl×Int} (e:br k sizes s) (h:(s.vars.zip a)[i]? =σ p):0<=dy p/\dy p<=k:=by
 have hk:=e.fV;obtain⟨h1,_⟩:=List.getElem?_zip_eq_some.1 h;have f:=(x4.1 h1).1;have j:=e.vars;have:=e.var i p.1 _ h1 (x6 Ω);unfold dy;split
 .omega
 .exact DR Ω this.2.1
theorem OF {f:b3} (e:br k sizes s) (h:f∈s.funs):0<=fb a f/\fb a f<=k:=by
 have hk:=e.fV;have:=(e.funs f h).1.im;unfold fb;split
 .exact (te e.fV λc j=>⟨e.fV,this c j⟩).2
 .omega
theorem tC (e:br k sizes s):∀c∈(s.vars.zip a).map dy,0<=c:=λc f=>by
 obtain⟨p,h,rfl⟩:=l7.1 f;obtain⟨i,hi⟩:=X9.1 h;exact (OE e hi).1
theorem q0 (e:br k sizes s):∀c∈s.funs.map (fb a),0<=c:=λc f=>by
 obtain⟨p,h,rfl⟩:=l7.1 f;exact (OF e h).1
theorem ob (e:br k sizes s):hf k s a=if (s.vars.zip a).all ir then min (s.zero+((s.vars.zip a).map dy).sum+(s.funs.map (fb a)).sum) k else k:=by
 have h1:(s.vars.zip a).foldl (qK k) s.zero=((s.vars.zip a).map dy).foldl (λx c=>min (x+c) k) s.zero:=by
  refine foldl_map' dy (λx c=>min (x+c) k) (qK k) (λc=>c<=k) (λc p f=>?_) (λc p f=>?_) _ _ e.zero.2
  .unfold qK dy;split
   .omega
   .rfl
  .unfold qK;split
   .exact f
   .omega
 have h:∀z,z<=k->s.funs.foldl (qL k a) z=(s.funs.map (fb a)).foldl (λx c=>min (x+c) k) z:=λz j=>by
  refine foldl_map' (fb a) (λx c=>min (x+c) k) (qL k a) (λc=>c<=k) (λc p f=>?_) (λc p f=>?_) _ _ j
  .unfold qL fb;split
   .rfl
   .omega
  .unfold qL;split
   .omega
   .exact f
 unfold hf;split
 .rw[h1,w5 _ _ e.zero.2 (tC e),h _ Ω,w5 _ _ Ω (q0 e)];have:=qY _ (q0 (a:=a) e);omega
 .rfl
theorem tD {α β:Type}:∀ {l:List α} {m:List β} {i:Nat} {x:α} {y:β},m[i]? =σ y->(l.set i x).zip m=(l.zip m).set i (x,y)
 |[],_,_,_,_,_=>Ξ
 |_::_,[],_,_,_,h=>by simp at h
 |a::l,b::m,0,x,y,h=>by simp at h;subst h;rfl
 |a::l,b::m,i+1,x,y,h=>by
  rw[List.set_cons_succ,List.zip_cons_cons,List.zip_cons_cons,List.set_cons_succ,tD (by simpa using h)]
theorem tE {α:Type} {q:α->Bool}:∀ {l:List α} {i:Nat} {x y:α},l[i]? =σ x->q y=q x->(l.set i y).all q=l.all q
 |[],_,_,_,h,_=>by simp at h
 |a::l,0,x,y,h,e=>by simp at h;subst h;rw[List.set_cons_zero,List.all_cons,List.all_cons,e]
 |a::l,i+1,x,y,h,e=>by rw[List.set_cons_succ,List.all_cons,List.all_cons,tE (by simpa using h) e]
def ep (s:aq) (u:Nat) (x:bl) (un:Λ):aq:={s with vars:=s.vars.set u {x with un:=un}}
def dH (s:aq) (j:Nat) (f:b3) (cs:Λ):aq:={s with funs:=s.funs.set j {f with cs:=cs}}
theorem w8 {u:Nat} {x:bl} (a:br k sizes s) (e:s.vars[u]? =σ x) (f:un.length=x.un.length) (h:∀c∈un,0<=c/\c<=k):br k sizes (ep s u x un):=by
 have j:=(x4.1 e).1;have p:=a.vars;have h1:=a.var u x _ e (x6 Ω);exact a.tv e f h h1.2.2
theorem DS {f:b3} {cs:Λ} (a:br k sizes s) (e:s.funs[j]? =σ f) (h:cs.length=f.cs.length) (p:∀c∈cs,0<=c/\c<=k):br k sizes (dH s j f cs):=a.DI e rfl rfl h p
theorem OG {u:Nat} {x:bl} {f:b3} {cs:Λ} {bf:Int} (e:br k sizes s) (w:s.vars[u]? =σ x) (p:s.funs[j]? =σ f) (z:un.length=x.un.length) (A:∀c∈un,0<=c/\c<=k) (B:cs.length=f.cs.length) (C:∀c∈cs,0<=c/\c<=k) (y:a[u]? =σ bf)
  (h:(s.vars.zip a).all ir=true-> ∀r,0<=r->min (r+fb a {f with cs:=cs}+dy ({x with un:=un},bf)) k=min (r+fb a f+dy (x,bf)) k):hf k (ep (dH s j f cs) u x un) a=hf k s a:=by
 have E:=DS e p B C;have F:br k sizes (ep (dH s j f cs) u x un):=w8 E w z A;rw[ob F,ob e];have q:(s.vars.zip a)[u]? =σ (x,bf):=List.getElem?_zip_eq_some.2 ⟨w,y⟩;have G:((ep (dH s j f cs) u x un).vars.zip a)=(s.vars.zip a).set u ({x with un:=un},bf):=tD y;have H:((s.vars.zip a).set u ({x with un:=un},bf)).all ir=(s.vars.zip a).all ir:=tE q rfl;rw[G,H];split
 .rename_i I;have J:(((s.vars.zip a).set u ({x with un:=un},bf)).map dy).sum=((s.vars.zip a).map dy).sum-dy (x,bf)+dy ({x with un:=un},bf):=by
   rw[U9];exact w6 (by rw[x8,q];rfl)
  have K:((ep (dH s j f cs) u x un).funs.map (fb a)).sum=(s.funs.map (fb a)).sum-fb a f+fb a {f with cs:=cs}:=by
   show ((s.funs.set j {f with cs:=cs}).map (fb a)).sum=_;rw[U9];exact w6 (by rw[x8,p];rfl)
  have h1:=qZ (tC (a:=a) e) (i:=u) (x:=dy (x,bf)) (by rw[x8,q];rfl);have L:=qZ (q0 (a:=a) e) (i:=j) (x:=fb a f) (by rw[x8,p];rfl);have M:=e.zero.1;have N:=h I (s.zero+(((s.vars.zip a).map dy).sum-dy (x,bf))+((s.funs.map (fb a)).sum-fb a f)) Ω;rw[J,K];show min (s.zero+_+_) k=_;omega
 .rfl
end
theorem w9 {s:aq} {pos:Nat} {v:Int}:∀ (sc:Λ) (p q:Nat),(h4 s pos v sc p)[q]? =(sc[q]?).map λu=>if p+q=pos then[v] else cS s u
 |[],_,q=>by simp[h4]
 |u::sc,p,0=>by simp[h4]
 |u::sc,p,q+1=>by
  unfold h4;rw[List.getElem?_cons_succ,List.getElem?_cons_succ,w9 sc (p+1) q,show p+1+q=p+(q+1) by omega]
theorem DT {s:aq} {pos:Nat} {v:Int}:∀ (sc:Λ) (p:Nat),(h4 s pos v sc p).length=sc.length
 |[],_=>rfl
 |u::sc,p=>by unfold h4;rw[b8,DT sc (p+1),b8]
theorem xa {s:aq}:t∈bX s sc pos v↔t.length=sc.length/\ ∀ (p:Nat) u w,sc[p]? =σ u->t[p]? =σ w->if p=pos then w=v else w∈cS s u:=by
 unfold bX;rw[tz,DT];refine and_congr_right λ_=>⟨λh p u w hu hw=>?_,λh p d w a hw=>?_⟩
 .have:w∈if 0+p=pos then[v] else cS s u:=h p _ w (by rw[w9,hu];rfl) hw;rw[W0] at this;split
  .rename_i e;rw[if_pos e] at this;exact n9.1 this
  .rename_i e;rw[if_neg e] at this;exact this
 .rw[w9] at a;cases hu:sc[p]? with
  |none=>rw[hu] at a;cases a
  |some u=>
   rw[hu] at a;have a:(if 0+p=pos then[v] else cS s u)=d:=c7 a;subst a;have:=h p u w hu hw;rw[W0];split
   .rename_i e;rw[if_pos e] at this;exact n9.2 this
   .rename_i e;rw[if_neg e] at this;exact this
theorem gS {x:bl}:v∈ax x↔(0<=v/\v<x.un.length)/\dropped x.mask v=false:=by
 unfold ax;rw[T4];refine and_congr ?_ Ξ;have:=tA (k:=(x.un.length:Int)) (v:=v);unfold hG at this;rw[r8] at this;exact this
theorem DU {f:Int->Int} {cs:Λ} (I:dv ac) (q:∀c∈cs,0<=c/\c<=k) (r:∀t∈L,0<=f (ba ac cs t)/\f (ba ac cs t)<=k):∀c∈cZ f L ac cs,0<=c/\c<=k:=λc a=>by
 unfold cZ at a;obtain⟨p,s,rfl⟩:=l7.1 a;obtain⟨i,hi⟩:=X9.1 s;obtain⟨h1,h⟩:=List.getElem?_zip_eq_some.1 hi;split
 .rename_i w;have j:=r p.1 w;have e:ba ac cs p.1=p.2:=by
   unfold ba;rw[hW I h1];simp only;rw[r8,u4,h];rfl
  rw[e] at j;exact j
 .exact q _ (x5 h)
section
variable {k:Int} {sizes a:Λ} {s:aq}
def er (s:aq) (j:Nat) (f:b3) (pos u:Nat) (x:bl) (v:Int) (tup un:Int->Int):aq:=
 ep (dH s j f (cZ tup (bX s f.sc pos v) f.ac f.cs)) u x (x.un.set v.toNat (un (x.un.getD v.toNat 0)))
theorem js {f:b3} (e:br k sizes s) (q:f∈s.funs):dv f.ac/\f.cs.length=(a8 f.ac).length:=by
 obtain⟨a,h,_⟩:=e.funs f q;have j:dv f.ac:=by rw[h];exact la e.e1.2.2 λv p=>⟨(a.scope.1 v p).1,a.vars v p⟩
 refine⟨j,?_⟩;have h1:=a.len;rw[hU j,h];exact h1
theorem DV {u:Nat} {f:b3} {x:bl} {tup un:Int->Int} (a:br k sizes s) (e:s.funs[j]? =σ f) (h:s.vars[u]? =σ x)
  (p:∀t∈bX s f.sc pos v,0<=tup (ba f.ac f.cs t)/\tup (ba f.ac f.cs t)<=k) (q:0<=un (x.un.getD v.toNat 0)/\un (x.un.getD v.toNat 0)<=k):br k sizes (er s j f pos u x v tup un):=by
 obtain⟨r,y⟩:=js a (x5 e);have w:=(a.funs f (x5 e)).1;have z:=(x4.1 h).1;have A:=a.vars;have h1:=a.var u x _ h (x6 Ω);exact w8 (DS a e (jr _ _ _ _ Ω) (DU r w.im p)) h (by rw[Z5]) (qW h1.2.1 q)
theorem DW {u:Nat} {f:b3} {x:bl} {tup un:Int->Int} (p:br k sizes s) (Q:lh s a) (G:s.funs[j]? =σ f) (R:f.live≠0) (hu:f.sc[pos]? =σ (u:Int)) (B:s.vars[u]? =σ x) (Y:v∈ax x)
  (S:∀w∈f.sc,∀y,s.vars[w.toNat]? =σ y->y.gone=0) (Z:∀t∈bX s f.sc pos v,0<=tup (ba f.ac f.cs t)/\tup (ba f.ac f.cs t)<=k) (aa:0<=un (x.un.getD v.toNat 0)/\un (x.un.getD v.toNat 0)<=k)
  (ab:∀t∈bX s f.sc pos v,∀r,0<=r->min (r+tup (ba f.ac f.cs t)+un (x.un.getD v.toNat 0)) k=min (r+ba f.ac f.cs t+x.un.getD v.toNat 0) k):
  hf k (er s j f pos u x v tup un) a=hf k s a:=by
 obtain⟨H,ad⟩:=js p (x5 G);obtain⟨I,T,_⟩:=p.funs f (x5 G);have au:=(x4.1 B).1;have av:=p.vars;have h1:=p.var u x _ B (x6 Ω);have aw:=Q.1;obtain⟨bf,U⟩:=aE (l:=a) (i:=u) Ω;refine OG p B G (by rw[Z5]) (qW h1.2.1 aa) (jr _ _ _ _ Ω) (DU H I.im Z) U λae r af=>?_;have V:x.gone=0:=S u (x5 hu) x (by rw[r8];exact B);obtain⟨tl,C⟩:∃tl,tl=qJ a f.sc:=⟨_,rfl⟩;have J:∀ (q:Nat) w,f.sc[q]? =σ w-> ∃y,s.vars[w.toNat]? =σ y/\tl[q]? =σ (a.getD w.toNat 0)/\a.getD w.toNat 0∈ax y/\f.ac[q]? =σ (y.un.length:Int):=λq w hw=>by
  have hm:=x5 hw;have ay:=(I.scope.1 w hm).1;have az:=I.vars w hm;obtain⟨y,h⟩:=aE (l:=s.vars) (i:=w.toNat) Ω;obtain⟨z,K⟩:=aE (l:=sizes) (i:=w.toNat) Ω;obtain⟨L,M⟩:=aE (l:=a) (i:=w.toNat) Ω;have ag:=S w hm y h;have aA:=(p.var _ y z h K).1;have aB:=p.e1.2.2 z (x5 K);have e:a.getD w.toNat 0=L:=by rw[u4,M];rfl
  have W:=List.all_eq_true.1 ae (y,L) (x5 (List.getElem?_zip_eq_some.2 ⟨h,M⟩));have ah:=(Q.2 _ y L h M).resolve_left Ω;refine⟨y,h,by rw[C];unfold qJ;rw[x8,hw];rfl,?_,?_⟩
  .rw[e,gS];refine⟨ah,?_⟩;unfold ir at W;simpa[ag] using W
  .rw[T];unfold bP;rw[x8,hw,Z6,u4,K,V8];congr 1;omega
 have ai:tl.length=f.sc.length:=by rw[C];unfold qJ;rw[u7]
 have aC:f.ac.length=f.sc.length:=by rw[T];unfold bP;rw[u7]
 obtain⟨m,hm⟩:∃m,cH f.ac tl 0=σ m:=by
  have:tl∈a8 f.ac:=by
   rw[wZ,tz];refine⟨by rw[u7];omega,λq d w X hw=>?_⟩;obtain⟨b,A⟩:=aE (l:=f.sc) (i:=q) (by have:=(x4.1 hw).1;omega);obtain⟨y,_,N,O,aj⟩:=J q b A;rw[x8,aj] at X;cases X;rw[N] at hw;cases hw;exact tA.2 (gS.1 O).1
  obtain⟨i,hi⟩:=X9.1 this;exact⟨_,hW H hi⟩
 have ak:fb a f=ba f.ac f.cs tl:=by unfold fb;rw[if_pos R,C]
 have al:fb a {f with cs:=cZ tup (bX s f.sc pos v) f.ac f.cs}=if tl∈bX s f.sc pos v then tup (ba f.ac f.cs tl) else ba f.ac f.cs tl:=by
  rw[<-w7 H ad hm,C];unfold fb;rw[if_pos R]
 have am:dy (x,bf)=x.un.getD bf.toNat 0:=by unfold dy;rw[if_neg (by simp[V])]
 have an:dy ({x with un:=x.un.set v.toNat (un (x.un.getD v.toNat 0))},bf)=(x.un.set v.toNat (un (x.un.getD v.toNat 0))).getD bf.toNat 0:=by unfold dy;rw[if_neg (by simp[V])]
 obtain⟨y,h,E,P,_⟩:=J pos _ hu;rw[r8] at h E P;rw[B] at h;cases h;have ao:a.getD u 0=bf:=by rw[u4,U];rfl
 rw[ao] at E P;have aD:=(gS.1 Y).1;have aF:=(gS.1 P).1;rw[ak,al,am,an];by_cases he:bf=v
 .subst he;have F:tl∈bX s f.sc pos bf:=xa.2 ⟨ai,λq w b hw A=>by
   obtain⟨aG,ap,N,O,_⟩:=J q w hw;split
   .rename_i aq;subst aq;rw[E] at A;exact (c7 A).symm
   .rw[N] at A;cases A;unfold cS;rw[ap];exact O⟩
  rw[if_pos F,u4 (l:=x.un.set _ _),j9 Ω,V8];exact ab tl F r af
 .have F:tl∉bX s f.sc pos v:=λhm=>by
   have:=(xa.1 hm).2 pos _ bf hu E;rw[if_pos rfl] at this;exact he this
  rw[if_neg F,u4 (l:=x.un.set _ _),Y0 Ω,<-u4]
end
def dh (g:Int->Int) (un L:Λ):Λ:=L.foldl (λun v=>un.set v.toNat (g (un.getD v.toNat 0))) un
theorem kF {g:Int->Int}:∀ (L un:Λ),(dh g un L).length=un.length
 |[],_=>rfl
 |v::L,un=>by
  unfold dh;rw[List.foldl_cons];have:=kF (g:=g) L (un.set v.toNat (g (un.getD v.toNat 0)));unfold dh at this;rw[this,Z5]
theorem pn {g:Int->Int}:∀ (L un:Λ) (w:Int),L.Nodup->(∀v∈L,0<=v/\v<un.length)->0<=w->(dh g un L).getD w.toNat 0=if w∈L then g (un.getD w.toNat 0) else un.getD w.toNat 0
 |[],un,w,_,_,_=>by simp[dh]
 |v::L,un,w,j,a,hw=>by
  obtain⟨h1,p⟩:=List.nodup_cons.1 j;have r:=a v (.head _);have q:=pn (g:=g) L (un.set v.toNat (g (un.getD v.toNat 0))) w p (λu hu=>by rw[Z5];exact a u (.tail _ hu)) hw;have e:dh g un (v::L)=dh g (un.set v.toNat (g (un.getD v.toNat 0))) L:=rfl;rw[e,q];by_cases f:w=v
  .subst f;have I:(un.set w.toNat (g (un.getD w.toNat 0))).getD w.toNat 0=g (un.getD w.toNat 0):=by
    rw[u4 (l:=un.set _ _),j9 Ω];rfl
   rw[if_neg h1,if_pos (.head _),I]
  .have I:(un.set v.toNat (g (un.getD v.toNat 0))).getD w.toNat 0=un.getD w.toNat 0:=by
    rw[u4 (l:=un.set _ _),Y0 Ω,<-u4]
   rw[I];by_cases hm:w∈L
   .rw[if_pos hm,if_pos (.tail _ hm)]
   .rw[if_neg hm,if_neg λh=>(V1.1 h).elim f hm]
theorem mP (x:bl):(ax x).Nodup:=by
 unfold ax;refine List.Nodup.sublist List.filter_sublist ?_;exact List.Pairwise.map _ (λa b e=>Ω) List.nodup_range
theorem DX {k:Int} {g:Int->Int}:∀ (L un:Λ),(∀c∈un,0<=c/\c<=k)->L.Nodup->(∀v∈L,0<=v/\v<un.length)->(∀v∈L,0<=g (un.getD v.toNat 0)/\g (un.getD v.toNat 0)<=k)-> ∀c∈dh g un L,0<=c/\c<=k
 |[],un,h,_,_,_,c,a=>h c a
 |v::L,un,h,p,f,j,c,a=>by
  obtain⟨h1,q⟩:=List.nodup_cons.1 p;have r:=f v (.head _);refine DX (g:=g) L (un.set v.toNat (g (un.getD v.toNat 0))) (qW h (j v (.head _))) q (λu hu=>by rw[Z5];exact f u (.tail _ hu)) (λu hu=>?_) c a;have s:u≠v:=λe=>h1 (e▸hu);have w:=f u (.tail _ hu);rw[u4 (l:=un.set _ _),Y0 Ω,<-u4];exact j u (.tail _ hu)
section
variable {k:Int} {sizes a:Λ} {s:aq}
def fp (s:aq) (u:Nat) (x:bl) (g z:Int->Int):aq:={ep s u x (dh g x.un (ax x)) with zero:=z s.zero}
theorem br.OH (a:br k sizes s) (h:0<=c/\c<=k):br k sizes {s with zero:=c}:=⟨a.fV,a.e1,h,a.vars,a.var,a.funs⟩
theorem xb {u:Nat} {x:bl} {g z:Int->Int} (a:br k sizes s) (e:s.vars[u]? =σ x) (f:∀v∈ax x,0<=g (x.un.getD v.toNat 0)/\g (x.un.getD v.toNat 0)<=k) (h:0<=z s.zero/\z s.zero<=k):br k sizes (fp s u x g z):=by
 have p:=(x4.1 e).1;have q:=a.vars;have h1:=a.var u x _ e (x6 Ω);exact (w8 a e (kF _ _) (DX _ _ h1.2.1 (mP x) (λv j=>(gS.1 j).1) f)).OH h
theorem DY {u:Nat} {x:bl} {g z:Int->Int} (e:br k sizes s) (q:lh s a) (f:s.vars[u]? =σ x) (j:x.gone=0) (C:∀v∈ax x,0<=g (x.un.getD v.toNat 0)/\g (x.un.getD v.toNat 0)<=k) (E:0<=z s.zero/\z s.zero<=k)
  (F:∀v∈ax x,∀r,0<=r->min (r+g (x.un.getD v.toNat 0)+z s.zero) k=min (r+x.un.getD v.toNat 0+s.zero) k):hf k (fp s u x g z) a=hf k s a:=by
 have G:=xb e f C E;have O:=(x4.1 f).1;have P:=e.vars;have Q:=q.1;obtain⟨bf,p⟩:=aE (l:=a) (i:=u) Ω;rw[ob G,ob e];have h:(s.vars.zip a)[u]? =σ (x,bf):=List.getElem?_zip_eq_some.2 ⟨f,p⟩;obtain⟨un,w⟩:∃un,un=dh g x.un (ax x):=⟨_,rfl⟩;have H:((fp s u x g z).vars.zip a)=(s.vars.zip a).set u ({x with un:=un},bf):=by rw[w];exact tD p
 have I:((s.vars.zip a).set u ({x with un:=un},bf)).all ir=(s.vars.zip a).all ir:=tE h rfl;rw[H,I];split
 .rename_i J;have K:(((s.vars.zip a).set u ({x with un:=un},bf)).map dy).sum=((s.vars.zip a).map dy).sum-dy (x,bf)+dy ({x with un:=un},bf):=by
   rw[U9];exact w6 (by rw[x8,h];rfl)
  have h1:=qZ (tC (a:=a) e) (i:=u) (x:=dy (x,bf)) (by rw[x8,h];rfl);have R:=qY _ (q0 (a:=a) e);have y:=List.all_eq_true.1 J (x,bf) (x5 h);have A:=(q.2 _ x bf f p).resolve_left Ω;have B:bf∈ax x:=by
   rw[gS];refine⟨A,?_⟩;unfold ir at y;simpa[j] using y
  have L:dy (x,bf)=x.un.getD bf.toNat 0:=by unfold dy;rw[if_neg (by simp[j])]
  have M:dy ({x with un:=un},bf)=g (x.un.getD bf.toNat 0):=by
   unfold dy;rw[if_neg (by simp[j])];show un.getD bf.toNat 0=_;rw[w,pn _ _ _ (mP x) (λv N=>(gS.1 N).1) A.1,if_pos B]
  rw[K,M];rw[L] at h1 ⊢;have S:=F bf B (((s.vars.zip a).map dy).sum-x.un.getD bf.toNat 0+(s.funs.map (fb a)).sum) Ω;show min (z s.zero+_+(s.funs.map (fb a)).sum) k=_;omega
 .rfl
theorem OI {m:Nat} {w:Int} (a:0<=v) (hw:0<=w):dropped ((m ||| 2 ^ v.toNat:Nat):Int) w=(dropped (m:Int) w||decide (w=v)):=by
 unfold dropped;rw[r8,r8,Nat.testBit_or,Nat.testBit_two_pow];congr 1;exact decide_eq_decide.2 ⟨λh=>Ω,λh=>Ω⟩
theorem mQ {i:Nat} {x:bl} (a:s.vars[i]? =σ x):e2 s i v.toNat={s with vars:=s.vars.set i {x with mask:=((x.mask.toNat ||| 2 ^ v.toNat:Nat):Int)}}:=by
 unfold e2;rw[a]
theorem xc {i:Nat} {x:bl} (a:br k sizes s) (e:s.vars[i]? =σ x) (j:0<=v/\v<x.un.length):br k sizes (e2 s i v.toNat):=by
 rw[mQ e];have p:=(x4.1 e).1;have q:=a.vars;have h1:=a.var i x _ e (x6 Ω);have r:=a.e1.2.2 _ (Q4 (l:=sizes) (n:=i) Ω);refine a.tv e rfl h1.2.1 ⟨by simp only;omega,?_⟩;have f:x.mask.toNat<2 ^ 32:=by have:=h1.2.2;omega
 have h:2 ^ v.toNat<2 ^ 32:=Nat.pow_lt_pow_right Ω Ω;have:=Nat.or_lt_two_pow f h;simp only;omega
theorem DZ {i:Nat} {bf:Int} {x:bl} (j:br k sizes s) (C:lh s a) (f:s.vars[i]? =σ x) (E:x.gone=0) (z:0<=v/\v<x.un.length) (p:a[i]? =σ bf):hf k (e2 s i v.toNat) a=if bf=v then k else hf k s a:=by
 have F:=xc j f z;rw[ob F,ob j];have r:(s.vars.zip a)[i]? =σ (x,bf):=List.getElem?_zip_eq_some.2 ⟨f,p⟩;have G:=(C.2 _ x bf f p).resolve_left Ω;obtain⟨y,w⟩:∃y:bl,y={x with mask:=((x.mask.toNat ||| 2 ^ v.toNat:Nat):Int)}:=⟨_,rfl⟩;have H:((e2 s i v.toNat).vars.zip a)=(s.vars.zip a).set i (y,bf):=by rw[mQ f,w];exact tD p
 have A:(e2 s i v.toNat).zero=s.zero/\(e2 s i v.toNat).funs=s.funs:=by rw[mQ f];exact⟨rfl,rfl⟩
 have B:ir (y,bf)=(ir (x,bf)&&decide (bf≠v)):=by
  unfold ir;rw[w];simp only[E];rw[OI z.1 G.1];have hm:((x.mask.toNat:Nat):Int)=x.mask:=by
   have N:=(x4.1 f).1;have O:=j.vars;have h1:=j.var i x _ f (x6 Ω);omega
  rw[hm];by_cases e:bf=v
  .simp[e]
  .simp[e]
 rw[H,A.1,A.2];by_cases e:bf=v
 .rw[if_pos e,if_neg];intro I;have:=List.all_eq_true.1 I (y,bf) (x5 (j9 (x4.1 r).1));rw[B] at this;simp[e] at this
 .have J:((s.vars.zip a).set i (y,bf)).all ir=(s.vars.zip a).all ir:=tE r (by rw[B];simp[e]);have K:((s.vars.zip a).set i (y,bf)).map dy=(s.vars.zip a).map dy:=by
   rw[U9];have L:dy (y,bf)=dy (x,bf):=by rw[w];rfl
   rw[L];refine Y6 λq=>?_;rw[X6];split
   .rename_i M;subst M;split
    .rw[x8,r];rfl
    .rename_i h;rw[Z4 Ω]
   .rfl
  rw[if_neg e,J,K]
theorem OJ {i:Nat} {bf:Int} {x:bl} (h:lh s a) (e:s.vars[i]? =σ x) (j:x.gone=0) (f:a[i]? =σ bf) (p:bf∉ax x):hf k s a=k:=by
 have q:=(h.2 _ x bf e f).resolve_left Ω;unfold hf;rw[if_neg];intro r;have:=List.all_eq_true.1 r (x,bf) (x5 (List.getElem?_zip_eq_some.2 ⟨e,f⟩));unfold ir at this;have w:dropped x.mask bf=false:=by simpa[j] using this
 exact p (gS.2 ⟨q,w⟩)
end
section
variable {A:Nat->af} {B R:af} {w:x3} {cs xs:List x1} {gs:Nat} {y v:x1} {k zero:Int} {sizes:Λ} {D:List (Λ)} {G:List Bool} {aR:List (Λ)} {H:List hl} {E:List jq} {K:x3->Prop} {Z:af}
theorem bz.OK {a:Λ} {ab:r9} (h:bz true A R w cs k sizes zero D G aR H E) (N:aa w gs aG cs) (x:cs[3]? =σ v) (z:∀j r,A j r->gs<r\/Z r) (f:∀r,Z r->r<gs/\A 4 r) (s:∀r,R r->r<gs) (I:b7 w 1 y 1 xs) (ac:bj B R w xs a) (q:∀r,r<w.heap.size->B r->(∀j,¬A j r)/\gs<r) (au:D.length<=1000)
  (ad:∀aI bI w',ae (λr=>gs<=r) w w'->aa w' gs aG bI->bz true aI R w' bI k sizes zero (D++[a]) G aR H E->(∀j r,aI j r->gs<r\/Z r)->(∀r,Z r->r<gs/\aI 4 r)->(∀j,j≠3->bI[j]? =cs[j]?)->K w'):
  av x7 (b9 #[cu,cu] ab #[v,y]) w λO w2=>V x7 (u6 aG (Γ gs) 3) w2 λaf=>av x7 (o5 cu af O) w2 λ_ C=>K C:=by
 have P:=h.old;have ag:∀i j r,i≠j->A i r->¬A j r:=by obtain⟨_,_,_,_,_,_,_,_,_,_,_,_,_,ah⟩:=id h;exact (ah rfl).1
 have Q:∀r,A 0 r->gs<r:=λr h=>(z 0 r h).resolve_right λF=>ag 0 4 r Ω h (f r F).2;have S:∀j,¬A j gs:=λj h=>(z j gs h).elim (λh=>Ω) λh=>by have:=(f gs h).1;omega
 have ai:=N.lt;obtain⟨szv,ak,aw,ax,ay,U,am,h1,F,az,aA,aB,aC,J⟩:=id P;obtain⟨J,W⟩:=J rfl;have U:v=ak:=by rw[am] at x;exact (c7 x).symm
 subst U;have an:bj (λr=>B r/\r<w.heap.size) R w xs a:=aj.mono ac (λr e h=>⟨h,e⟩) λ_ _ h=>h;refine n5 (pl:=_) (l:=D) aG.p rfl cu.u cu.i al.i rfl N x F I an (λr e X=>⟨λao=>(q r e ao.1).1 0 X.1,W 0 r X⟩) ⟨λh=>S 0 h.1,λh=>by have:=(q gs ai h.1).2;omega,λh=>by have:=s gs h;omega⟩ Ω Ω λO C Y ap aq=>?_;refine ad _ _ C (Y.mono λr _ h=>h.elim (λh=>by have:=Q r h.1;omega) λh=>Ω) ap (P.wQ Y (λr e=>?_) aq (λj r L e=>?_) λr e=>?_) (λj r e=>?_) (λr M=>⟨(f r M).1,?_⟩) λj L=>?_
 .rcases e with e|rfl
  .exact .inl e
  .exact .inr ⟨λj h=>S j h.1,λh=>by have:=s r h;omega⟩
 .rcases e with e|e|e
  .exact J 0 j r (S8 L) e
  .exact λh=>(q r e.2 e.1).1 j h.1
  .exact λh=>by have:=h.2;omega
 .rcases e with e|e|e
  .exact W 0 r e
  .exact λh=>by have:=(q r e.2 e.1).2;have:=s r h;omega
  .exact λh=>by have:=s r h;omega
 .unfold fa at e;split at e
  .rcases e with e|e|e
   .exact .inl (Q r e.1)
   .exact .inl (q r e.2 e.1).2
   .exact .inl Ω
  .exact z j r e.1
 .unfold fa;rw[if_neg Ω];exact⟨(f r M).2,by have:=(f r M).1;omega⟩
 .rw[Y0 (S8 L)]
theorem bz.OL {a:Λ} {ab:r9} (h:bz true A R w cs k sizes zero D G aR H E) (M:aa w gs aG cs) (x:cs[5]? =σ v) (z:∀j r,A j r->gs<r\/Z r) (f:∀r,Z r->r<gs/\A 4 r) (s:∀r,R r->r<gs) (I:b7 w 1 y 1 xs) (ac:bj B R w xs a) (q:∀r,r<w.heap.size->B r->(∀j,¬A j r)/\gs<r) (aw:aR.length<=1000)
  (ad:∀aI bI w',ae (λr=>gs<=r) w w'->aa w' gs aG bI->bz true aI R w' bI k sizes zero D G (aR++[a]) H E->(∀j r,aI j r->gs<r\/Z r)->(∀r,Z r->r<gs/\aI 4 r)->(∀j,j≠5->bI[j]? =cs[j]?)->K w'):
  av x7 (b9 #[dn,dn] ab #[v,y]) w λN w2=>V x7 (u6 aG (Γ gs) 5) w2 λaf=>av x7 (o5 dn af N) w2 λ_ C=>K C:=by
 have O:=h.old;have ag:∀i j r,i≠j->A i r->¬A j r:=by obtain⟨_,_,_,_,_,_,_,_,_,_,_,_,_,ah⟩:=id h;exact (ah rfl).1
 have P:∀r,A 2 r->gs<r:=λr h=>(z 2 r h).resolve_right λQ=>ag 2 4 r Ω h (f r Q).2;have S:∀j,¬A j gs:=λj h=>(z j gs h).elim (λh=>Ω) λh=>by have:=(f gs h).1;omega
 have ai:=M.lt;obtain⟨szv,ax,ay,ak,az,U,al,h1,Q,aA,am,aB,aC,F⟩:=id O;obtain⟨F,W⟩:=F rfl;have U:v=ak:=by rw[al] at x;exact (c7 x).symm
 subst U;have ao:bj (λr=>B r/\r<w.heap.size) R w xs a:=aj.mono ac (λr e h=>⟨h,e⟩) λ_ _ h=>h;refine n5 (pl:=_) (l:=aR) aG.p rfl dn.u dn.i an.i rfl M x am I ao (λr e X=>⟨λap=>(q r e ap.1).1 2 X.1,W 2 r X⟩) ⟨λh=>S 2 h.1,λh=>by have:=(q gs ai h.1).2;omega,λh=>by have:=s gs h;omega⟩ Ω Ω λN C Y aq au=>?_;refine ad _ _ C (Y.mono λr _ h=>h.elim (λh=>by have:=P r h.1;omega) λh=>Ω) aq (O.jW Y (λr e=>?_) au (λj r J e=>?_) λr e=>?_) (λj r e=>?_) (λr L=>⟨(f r L).1,?_⟩) λj J=>?_
 .rcases e with e|rfl
  .exact .inl e
  .exact .inr ⟨λj h=>S j h.1,λh=>by have:=s r h;omega⟩
 .rcases e with e|e|e
  .exact F 2 j r (S8 J) e
  .exact λh=>(q r e.2 e.1).1 j h.1
  .exact λh=>by have:=h.2;omega
 .rcases e with e|e|e
  .exact W 2 r e
  .exact λh=>by have:=(q r e.2 e.1).2;have:=s r h;omega
  .exact λh=>by have:=s r h;omega
 .unfold fa at e;split at e
  .rcases e with e|e|e
   .exact .inl (P r e.1)
   .exact .inl (q r e.2 e.1).2
   .exact .inl Ω
  .exact z j r e.1
 .unfold fa;rw[if_neg Ω];exact⟨(f r L).2,by have:=(f r L).1;omega⟩
 .rw[Y0 (S8 J)]
theorem bz.OM {a:hl} {ab:r9} (h:bz true A R w cs k sizes zero D G aR H E) (M:aa w gs aG cs) (x:cs[6]? =σ v) (z:∀j r,A j r->gs<r\/Z r) (f:∀r,Z r->r<gs/\A 4 r) (s:∀r,R r->r<gs) (I:b7 w 4 y 1 xs) (ac:bj B R w xs a) (q:∀r,r<w.heap.size->B r->(∀j,¬A j r)/\gs<r) (au:H.length<=1000)
  (ad:∀aI bI w',ae (λr=>gs<=r) w w'->aa w' gs aG bI->bz true aI R w' bI k sizes zero D G aR (H++[a]) E->(∀j r,aI j r->gs<r\/Z r)->(∀r,Z r->r<gs/\aI 4 r)->(∀j,j≠6->bI[j]? =cs[j]?)->K w'):
  av x7 (b9 #[dP,dP] ab #[v,y]) w λN w2=>V x7 (u6 aG (Γ gs) 6) w2 λaf=>av x7 (o5 dP af N) w2 λ_ C=>K C:=by
 have O:=h.old;have ag:∀i j r,i≠j->A i r->¬A j r:=by obtain⟨_,_,_,_,_,_,_,_,_,_,_,_,_,ah⟩:=id h;exact (ah rfl).1
 have P:∀r,A 3 r->gs<r:=λr h=>(z 3 r h).resolve_right λQ=>ag 3 4 r Ω h (f r Q).2;have S:∀j,¬A j gs:=λj h=>(z j gs h).elim (λh=>Ω) λh=>by have:=(f gs h).1;omega
 have ai:=M.lt;obtain⟨szv,aw,ax,ay,ak,U,al,h1,Q,az,aA,am,aB,F⟩:=id O;obtain⟨F,W⟩:=F rfl;have U:v=ak:=by rw[al] at x;exact (c7 x).symm
 subst U;have an:bj (λr=>B r/\r<w.heap.size) R w xs a:=aj.mono ac (λr e h=>⟨h,e⟩) λ_ _ h=>h;refine n5 (pl:=_) (l:=H) aG.p rfl dP.u dP.i cT.i rfl M x am I an (λr e X=>⟨λao=>(q r e ao.1).1 3 X.1,W 3 r X⟩) ⟨λh=>S 3 h.1,λh=>by have:=(q gs ai h.1).2;omega,λh=>by have:=s gs h;omega⟩ Ω Ω λN C Y ap aq=>?_;refine ad _ _ C (Y.mono λr _ h=>h.elim (λh=>by have:=P r h.1;omega) λh=>Ω) ap (O.jX Y (λr e=>?_) aq (λj r J e=>?_) λr e=>?_) (λj r e=>?_) (λr L=>⟨(f r L).1,?_⟩) λj J=>?_
 .rcases e with e|rfl
  .exact .inl e
  .exact .inr ⟨λj h=>S j h.1,λh=>by have:=s r h;omega⟩
 .rcases e with e|e|e
  .exact F 3 j r (S8 J) e
  .exact λh=>(q r e.2 e.1).1 j h.1
  .exact λh=>by have:=h.2;omega
 .rcases e with e|e|e
  .exact W 3 r e
  .exact λh=>by have:=(q r e.2 e.1).2;have:=s r h;omega
  .exact λh=>by have:=s r h;omega
 .unfold fa at e;split at e
  .rcases e with e|e|e
   .exact .inl (P r e.1)
   .exact .inl (q r e.2 e.1).2
   .exact .inl Ω
  .exact z j r e.1
 .unfold fa;rw[if_neg Ω];exact⟨(f r L).2,by have:=(f r L).1;omega⟩
 .rw[Y0 (S8 J)]
end
def l3 (w:x3) (g:Nat) (k:Int) (sizes:Λ) (s:aq):Prop:=∃szv a e f h j,aa w g aG [Δ k,szv,Δ s.zero,a,e,f,h,j]/\aF .i64 w szv sizes/\Seen ek w [szv] sizes/\
 Seen ek w [a] (s.vars.map ax)/\Seen ek w [e] (s.vars.map λx=>decide (x.gone≠0))/\Seen ek w [f] (s.vars.map (·.un))/\Seen ek w [h] (s.funs.map fW)/\Seen ek w [j] (s.ce.map l1)
section
variable {w w':x3} {g:Nat} {v:x1} {k:Int} {sizes:Λ} {s:aq}
theorem l3.ext (h:l3 w g k sizes s) (a:Ext w w'):l3 w' g k sizes s:=by
 obtain⟨szv,e,f,j,p,q,r,h1,x,y,z,A,B,C⟩:=h;exact⟨szv,e,f,j,p,q,r.ext a,h1.ext a,bd x a,bd y a,bd z a,bd A a,bd B a,bd C a⟩
theorem ho.box (h:ho w v k sizes s) (f:Ext w w') (j:aa w' g aG v.cells.toList):l3 w' g k sizes s:=by
 obtain⟨cs,rfl,szv,z,B,C,E,F,rfl,h1,p,q,r,x,y,_⟩:=h;obtain⟨_,_,_,G⟩:=du (cN h1);have c:∀ {α:Type} [aj α] {v:x1} {l:List α} {A:af},aj.rep false A ek w [v] l-> ∃a n c,v= .slice a n c:=λh=>by
  obtain⟨_,_,_,_,_,⟨_,b,o,base,cap,e,_⟩,_⟩:=ia h;exact⟨_,_,_,e⟩
 obtain⟨_,_,_,H⟩:=c p;obtain⟨_,_,_,I⟩:=c q;obtain⟨_,_,_,J⟩:=c r;obtain⟨_,_,_,K⟩:=c x;obtain⟨_,_,_,L⟩:=c y;refine⟨szv,z,B,C,E,F,?_,(cN h1).ext f,bd h1 f,bd p f,bd q f,bd r f,bd x f,bd y f⟩;rw[G,H,I,J,K,L] at j ⊢;exact j
theorem l3.load {K:x1->Prop} (h:l3 w g k sizes s) (a:∀u,ho w u k sizes s->K u):V x7 (u5 aG (Γ g)) w K:=by
 obtain⟨szv,e,f,j,q,r,x,h1,y,z,A,B,C,E⟩:=h;rw[bx aG.p aG.i rfl x.range];exact a _ ⟨_,rfl,szv,e,f,j,q,r,rfl,y,z,A,B,C,E,λh=>by cases h⟩
theorem D0 {i:Int} (h:ho w v k sizes s):ai x7 F4 [v,Δ i] w λr w'=>r= .bool (decide (0<=i/\i<sizes.length))/\Ext w w':=by
 refine aw func22 ?_;refine bn λg1 J x a e=>?_;obtain⟨szv,y,z,A,B,C,e,q,_⟩:=h.box a e;refine aT (λv w2=>v= .bool (decide (0<=i/\i<sizes.length))/\Ext w w2) (λ_ _ h=>h) λau f=>?_;rw[cU,ah];refine⟨λj=>?_,λj=>f _ _ ⟨by rw[decide_eq_false];omega,a⟩⟩;rw[az aG.p 1 e rfl,aX al.u q,aQ];refine f _ _ ⟨?_,a⟩;congr 1;exact decide_eq_decide.2 ⟨λh=>⟨j,h⟩,λh=>h.2⟩
theorem mR {S R:af} {f:b3} (h:aj.rep (α:=hl) m S R w cs (fW f)):∃aD szv aY,cs=[aD,szv,aY,.bool (decide (f.live≠0))]/\Seen ek w [aD] f.sc/\Seen ek w [szv] f.ac/\Seen ek w [aY] f.cs:=by
 obtain⟨c1,c2,A,B,rfl,_,_,_,⟨p,z,aI,C,rfl,_,_,_,h1,q,r,E,gw,rfl,_,_,_,a,e⟩,j⟩:=h;have one:∀ {α:Type} [aj α] {m:Bool} {S R:af} {c:List x1} {l:List α},aj.rep m S R w c l-> ∃v,c=[v]:=λh=>by obtain⟨v,s,_⟩:=h;exact⟨v,s⟩
 have h1:Seen _ w p f.sc:=h1;have a:Seen _ w q f.ac:=a;have j:c2=[.bool (decide (f.live≠0))]:=j;have e:aj.rep m gw R w r f.cs:=e;obtain⟨x,rfl⟩:=one h1;obtain⟨y,rfl⟩:=one a;obtain⟨v3,rfl⟩:=one e;subst j;exact⟨x,y,v3,rfl,gK h1,gK a,gK e⟩
theorem ON {j:Int} (h:ho w v k sizes s):ai x7 Hj [v,Δ j] w λr w'=>r= .bool (decide (0<=j)&&gA s j.toNat)/\Ext w w':=by
 refine aw func130 ?_;refine bn λg1 J C a e=>?_;obtain⟨szv,E,G,H,I,K,e,L,_,_,_,_,y,_⟩:=h.box a e;refine aT (λv w2=>v= .bool (decide (0<=j)&&gA s j.toNat)/\Ext w w2) (λ_ _ h=>h) λau q=>?_;rw[cU,ah];refine⟨λx=>?_,λx=>q _ _ ⟨by rw[decide_eq_false x];rfl,a⟩⟩;rw[az aG.p 6 e rfl,fC dP.u y,aQ,ah,u7];refine⟨λM=>?_,λN=>q _ _ ⟨by unfold gA;rw[Z4 Ω,Bool.and_false],a⟩⟩;obtain⟨f,z⟩:=aE (l:=s.funs) (i:=j.toNat) Ω;rw[az aG.p 6 e rfl];refine ib (i:=j.toNat) Ω dP.u cT.i y (by rw[x8,z];rfl) λb o cs A B=>?_;obtain⟨O,P,v3,rfl,_⟩:=mR B;rw[aP cT.p rfl,aB (v:=.bool (decide (f.live≠0))) Ψ (A 3 _ rfl)];exact q _ _ ⟨by unfold gA;rw[z,decide_eq_true x,T3],a⟩
end
end Go.Proofs.YtjjhhcfgfdepdaaGreatDoor
namespace Go.Vc
open Go Go.RowKit
section
variable {P:W9} {w:x3} {α:Type} [aj α] {S R:af}
theorem q1 {t:r9} {b:Nat} (f:P.underlying t=σ (.slice e)) (hi:aN P e (aj.n α) b z)
  (j:∀v w',Ext w w'->bj (λr=>w.heap.size<=r) R w' [v] ([]:List α)->K v w'):av P (Y4 t 0 #[]) w K:=
 jG f hi Ω (cs:=#[]) (by simp[Instr.fill]) λg w' x p q=>j _ w' p (by
  have hm:bV w' g e (aj.n α) (.slice (σ ⟨g,0,ν⟩) 0 0) 0 []:=bV.full (by simpa using q) Ξ (by simp[maxLen]);exact⟨_,rfl,[],g,λ_ _=>False,⟨λ_ _ h=>h.elim,λ_ _ h=>h,λ_ _ _ _ _ h=>h.elim⟩,⟨rfl,λi c a s=>by simp at s⟩,ny hm (.inr (.inl Ω)),λ_=>⟨.inr Ω,e,hm⟩⟩)
theorem q2 {t p:r9} {b:Nat} {v x:x1} {S':af} {l':List α} (j:P.underlying t=σ (.slice e)) (hi:aN P e (aj.n α) b z) (q:z.cells.size=aj.n α)
  (h:bj S R w [v] ([]:List α)) (s:aj.rep m S' R w [x] l') (y:∀ {F:af} {c:List x1} {a:α},aj.rep m F R w c a->bj (λ_=>False) R w c a)
  (A:∀r,r<w.heap.size->S r->¬R r) (B:l'.length*b<=140737488355328) (C:l'.length<=9223372036854775807)
  (E:∀f w',bj (λr=>S r\/w.heap.size<=r) R w' [f] l'->ae S w w'->K f w'):av P (b9 #[t,t] p #[v,x]) w K:=by
 obtain⟨vs,g,F,N,he,I,_⟩:=ia s;refine zF (l:=[]) (l':=l') (us:=vs) (G:=λ_ _=>False) j j hi q h I.sl ⟨he.1,λi c a H J=>y (he.2 i c a H J)⟩ (λ_ _ _ _ h=>h.elim) (λr L h=>⟨λ_ h=>h,A r L h⟩) (by simpa using B) (by simpa using C) λf w' h1 M=>E f w' (aj.mono h1 (λr _ h=>?_) λ_ _ h=>h) M;rcases h with h|⟨_,h⟩|h
 .exact .inl h
 .exact h.elim
 .exact .inr h
end
end Go.Vc
namespace Go.Proofs.YtjjhhcfgfdepdaaGreatDoor
open Go Go.Vc Go.RowKit Go.Proofs Go.Proofs.Tryz
set_option maxRecDepth 100000
theorem po {α:Type} [aj α] {S R:af} {v:x1} {l:List α} (h:aj.rep m S R w [v] l):∃a n c,v= .slice a n c:=by
 obtain⟨_,_,_,_,_,⟨_,b,o,base,cap,e,_⟩,_⟩:=ia h;exact⟨_,_,_,e⟩
theorem OO {b8:Nat->af} {R:af} {s:aq} (h:hn true b8 R w cs k sizes s) (E:∀r,R r->r<w.heap.size) (aK:br k sizes s) (eO:s.funs.length<=1000) (he:s.ce.length<=1000):
  ai x7 yS [.agg cs.toArray] w λv w'=>Ext w w'/\ ∃A bI,v= .agg bI.toArray/\hn true A R w' bI k sizes s/\ ∀q r,A q r->w.heap.size<=r:=by
 have eP:=aK.e1.2.1;have eQ:=aK.vars;obtain⟨szv,Y,ab,ad,ah,I,rfl,b9,bm,cb,cc,bp,bq,c6⟩:=bz.old h;refine aw func25 ?_;refine bn λg1 J eR cd N=>?_;have N:aa J g1 aG [Δ k,szv,Δ s.zero,Y,ab,ad,ah,I]:=by
  obtain⟨_,_,_,c7⟩:=po b9;obtain⟨_,_,_,c8⟩:=po bm;obtain⟨_,_,_,c9⟩:=po cb;obtain⟨_,_,_,da⟩:=po cc;obtain⟨_,_,_,db⟩:=po bp;obtain⟨_,_,_,dc⟩:=po bq;rw[c7,c8,c9,da,db,dc] at N ⊢;exact N
 have dd:∀u∈([Δ k,szv,Δ s.zero,Y,ab,ad,ah,I]:List x1),u.oneCell'=true:=(bz.len h).2;refine bt aG.i λgt w2 eS bu cg=>?_;rw[bx aG.p aG.i rfl (N.ext bu).range];refine bt aG.i λgs eU eV bw de=>?_;refine bT (vs:=[Δ k,szv,Δ s.zero,Y,ab,ad,ah,I]) aG.i rfl rfl dd de λO ch eW cj=>?_;have eX:=cd.size;have eY:=bu.size;have z3:=bw.size;have eZ:=N.lt;have e0:=cg.lt;have bA:Ext J O:=(bu.trans bw).put ch Ω;have df:=(cg.ext bw).U ch λhe=>by have he:gt=gs:=he;omega
 have ck:=cd.trans bA;have bB:∀r,R r->r<gs:=λr B=>by have:=E r B;omega
 refine q1 (α:=Bool) (R:=R) hs.u ey.i λv5 P am dg=>?_;have aL:=bA.trans am;have z4:=bA.size;have z5:=am.size;rw[az aG.p 4 (N.ext aL) rfl];refine q2 (α:=Bool) hs.u ey.i rfl dg (bd (bd cb ck) am) (λh=>h) (λr B y H=>by have:=E r H;omega) Θ Θ λbC aX bD cl=>?_;have aV:∀ {K L:x3} {b:Nat} {e:r9} {c:List x1},ae (λr=>gs<=r) K L->b<gs->aa K b e c->aa L b e c:=λbE e2 h=>h.U bE λy=>by have y:gs<=_:=y;omega
 have aN:∀ {K L:x3},Ext w K->ae (λr=>gs<=r) K L->Ext w L:=λdh bE=>dh.then bE λr B h=>by have h:gs<=r:=h;omega
 have e3:=cj.lt;have bF:ae (λr=>gs<=r) P aX:=cl.mono λr _ h=>by have h:O.heap.size<=r:=h;omega
 have di:aa aX gs aG [Δ k,szv,Δ s.zero,Y,ab,ad,ah,I]:=(cj.ext am).U cl λh=>by have h:O.heap.size<=gs:=h;omega
 rw[aP aG.p rfl];refine bo (g:=gs) (o:=3) cu.i Ψ rfl di Ξ λe5 dj e6 dk=>?_;rw[aP aG.p rfl];refine bo (g:=gs) (o:=4) hs.i (kW bD) (e4 bD) dk Ξ λe7 dl e8 dm=>?_;rw[aP aG.p rfl];refine bo (g:=gs) (o:=5) dn.i Ψ rfl dm Ξ λe9 dp fb dq=>?_;rw[aP aG.p rfl];refine bo (g:=gs) (o:=6) dP.i Ψ rfl dq Ξ λaY dr fc bG=>?_;have bG:aa aY gs aG [Δ k,szv,Δ s.zero,.slice ν 0 0,bC,.slice ν 0 0,.slice ν 0 0,I]:=bG;have bJ:∀ {K L:x3},ae (λr=>r=gs) K L->ae (λr=>gs<=r) K L:=λh=>h.mono λr _ h=>by have h:r=gs:=h;omega
 have aZ:ae (λr=>r=gs) aX aY:=((dj.trans dl).trans dp).trans dr;have a1:Ext w aY:=aN (aN (ck.trans am) bF) (bJ aZ);have cm:=aV (bJ aZ) Ω (aV bF Ω (N.ext aL));have ds:=aV (bJ aZ) Ω (aV bF Ω (df.ext am));obtain⟨fd,dt⟩:=c6 rfl;let Z:af:=λr=>b8 4 r/\r<w.heap.size;have cn:∀r,Z r->r<gs:=λr h=>by have:=h.2;omega
 let Q:Nat->af:=λj r=>if j=1 then O.heap.size<=r else if j=4 then Z r else False;have du:bz true Q R aY [Δ k,szv,Δ s.zero,.slice ν 0 0,bC,.slice ν 0 0,.slice ν 0 0,I] k sizes s.zero [] (s.vars.map λx=>decide (x.gone≠0)) [] [] (s.ce.map l1):=by
  refine⟨_,_,_,_,_,_,rfl,bd b9 a1,gk,?_,gk,gk,bd bq a1,λ_=>⟨λi j r fe h1 y=>?_,λi r h1 y=>?_⟩⟩
  .have dv:bj (λr=>O.heap.size<=r) R aX [bC] (s.vars.map λx=>decide (x.gone≠0)):=aj.mono bD (λr _ h=>by
    rcases h with h|h
    .exact h
    .show O.heap.size<=r;omega) λ_ _ h=>h
   refine aj.U dv aZ λr B h1 y=>?_;have y:r=gs:=y;subst y;rcases h1 with h1|h1
   .have h1:O.heap.size<=r:=h1;omega
   .have:=E r h1;omega
  .simp only[Q] at h1 y;split at h1<;>split at y
   .omega
   .split at y
    .have:=y.2;omega
    .exact y
   .split at h1
    .have:=h1.2;omega
    .exact h1
   .split at h1<;>split at y
    .omega
    .exact y
    .exact h1
    .exact h1
  .simp only[Q] at h1;have:=E r y;split at h1
   .omega
   .split at h1
    .exact dt 4 r h1 y
    .exact h1
 have dw:∀j r,Q j r->gs<r\/Z r:=λj r h=>by
  simp only[Q] at h;split at h
  .exact .inl Ω
  .split at h
   .exact .inr h
   .exact h.elim
 have dx:∀r,Z r->r<gs/\Q 4 r:=λr h=>⟨cn r h,h⟩;have dy:=bd bm a1;rw[az aG.p 3 cm rfl,fC cu.u dy,u7];refine ci.range s.vars.length (λi P=>Ext w P/\aa P g1 aG [Δ k,szv,Δ s.zero,Y,ab,ad,ah,I]/\aa P gt aG z12/\ ∃A cs,aa P gs aG cs/\(∀q r,A q r->gs<r\/Z r)/\(∀r,Z r->r<gs/\A 4 r)/\
  bz true A R P cs k sizes s.zero ((s.vars.take i).map ax) (s.vars.map λx:bl=>decide (x.gone≠0)) ((s.vars.take i).map λx:bl=>x.un) [] (s.ce.map l1)) Ω ⟨a1,cm,ds,Q,_,bG,dw,dx,du⟩ ?_ ?_
 .rintro i dz dA hi ⟨a2,a6,bK,A,cs,ao,bL,aO,aQ⟩ dC;obtain⟨x,a7⟩:=aE (l:=s.vars) hi;obtain⟨z,cp⟩:=aE (l:=sizes) (i:=i) Ω;have ff:=(aK.var i x z a7 cp).1;have fg:=aK.e1.2.2 z (x5 cp);have fh:(ax x).length<=32:=by
   unfold ax;refine X0 (List.length_filter_le _ _) ?_;rw[u7,List.length_range];omega
  have dD:=ao.lt;refine bH Ω ?_;intro ap S _ _;have bM:=a2.trans S;have fj:=S.size;have cq:=a6.ext S;obtain⟨d0,cr⟩:=aQ.at 3 Ω;rw[az aG.p 3 (ao.ext S) cr,az aG.p 3 cq rfl];refine ib (α:=Λ) (a:=ax x) rfl cu.u al.i (bd bm bM) (by rw[x8,a7];rfl) λfk fm dE dF ct=>?_;obtain⟨cw,rfl⟩:∃u,dE=[u]:=by obtain⟨u,hu,_⟩:=ct;exact⟨u,hu⟩
  rw[aB (v:=cw) Ψ (by have:=dF 0 cw rfl;simpa using this)];refine q1 (α:=Int) (R:=R) al.u ag.i λfp fq a8 dG=>?_;refine⟨.inl a8,?_⟩;refine q2 (α:=Int) al.u ag.i rfl dG (bd ct a8) (λh=>h) (λr B y H=>by have:=E r H;have:=bM.size;omega) Ω Ω λcz cA cB cC=>?_;have fs:=a8.size;have ft:=cC.size;have cD:Ext ap cA:=a8.then cC λr B h=>by have h:ap.heap.size<=r:=h;omega
  refine⟨.inl cD,?_⟩;have cE:bj (λr=>ap.heap.size<=r) R cA [cz] (ax x):=aj.mono cB (λr _ h=>by
   rcases h with h|h
   .exact h
   .show ap.heap.size<=r;omega) λ_ _ h=>h
  refine iH cu.u al.i Φ (a:=ax x) (cs:=[cz]) (kW cB) cE λfu fv aL _ dH=>?_;have au:=cD.trans aL;refine⟨.inl au,?_⟩;have dI:=aQ.old.ext (S.trans au);refine bz.OK dI (ao.ext (S.trans au)) cr (λq r h=>bL q r h.1) (λr h=>⟨(aO r h).1,(aO r h).2,by have:=(aO r h).1;omega⟩) bB dH (bd cE aL) (λr B h=>⟨λj y=>by have h:ap.heap.size<=r:=h;omega,by have h:ap.heap.size<=r:=h;omega⟩) Θ λfw fx dJ bN bO cF dK bP _=>?_;have dL:Ext w dJ:=aN (bM.trans au) bN;have dM:=aV bN Ω (cq.ext au);have dN:=aV bN Ω ((bK.ext S).ext au);have fy:=bO.lt;intro av V _ _;have bQ:=dL.trans V;have fz:=V.size;have cG:=dM.ext V;obtain⟨fA,cH⟩:=cF.at 5 Ω;rw[az aG.p 5 (bO.ext V) cH,az aG.p 5 cG rfl];refine ib (α:=Λ) (a:=x.un) rfl dn.u an.i (bd cc bQ) (by rw[x8,a7];rfl) λfD fE ba dO cI=>?_;obtain⟨cJ,rfl⟩:∃u,ba=[u]:=by obtain⟨u,hu,_⟩:=cI;exact⟨u,hu⟩
  rw[aB (v:=cJ) Ψ (by have:=dO 0 cJ rfl;simpa using this)];refine q1 (α:=Int) (R:=R) an.u ak.i λfF fG bb dQ=>?_;refine⟨.inl bb,?_⟩;refine q2 (α:=Int) an.u ak.i rfl dQ (bd cI bb) (λh=>h) (λr B y H=>by have:=E r H;have:=bQ.size;omega) Ω Ω λcK cL cM cN=>?_;have fH:=bb.size;have fI:=cN.size;have cO:Ext av cL:=bb.then cN λr B h=>by have h:av.heap.size<=r:=h;omega
  refine⟨.inl cO,?_⟩;have cP:bj (λr=>av.heap.size<=r) R cL [cK] x.un:=aj.mono cM (λr _ h=>by
   rcases h with h|h
   .exact h
   .show av.heap.size<=r;omega) λ_ _ h=>h
  refine iH dn.u an.i Φ (a:=x.un) (cs:=[cK]) (kW cM) cP λfJ fK cQ _ dR=>?_;have ay:=cO.trans cQ;refine⟨.inl ay,?_⟩;have dS:=cF.old.ext (V.trans ay);refine bz.OL dS (bO.ext (V.trans ay)) cH (λq r h=>dK q r h.1) (λr h=>⟨(bP r h).1,(bP r h).2,by have:=(bP r h).1;omega⟩) bB dR (bd cP cQ) (λr B h=>⟨λj y=>by have h:av.heap.size<=r:=h;omega,by have h:av.heap.size<=r:=h;omega⟩) Θ λdT dU fL bR dV dW dX dY _=>?_;rw[aM];refine dC _ ⟨aN (bQ.trans ay) bR,aV bR Ω (cG.ext ay),aV bR Ω ((dN.ext V).ext ay),dT,dU,dV,dX,dY,?_⟩;rw[u9,a7,o8,j6,j6];exact dW
 rintro dz dA ⟨a2,a6,bK,A,cs,ao,bL,aO,aQ⟩;rw[o7] at aQ;refine ca Ω ?_;have dZ:=bd bp a2;have dD:=ao.lt;rw[az aG.p 6 a6 rfl,fC dP.u dZ,u7];refine ci.range s.funs.length (λj C=>Ext w C/\aa C g1 aG [Δ k,szv,Δ s.zero,Y,ab,ad,ah,I]/\aa C gt aG z12/\ ∃A cs,aa C gs aG cs/\(∀q r,A q r->gs<r\/Z r)/\(∀r,Z r->r<gs/\A 4 r)/\
  bz true A R C cs k sizes s.zero (s.vars.map ax) (s.vars.map λx:bl=>decide (x.gone≠0)) (s.vars.map λx:bl=>x.un) ((s.funs.take j).map fW) (s.ce.map l1)) Ω ⟨a2,a6,bK,A,cs,ao,bL,aO,aQ⟩ ?_ ?_
 .rintro j C ea cR ⟨M,bS,bc,aR,ba,aA,be,aS,W⟩ eb;obtain⟨f,bU⟩:∃f,s.funs[j]? =σ f:=⟨_,x6 cR⟩;obtain⟨_,fM,fN⟩:=wX aK (x5 bU);have ec:=aA.lt;refine bH Ω ?_;refine jI cT.p rfl dP.u cT.i (bd bp M) (by rw[x8,bU];rfl) λfP bV=>?_;have ed:=aj.one bV;have fQ:=bV;obtain⟨c1,c2,fo,gw,rfl,_,_,_,⟨bf,cS,ee,ef,rfl,_,_,_,aC,cU,cV,fR,eg,rfl,_,_,_,aD,aF⟩,bW⟩:=bV;have aC:Seen R C bf f.sc:=aC;have aD:Seen R C cU f.ac:=aD;have aF:aj.rep true eg R C cV f.cs:=aF;have bW:c2=[.bool (decide (f.live≠0))]:=bW;obtain⟨aT,rfl⟩:∃u,bf=[u]:=by obtain⟨u,hu,_⟩:=aC;exact⟨u,hu⟩
  obtain⟨aH,rfl⟩:∃u,cU=[u]:=by obtain⟨u,hu,_⟩:=aD;exact⟨u,hu⟩
  obtain⟨v3,rfl⟩:∃u,cV=[u]:=by obtain⟨u,hu,_⟩:=aF;exact⟨u,hu⟩
  subst bW;refine bt cT.i λaI fS fU eh ei=>?_;refine bT (vs:=[aT,aH,v3,.bool (decide (f.live≠0))]) cT.i rfl rfl ed ei λG ej fV bg=>?_;have bX:Ext C G:=eh.put ej Ω;refine q1 (α:=Int) (R:=R) an.u ak.i λfX fY bh ek=>?_;have cW:=bX.trans bh;rw[aP cT.p rfl,aP aU.p rfl,aB (v:=v3) Ψ ((bg.ext bh).cell (o:=0+0+2) rfl)];refine q2 (α:=Int) an.u ak.i rfl ek (bd aF cW) (λh=>h) (λr B y H=>by have:=E r H;have:=(M.trans bX).size;omega) Ω Ω λaJ fZ bY bZ=>?_;have gb:=bX.size;have gc:=bh.size;have gd:=bZ.size;have em:=(bg.ext bh).U bZ λh=>by have h:G.heap.size<=aI:=h;have:=bg.lt;omega
  rw[aP cT.p rfl,aP aU.p rfl];refine bo (g:=aI) (o:=2) an.i (kW bY) (e4 bY) em Ξ λbi cX gf b0=>?_;have b0:aa bi aI cT [aT,aH,aJ,.bool (decide (f.live≠0))]:=b0;have gg:C.heap.size<=aI:=Ω
  have gh:=bg.lt;have bk:Ext C bi:=(cW.then bZ λr B h=>by have h:G.heap.size<=r:=h;omega).then cX λr B h=>by have h:r=aI:=h;omega
  have en:bj (λr=>G.heap.size<=r) R bi [aJ] f.cs:=aj.mono (aj.U bY cX λr B h y=>by
   have y:r=aI:=y;rcases h with h|h
   .rcases h with h|h
    .have h:G.heap.size<=r:=h;omega
    .omega
   .have:=E r h;have:=M.size;omega) (λr _ h=>by
    rcases h with h|h
    .exact h
    .show G.heap.size<=r;omega) λ_ _ h=>h
  have own:bj (α:=hl) (λr=>G.heap.size<=r) R bi [aT,aH,aJ,.bool (decide (f.live≠0))] (fW f):=
   ⟨[aT,aH,aJ],[.bool (decide (f.live≠0))],λr=>G.heap.size<=r,λ_=>False,rfl,λ_ h=>h,λ_ h=>h.elim,λ_ _ _ h=>h,⟨[aT],[aH,aJ],λ_=>False,λr=>G.heap.size<=r,rfl,λ_ h=>h.elim,λ_ h=>h,λ_ _ h=>h.elim,bd aC bk,[aH],[aJ],λ_=>False,λr=>G.heap.size<=r,rfl,λ_ h=>h.elim,λ_ h=>h,λ_ _ h=>h.elim,bd aD bk,en⟩,rfl⟩
  obtain⟨f0,cY⟩:=W.at 6 Ω;rw[az aG.p 6 (aA.ext bk) cY,bx cT.p cT.i rfl b0.range];refine iH dP.u cT.i Φ rfl own λgi gj cZ _ eo=>?_;have aW:=bk.trans cZ;have ep:=W.old.ext aW;refine bz.OM ep (aA.ext aW) cY (λq r h=>be q r h.1) (λr h=>⟨(aS r h).1,(aS r h).2,by have:=(aS r h).1;omega⟩) bB eo (bd own cZ) (λr B h=>⟨λj y=>by have h:G.heap.size<=r:=h;omega,by have h:G.heap.size<=r:=h;omega⟩) Θ λer es gl b1 et eu ev ew _=>?_;rw[aM];refine eb _ ⟨aN (M.trans aW) b1,aV b1 Ω (bS.ext aW),aV b1 Ω (bc.ext aW),er,es,et,ev,ew,?_⟩;rw[u9,bU,o8,j6];exact eu
 rintro C ea ⟨M,bS,bc,aR,ba,aA,be,aS,W⟩;rw[o7] at W;refine ca Ω ?_;have ec:=aA.lt;have gm:=M.size;refine q1 (α:=jq) (R:=R) jC.u fO.i λgn ez X eA=>?_;have gp:=X.size;rw[az aG.p 7 (bS.ext X) rfl];refine q2 (α:=jq) jC.u fO.i rfl eA (bd bq (M.trans X)) (λh=>?_) (λr B y H=>by have:=E r H;omega) Θ Θ λb2 gq b3 b4=>?_
 .obtain⟨c1,c2,fo,gw,rfl,_,_,_,aC,bf,cS,ee,ef,rfl,_,_,_,aD,aF⟩:=h;exact⟨c1,_,λ_=>False,λ_=>False,rfl,λ_ h=>h,λ_ h=>h,λ_ _ h=>h.elim,aC,bf,cS,λ_=>False,λ_=>False,rfl,λ_ h=>h,λ_ h=>h,λ_ _ h=>h.elim,aD,aF⟩
 have gu:=b4.size;have eB:=(aA.ext X).U b4 λh=>by have h:C.heap.size<=gs:=h;omega
 rw[aP aG.p rfl];refine bo (g:=gs) (o:=7) jC.i (kW b3) (e4 b3) eB (by rw[(bz.len W).1];omega) λb5 c0 gv eC=>?_;have b6:ae (λr=>C.heap.size<=r\/r=gs) ez b5:=(b4.mono λr _ h=>.inl h).trans (c0.mono λr _ h=>.inr h);have eD:bj (λr=>C.heap.size<=r) R b5 [b2] (s.ce.map l1):=aj.mono (aj.U b3 c0 λr B h y=>by
  have y:r=gs:=y;rcases h with h|h
  .rcases h with h|h
   .have h:C.heap.size<=r:=h;omega
   .omega
  .have:=E r h;omega) (λr _ h=>by
   rcases h with h|h
   .exact h
   .show C.heap.size<=r;omega) λ_ _ h=>h
 have eE:=(W.old).ext X;have eF:∀j,¬aR j gs:=λj h=>(be j gs h).elim (λh=>Ω) λh=>by have:=cn gs h;omega
 have eH:∀i j r,i≠j->aR i r->¬aR j r:=by obtain⟨_,_,_,_,_,_,_,_,_,_,_,_,_,eI⟩:=id W;exact (eI rfl).1
 have c3:=eE.N8 (x:=b2) b6 (λr B=>?_) eD (λj r cR B y=>by have B:C.heap.size<=r:=B;have:=y.2;omega) (λr B y=>by have B:C.heap.size<=r:=B;have:=E r y;omega)
 rotate_left
 .refine .inr ⟨λj y=>?_,λy=>?_⟩
  .rcases B with B|rfl
   .have:=y.2;omega
   .exact eF j y.1
  .have:=E r y;rcases B with B|B<;>omega
 obtain⟨b7,eJ⟩:=c3.len;have eK:aa b5 gt aG z12:=(bc.ext X).U b6 λh=>by
  rcases h with h|h
  .have:=bc.lt;omega
  .omega
 rw[bx aG.p aG.i b7 eC.range];refine bT (vs:=ba.set 7 b2) aG.i b7 rfl eJ eK λgx c4 gA eL=>?_;rw[fB aG.p aG.i b7 eL.range];have c5:∀q r,fa (λi r=>aR i r/\r<C.heap.size) 4 (λr=>C.heap.size<=r) q r->gs<r:=λq r h=>by
  unfold fa at h;split at h
  .have h:C.heap.size<=r:=h;omega
  .rename_i eM;exact (be q r h.1).resolve_right λy=>eH q 4 r eM h.1 (aS r y).2
 have eN:=c3.U c4 λr B h he=>by
  have he:r=gt:=he;rcases h with⟨q,h⟩|h
  .have:=c5 q r h;omega
  .have:=E r h;omega
 refine⟨((M.trans X).then b6 λr B h=>?_).then c4 λr B h=>by have h:r=gt:=h;omega,_,_,rfl,eN,λq r h=>by have:=c5 q r h;omega⟩;rcases h with h|h<;>omega
theorem D1 {T:Nat->Prop} (h:ae S w w') (k:ae T w w'):ae (λr=>S r/\T r) w w':=
 ⟨h.size,λr o a I f=>by
  by_cases e:S r
  .exact k.aV r o a I λj=>f ⟨e,j⟩
  .exact h.aV r o a I e⟩
theorem tF {A R:af} {n:aS} {s:aq} {t:aC} (h:bQ w ab ad A R n s t):∀r,A r\/R r->r<w.heap.size:=λr a=>by
 obtain⟨j,p,q,x,⟨_,_,e,f⟩,_⟩:=h.1;exact a.elim (f r) (e r)
structure ck (w:x3) (ab ad am:Nat) (A R:af) (A9:Nat->af) (aH:af) (n:aS) (s u:aq) (t:aC) (h:List aC) (cs:List x1):Prop where
 eO:bQ w ab ad A R n s t
 iZ:en t h
 box:aa w am aG cs
 doc:hn true A9 aH w cs n.k n.sizes u
 apart:∀q r,A9 q r->¬A r/\¬R r/\r≠am
 read:∀r,aH r->¬eN w r/\r<w.heap.size/\r≠am
 out:¬A am/\¬R am
section
variable {w w':x3} {ab ad am:Nat} {A R:af} {A9:Nat->af} {aH:af} {n:aS} {s u:aq} {t:aC} {h:List aC} {cs:List x1}
theorem ck.ext (p:ck w ab ad am A R A9 aH n s u t h cs) (a:Ext w w'):ck w' ab ad am A R A9 aH n s u t h cs:=
 ⟨p.eO.ext a,p.iZ,p.box.ext a,p.doc.ext a,p.apart,λr e=>⟨λh=>(p.read r e).1 (mI (λo f I _=>a.aV r o f I) h),by have:=(p.read r e).2.1;have:=a.size;omega,(p.read r e).2.2⟩,p.out⟩
theorem ck.prog {aI R':af} {s':aq} {bp:aC} {h':List aC} (p:ck w ab ad am A R A9 aH n s u t h cs) (x:ae (eN w) w w') (f:Grow A w aI w') (C:bQ w' ab ad aI R' n s' bp) (j:en bp h') (y:∀r,R' r->R r\/B<=r) (E:∀q r,A9 q r->r<w.heap.size->r<B) (J:am<B):
  ck w' ab ad am aI R' (λq r=>A9 q r/\r<w.heap.size) aH n s' u bp h' cs:=by
 have K:=p.box.lt;have z:=x.size;refine⟨C,j,p.box.U f.1 p.out.1,bz.U p.doc.old (D1 x f.1) λr e h j=>?_,λq r h=>⟨λa=>?_,λe=>(y r e).elim (p.apart q r h.1).2.1 λF=>by have:=E q r h.1 h.2;omega,(p.apart q r h.1).2.2⟩,λr e=>⟨λh=>?_,by have:=(p.read r e).2.1;omega,(p.read r e).2.2⟩,λa=>?_,λe=>(y am e).elim p.out.2 λF=>Ω⟩
 .rcases h with⟨q,h⟩|h
  .exact (p.apart q r h.1).1 j.2
  .exact (p.read r h).1 j.1
 .rcases f.2.1 r a with a|a
  .exact (p.apart q r h.1).1 a
  .have:=h.2;omega
 .exact (p.read r e).1 (mI (λo G I H=>x.aV r o G I H) h)
 .rcases f.2.1 am a with a|a
  .exact p.out.1 a
  .omega
theorem ck.OP {S:af} {cI:Nat->af} {u':aq} {bI:List x1} (p:ck w ab ad am A R A9 aH n s u t h cs) (f:ae S w w') (y:∀r,r<w.heap.size->S r->(∃q,A9 q r)\/r=am) (B:aa w' am aG bI) (C:hn true cI aH w' bI n.k n.sizes u') (E:∀q r,cI q r->(∃j,A9 j r)\/(¬A r/\¬R r/\r≠am)):
  ck w' ab ad am A R cI aH n s u' t h bI:=by
 have J:=p.box.lt;have z:=f.size;have F:∀q r,A9 q r->¬aH r:=by obtain⟨_,_,_,_,_,_,_,_,_,_,_,_,_,G⟩:=p.doc;exact (G rfl).2
 refine⟨⟨p.eO.1.U f λr e h I=>?_,p.eO.2⟩,p.iZ,B,C,λq r h=>?_,λr e=>⟨λh=>(p.read r e).1 (mI (λo H I _=>f.aV r o H I λa=>?_) h),by have:=(p.read r e).2.1;omega,(p.read r e).2.2⟩,p.out⟩
 .rcases y r e I with⟨q,a⟩|a
  .exact h.elim (p.apart q r a).1 (p.apart q r a).2.1
  .subst a;exact h.elim p.out.1 p.out.2
 .rcases E q r h with⟨j,a⟩|a
  .exact p.apart j r a
  .exact a
 .rcases y r (p.read r e).2.1 a with⟨q,x⟩|x
  .exact F q r x e
  .exact (p.read r e).2.2 x
theorem ck.OQ {S:af} {cI:Nat->af} {u':aq} {bI:List x1} (p:ck w ab ad am A R A9 aH n s u t h cs) (e:∀r,A r\/R r->r<B) (E:am<B) (f:ae S w w') (j:∀r,r<w.heap.size->S r->(∃q,A9 q r)\/r=am) (x:aa w' am aG bI) (y:hn true cI aH w' bI n.k n.sizes u') (z:∀q r,cI q r->(∃C,A9 C r)\/B<=r):
  ck w' ab ad am A R cI aH n s u' t h bI:=
 p.OP f j x y λq r h=>(z q r h).imp id λF=>⟨λa=>by have:=e r (.inl a);omega,λa=>by have:=e r (.inr a);omega,Ω⟩
theorem ck.D2 {S:af} {cI:Nat->af} {u':aq} {bI:List x1} (p:ck w ab ad am A R A9 aH n s u t h cs) (a:ae S w w') (e:∀r,r<w.heap.size->S r->(∃q,A9 q r)\/r=am) (f:aa w' am aG bI) (j:hn true cI aH w' bI n.k n.sizes u') (x:∀q r,cI q r->(∃y,A9 y r)\/w.heap.size<=r):
  ck w' ab ad am A R cI aH n s u' t h bI:=p.OQ (tF p.eO) p.box.lt a e f j x
theorem ck.look (p:ck w ab ad am A R A9 aH n s u t h cs):l3 w am n.k n.sizes u:=by
 refine ho.box p.doc.Dy (Ext.refl _) ?_;have:=p.box;exact this
theorem ck.pp (p:ck w ab ad am A R A9 aH n s u t h cs):∃szv a e f j q,cs=[Δ n.k,szv,Δ u.zero,a,e,f,j,q]/\aF .i64 w szv n.sizes:=by
 obtain⟨szv,a,e,f,j,q,h1,r,_⟩:=p.doc;exact⟨szv,a,e,f,j,q,h1,cN r⟩
end
end Go.Proofs.YtjjhhcfgfdepdaaGreatDoor
namespace Go.Vc
open Go Go.RowKit
section
variable {P:W9} {w:x3} {α:Type} [aj α] {S R:af}
theorem tG {v:x1} {l:List α} {i:Nat} {a:α} (h:bj S R w [v] l) (H:l[i]? =σ a) (Y:∀r,r<w.heap.size->S r->¬R r):∃g cap c F,v= .slice (σ ⟨g,0,ν⟩) l.length cap/\w.rangeAt g (i*aj.n α) c/\bj F R w c a/\(∀r,F r->S r)/\
  ∀ {w':x3} {a':α} {T z:af},ae T w w'->(∀r,r<w.heap.size->T r->F r)->bj z R w' c a'->(∀r,z r->F r\/w.heap.size<=r)->bj (λr=>S r\/w.heap.size<=r) R w' [v] (l.set i a'):=by
 have an:=(x4.1 H).1;obtain⟨vs,g,F,s,he,I,hm⟩:=ia h;obtain⟨Z,J,K⟩:=hm rfl;obtain⟨ao,⟨rfl,ap⟩|⟨cap,full,rfl,L,aq,au,av,aw⟩⟩:=id K
 .omega
 have aa:vs.length=l.length:=he.1;have M:S g:=Z.resolve_left Ξ;obtain⟨c,B⟩:∃c,vs[i]? =σ c:=⟨_,x6 Ω⟩;have ab:=he.2 i c a B H;refine⟨g,cap,c,F i,rfl,?_,ab,λr p=>s.sub i r p,λ{w' a' T z} N O P C=>?_⟩
 .obtain⟨_,ax,o',ay,az,ac,_,_,ad,_,ag⟩:=I;cases ac;cases ad Ω;intro j u ah;have Q:=ag (i*aj.n α+j) u (by rw[<-List.flatMap_id];exact oZ (f:=id) (k:=aj.n α) (λx ai=>he.len x ai) B ah);rw[W0] at Q;exact Q
 have ak:¬T g:=λh=>s.top rfl i (O g L.lt h);have aA:=aj.len P;have aB:vs.set i c=vs:=by
  refine Y6 λq=>?_;rw[X6];by_cases V:i=q
  .subst V;rw[if_pos rfl,if_pos Ω,B]
  .rw[if_neg V]
 have W:bV w' g J (aj.n α) (.slice (σ ⟨g,0,ν⟩) l.length cap) (l.set i a').length vs.flatten:=by
  rw[Z5];exact K.U N λ_=>ak
 refine⟨_,rfl,vs,g,λj r=>if j=i then z r else F j r/\r<w.heap.size,⟨λj r p=>?_,λ_ j p=>?_,λ_ j q r al h1 y=>?_⟩,⟨by simp[aa],λj c2 X G E=>?_⟩,?_,λ_=>⟨.inr (.inl M),J,W⟩⟩
 .split at p
  .exact (C r p).imp (s.sub i r) id
  .exact .inl (s.sub j r p.1)
 .split at p
  .rcases C g p with h|h
   .exact s.top rfl i h
   .have:=L.lt;omega
  .exact s.top rfl j p.1
 .split at h1<;>split at y
  .omega
  .rcases C r h1 with h|h
   .rename_i e _;exact s.gL rfl i q r Ω h y.1
   .have:=y.2;omega
  .rcases C r y with h|h
   .exact s.gL rfl j i r Ω h1.1 h
   .have:=h1.2;omega
  .exact s.gL rfl j q r al h1.1 y.1
 .by_cases A:j=i
  .subst A;rw[B] at G;rw[j9 Ω] at E;cases G;cases E;exact aj.mono P (λr _ h=>by simpa using h) λ_ _ h=>h
  .rw[Y0 (S8 A)] at E;have am:bj (λr=>if j=i then z r else F j r/\r<w.heap.size) R w c2 X:=aj.mono (he.2 j c2 X G E) (λr p h=>by rw[if_neg A];exact⟨h,p⟩) λ_ _ h=>h;refine aj.U am N λr p h1 y=>?_;have y:=O r p y;rcases h1 with h1|h1
   .simp only[if_neg A] at h1;exact s.gL rfl j i r A h1.1 y
   .exact Y r p (s.sub i r y) h1
 .have:=ny (S:=λr=>(S r\/w.heap.size<=r)\/R r) W (.inr (.inl (.inl M)));exact this
theorem OR {v:x1} {l:List α} {i:Nat} {a:α} (h:bj S R w [v] l) (N:l[i]? =σ a) (O:∀r,r<w.heap.size->S r->¬R r):∃g cap full z c F,v= .slice (σ ⟨g,0,ν⟩) l.length cap/\aa w g z full/\S g/\i*aj.n α+aj.n α<=full.length/\(∀ (q:Nat) x,c[q]? =σ x->full[i*aj.n α+q]? =σ x)/\bj F R w c a/\(∀r,F r->S r)/\¬F g/\
  ∀ {w':x3} {a':α} {A:List x1} {T C:af},ae T w w'->(∀r,r<w.heap.size->T r->F r\/r=g)->aa w' g z (over full (i*aj.n α) A)->bj C R w' A a'->(∀r,C r->F r\/w.heap.size<=r)->bj (λr=>S r\/w.heap.size<=r) R w' [v] (l.set i a'):=by
 have ad:=(x4.1 N).1;obtain⟨vs,g,F,y,he,I,hm⟩:=ia h;obtain⟨ag,z,ah⟩:=hm rfl;obtain⟨ax,⟨rfl,ay⟩|⟨cap,full,rfl,P,Q,ai,V,W⟩⟩:=id ah
 .omega
 have X:vs.length=l.length:=he.1;have G:S g:=ag.resolve_left Ξ;obtain⟨c,K⟩:∃c,vs[i]? =σ c:=⟨_,x6 Ω⟩;have ak:=he.2 i c a K N;have al:(i+1)*aj.n α<=l.length*aj.n α:=X5 _ ad;have am:l.length*aj.n α<=full.length:=by rw[V];exact X5 _ Q
 rw[U4,Nat.one_mul] at al;refine⟨g,cap,full,z,c,F i,rfl,P,G,Ω,λq x Y=>?_,ak,λr s=>y.sub i r s,y.top rfl i,λ{w' a' A T C} an ao ap Z H=>?_⟩
 .have L:=oZ (f:=id) (k:=aj.n α) (λx aq=>he.len x aq) K Y;rw[List.flatMap_id,<-W] at L;have az:=(x4.1 Y).1;have M:=he.len c (x5 K);rw[X4 Ω] at L;exact L
 have M:=aj.len Z;have au:∀c∈vs.set i A,c.length=aj.n α:=λc B=>by
  rcases W3 B with p|rfl
  .exact he.len c p
  .exact M
 have ab:bV w' g z (aj.n α) (.slice (σ ⟨g,0,ν⟩) l.length cap) (l.set i a').length (vs.set i A).flatten:=by
  refine⟨by rw[km au,Z5,Z5,X],.inr ⟨cap,_,by rw[Z5],ap,by rw[Z5];exact Q,ai,by rw[mn,V],?_⟩⟩;rw[Z5,sN Ω am,W,Dw he.len M Ω]
 refine⟨_,rfl,vs.set i A,g,λj r=>if j=i then C r else F j r/\r<w.heap.size,⟨λj r s=>?_,λ_ j s=>?_,λ_ j q r av h1 p=>?_⟩,⟨by simp[X],λj c2 ac B J=>?_⟩,?_,λ_=>⟨.inr (.inl G),z,ab⟩⟩
 .split at s
  .exact (H r s).imp (y.sub i r) id
  .exact .inl (y.sub j r s.1)
 .split at s
  .rcases H g s with h|h
   .exact y.top rfl i h
   .have:=P.lt;omega
  .exact y.top rfl j s.1
 .split at h1<;>split at p
  .omega
  .rcases H r h1 with h|h
   .rename_i e _;exact y.gL rfl i q r Ω h p.1
   .have:=p.2;omega
  .rcases H r p with h|h
   .exact y.gL rfl j i r Ω h1.1 h
   .have:=h1.2;omega
  .exact y.gL rfl j q r av h1.1 p.1
 .by_cases E:j=i
  .subst E;rw[j9 Ω] at B;rw[j9 Ω] at J;cases B;cases J;exact aj.mono Z (λr _ h=>by simpa using h) λ_ _ h=>h
  .rw[Y0 (S8 E)] at B J;have aw:bj (λr=>if j=i then C r else F j r/\r<w.heap.size) R w c2 ac:=aj.mono (he.2 j c2 ac B J) (λr s h=>by rw[if_neg E];exact⟨h,s⟩) λ_ _ h=>h;refine aj.U aw an λr s h1 p=>?_;have p:=ao r s p;rcases h1 with h1|h1
   .simp only[if_neg E] at h1;rcases p with p|rfl
    .exact y.gL rfl j i r E h1.1 p
    .exact y.top rfl j h1.1
   .rcases p with p|rfl
    .exact O r s (y.sub i r p) h1
    .exact O r s G h1
 .have:=ny (S:=λr=>(S r\/w.heap.size<=r)\/R r) ab (.inr (.inl (.inl G)));exact this
end
end Go.Vc
namespace Go.Proofs.YtjjhhcfgfdepdaaGreatDoor
open Go Go.Vc Go.RowKit Go.Proofs Go.Proofs.Tryz
set_option maxRecDepth 100000
section
variable {w0 w:x3} {ab ad am ga:Nat} {A R:af} {A9 cI:Nat->af} {aH:af} {n:aS} {s u:aq} {t:aC} {h:List aC} {cs bI:List x1} {aL aD lr:x1} {Q:x1->x3->Prop}
theorem ck.olds (p:ck w0 ab ad am A R A9 aH n s u t h cs):ck w0 ab ad am A R (λq r=>A9 q r/\r<w0.heap.size) aH n s u t h cs:=
 ⟨p.eO,p.iZ,p.box,p.doc.old,λq r a=>p.apart q r a.1,p.read,p.out⟩
end
theorem tH {α β:Type} {l:List α} {i:Nat} {a b:α} {f:α->β} (h:l[i]? =σ a) (j:f b=f a):(l.set i b).map f=l.map f:=by
 rw[U9,j];refine Y6 λq=>?_;rw[X6];by_cases e:i=q
 .subst e;rw[if_pos rfl,x8,h,if_pos (by rw[u7];exact (x4.1 h).1)];rfl
 .rw[if_neg e]
theorem xd {T:Nat->Prop} (h:ae T w w'):ae (λr=>T r/\r<w.heap.size) w w':=⟨h.size,λr o a I e=>h.aV r o a I λf=>e ⟨f,(j0.1 a).1⟩⟩
section
variable {w0 w w':x3} {ab ad am ga:Nat} {A R:af} {A9:Nat->af} {aH:af} {n:aS} {s u u':aq} {t:aC} {h:List aC} {cs:List x1} {aL aD lr v:x1} {Q:x1->x3->Prop}
theorem bz.qb {zero:Int} {D:List (Λ)} {G:List Bool} {aR:List (Λ)} {H:List hl} {E:List jq} {i:Nat} (a:cs[i]? =σ v) (h:bz m A9 aH w (cs.set i v) k sizes zero D G aR H E):bz m A9 aH w cs k sizes zero D G aR H E:=by
 have:cs.set i v=cs:=by
  refine Y6 λq=>?_;rw[X6];by_cases e:i=q
  .subst e;have:=(x4.1 a).1;rw[if_pos rfl,if_pos this,a]
  .rw[if_neg e]
 rw[this] at h;exact h
theorem ck.row {T:af} {cI:Nat->af} {q:Nat} (p:ck w ab ad am A R A9 aH n s u t h cs) (a:ae T w w') (e:∀r,r<w.heap.size->T r->A9 q r) (f:hn true cI aH w' cs n.k n.sizes u') (j:∀q r,cI q r->(∃x,A9 x r)\/w.heap.size<=r):
  ck w' ab ad am A R cI aH n s u' t h cs:=
 p.D2 a (λr y h=>.inl ⟨q,e r y h⟩) (p.box.U a λh=>(p.apart q am (e am p.box.lt h)).2.2 rfl) f j
theorem xe {q:Nat} {B:af} (a:∀r,B r->A9 q r\/w.heap.size<=r):∀j r,fa A9 q B j r->(∃e,A9 e r)\/w.heap.size<=r:=λj r h=>by
 unfold fa at h;split at h
 .exact (a r h).imp (λh=>⟨q,h⟩) id
 .exact .inl ⟨j,h⟩
end
theorem OS {full c:List x1} {o q:Nat} {x:x1} (f:∀ (k:Nat) y,c[k]? =σ y->full[o+k]? =σ y) (h:o+c.length<=full.length) (j:q<c.length):full.set (o+q) x=over full o (c.set q x):=by
 refine Y6 λk=>?_;rw[oG _ _ _ (by rw[Z5];exact h),X6,Z5];by_cases h1:o<=k/\k<o+c.length
 .rw[if_pos h1,X6];by_cases a:o+q=k
  .rw[if_pos a,if_pos Ω,if_pos Ω,if_pos Ω]
  .rw[if_neg a,if_neg Ω];have e:k-o<c.length:=Ω
   have:=f (k-o) c[k-o] (x6 e);rw[x6 e,<-this];congr 1;omega
 .rw[if_neg h1,if_neg Ω]
section
variable {w0 w w':x3} {ab ad am ga:Nat} {A R:af} {A9:Nat->af} {aH:af} {n:aS} {s u u':aq} {t:aC} {h:List aC} {cs:List x1} {aL aD lr v:x1} {Q:x1->x3->Prop}
theorem ck.gL (p:ck w ab ad am A R A9 aH n s u t h cs):(∀i j r,i≠j->A9 i r->¬A9 j r)/\ ∀i r,A9 i r->¬aH r:=by
 obtain⟨_,_,_,_,_,_,_,_,_,_,_,_,_,a⟩:=p.doc;exact a rfl
theorem ck.OT {T:af} (p:ck w ab ad am A R A9 aH n s u t h cs) (y:∀q r,A9 q r->r<w.heap.size) (z:cs[6]? =σ v) (e:ae T w w') (f:∀r,r<w.heap.size->T r->A9 3 r) (C:bj (λr=>A9 3 r\/w.heap.size<=r) aH w' [v] (u'.funs.map fW))
  (E:u'.zero=u.zero) (F:u'.vars=u.vars) (G:u'.ce=u.ce):∃cI,ck w' ab ad am A R cI aH n s u' t h cs/\ ∀q r,cI q r->(∃H,A9 H r)\/w.heap.size<=r:=by
 have I:=bz.jX p.doc (xd e) (λr a=>.inl (f r a.2 a.1)) C (λj r J a=>?_) (λr a=>?_)
 .have x:=xe (w:=w) (A9:=A9) (q:=3) (B:=λr=>A9 3 r\/w.heap.size<=r) λr h=>h;refine⟨_,p.row e f ?_ x,x⟩;have:=bz.qb z I;unfold hn;rw[E,F,G];exact this
 .rcases a with a|a
  .exact p.gL.1 3 j r (S8 J) a
  .exact λh=>by have:=y j r h;omega
 .rcases a with a|a
  .exact p.gL.2 3 r a
  .exact λh=>by have:=(p.read r h).2.1;omega
end
theorem OU {m:Int} {w:Int} (a:0<=v) (hw:0<=w):dropped (((m.toNat ||| 2 ^ v.toNat:Nat):Int)) w=(dropped m w||decide (w=v)):=by
 unfold dropped;rw[r8,Nat.testBit_or,Nat.testBit_two_pow];congr 1;exact decide_eq_decide.2 ⟨λh=>Ω,λh=>Ω⟩
theorem D3 {x:bl} (a:0<=v):ax {x with mask:=((x.mask.toNat ||| 2 ^ v.toNat:Nat):Int)}=(ax x).filter λy=>!decide (y=v):=by
 unfold ax;rw[List.filter_filter];refine List.filter_congr λy e=>?_;obtain⟨q,_,rfl⟩:=l7.1 e;rw[OU a Ω];cases dropped x.mask (q:Int)<;>simp
section
variable {w0 w w':x3} {ab ad am ga:Nat} {A R:af} {A9:Nat->af} {aH:af} {n:aS} {s u u':aq} {t:aC} {h:List aC} {cs:List x1} {aL aD lr v:x1} {Q:x1->x3->Prop}
theorem ck.pq {T:af} (p:ck w ab ad am A R A9 aH n s u t h cs) (z:∀q r,A9 q r->r<w.heap.size) (C:cs[3]? =σ v) (e:ae T w w') (f:∀r,r<w.heap.size->T r->A9 0 r) (E:bj (λr=>A9 0 r\/w.heap.size<=r) aH w' [v] (u'.vars.map ax))
  (F:u'.zero=u.zero) (G:u'.vars.map (·.un)=u.vars.map (·.un)) (H:(u'.vars.map λx=>decide (x.gone≠0))=u.vars.map λx=>decide (x.gone≠0)) (I:u'.funs=u.funs) (J:u'.ce=u.ce):
  ∃cI,ck w' ab ad am A R cI aH n s u' t h cs/\ ∀q r,cI q r->(∃K,A9 K r)\/w.heap.size<=r:=by
 have L:=bz.wQ p.doc (xd e) (λr a=>.inl (f r a.2 a.1)) E (λj r M a=>?_) (λr a=>?_)
 .have y:=xe (w:=w) (A9:=A9) (q:=0) (B:=λr=>A9 0 r\/w.heap.size<=r) λr h=>h;refine⟨_,p.row e f ?_ y,y⟩;have:=bz.qb C L;unfold hn;rw[F,G,H,I,J];exact this
 .rcases a with a|a
  .exact p.gL.1 0 j r (S8 M) a
  .exact λh=>by have:=z j r h;omega
 .rcases a with a|a
  .exact p.gL.2 0 r a
  .exact λh=>by have:=(p.read r h).2.1;omega
end
section
variable {w0 w w':x3} {ab ad am ga:Nat} {A R:af} {A9:Nat->af} {aH:af} {n:aS} {s u u':aq} {t:aC} {h:List aC} {cs:List x1} {aL aD lr v:x1} {Q:x1->x3->Prop}
theorem OV {F:af} {c:List x1} {f:b3} (h:bj (α:=hl) F R w c (fW f)) (y:∀r,F r->¬R r):∃aD szv aY e,c=[aD,szv,aY,.bool (decide (f.live≠0))]/\bj e R w [aY] f.cs/\(∀r,e r->F r)/\
  ∀ {w':x3} {bI:Λ},ae e w w'->bj e R w' [aY] bI->bj (α:=hl) F R w' c (fW {f with cs:=bI}):=by
 obtain⟨c1,c2,A,B,rfl,z,L,M,h1,p⟩:=h;obtain⟨N,Z,aI,O,rfl,P,C,E,G,Q⟩:=h1;obtain⟨S,T,V,gw,rfl,W,q,H,I,J⟩:=Q;have p:c2=[.bool (decide (f.live≠0))]:=p;subst p;obtain⟨s,rfl⟩:=V2.1 (show N.length=1 from aj.len G);obtain⟨j,rfl⟩:=V2.1 (show S.length=1 from aj.len I);obtain⟨v3,rfl⟩:=V2.1 (show T.length=1 from aj.len J);have x:∀r,gw r->F r:=λr h=>z r (C r (q r h));refine⟨s,j,v3,gw,rfl,J,x,λ{w' bI} K X=>?_⟩;refine⟨[s,j,v3],[.bool (decide (f.live≠0))],A,B,rfl,z,L,M,⟨[s],[j,v3],aI,O,rfl,P,C,E,aj.U G K λr Y a he=>?_,[j],[v3],V,gw,rfl,W,q,H,aj.U I K λr Y a he=>?_,X⟩,rfl⟩
 .exact a.elim (λa=>E rfl r a (q r he)) (y r (x r he))
 .exact a.elim (λa=>H rfl r a he) (y r (x r he))
end
theorem dD.vars {s:aq} {i:Nat} {x y:bl} (h:dD s) (r:s.vars[i]? =σ x) (w:y.gone=x.gone):dD {s with vars:=s.vars.set i y}:=λf j p v q z a=>by
 have a:(s.vars.set i y)[v.toNat]? =σ z:=a;rw[X6] at a;split at a
 .rename_i e;split at a
  .cases a;subst e;rw[w];exact h f j p v q x r
  .cases a
 .exact h f j p v q z a
theorem dD.funs {s:aq} {f g:b3} (h:dD s) (r:s.funs[j]? =σ f) (I:g.sc=f.sc) (w:g.live≠0->f.live≠0):dD {s with funs:=s.funs.set j g}:=λx a e v p z q=>by
 rcases W3 a with a|rfl
 .exact h x a e v p z q
 .exact h f (x5 r) (w e) v (by rw[<-I];exact p) z q
structure fc where
 kind:Nat
 i:Int
 pos:Int
 v:Int
 c:Int
def eg (s:aq) (i v:Int):Option bl:=if 0<=i then match s.vars[i.toNat]? with
 |some x=>if x.gone=0/\v∈ax x then σ x else ν
 |none=>ν else ν
def dl (s:aq) (j pos v:Int):Option (b3×Int×bl):=if 0<=j/\0<=pos then match s.funs[j.toNat]? with
 |some f=>if f.live≠0 then match f.sc[pos.toNat]? with
  |some u=>(eg s u v).map λx=>(f,u,x)
  |none=>ν
  else ν
 |none=>ν else ν
def iw (k:Int) (s:aq) (f:b3) (pos:Nat) (v:Int):Int:=((bX s f.sc pos v).map (ba f.ac f.cs)).foldl min k
def c6 (k c most:Int):Int:=if ¬(0<=c/\c<=k) then 3 else if most<c then 7 else 0
def fL (x:bl):Int:=match (ax x).map λv=>x.un.getD v.toNat 0 with
 |[]=>-1
 |c::l=>l.foldl min c
def fY (s:aq) (i:Nat) (v:Int):Λ->aq
 |[]=>s
 |w::L=>fY (if w≠v then e2 s i w.toNat else s) i v L
def bh (k:Int) (s:aq) (a:fc):aq×Int:=
 if a.kind=0 then match dl s a.i a.pos a.v with
  |none=>(s,1)
  |some (f,u,x)=>if c6 k a.c (iw k s f a.pos.toNat a.v)≠0 then (s,c6 k a.c (iw k s f a.pos.toNat a.v)) else (er s a.i.toNat f a.pos.toNat u.toNat x a.v (λg=>cA k g a.c) λg=>cL k g a.c,0)
 else if a.kind=1 then match dl s a.i a.pos a.v with
  |none=>(s,1)
  |some (f,u,x)=>if c6 k a.c (x.un.getD a.v.toNat 0)≠0 then (s,c6 k a.c (x.un.getD a.v.toNat 0)) else (er s a.i.toNat f a.pos.toNat u.toNat x a.v (λg=>cL k g a.c) λg=>cA k g a.c,0)
 else if a.kind=2 then match (if 0<=a.i then s.vars[a.i.toNat]? else ν) with
  |none=>(s,1)
  |some x=>if x.gone≠0 then (s,1) else if c6 k a.c (fL x)≠0 then (s,c6 k a.c (fL x)) else (fp s a.i.toNat x (λg=>cA k g a.c) λg=>cL k g a.c,0)
 else if a.kind=3 then match (if 0<=a.i then s.vars[a.i.toNat]? else ν) with
  |none=>(s,1)
  |some x=>if x.gone≠0 then (s,1) else if c6 k a.c (if ax x=[] then-1 else s.zero)≠0 then (s,c6 k a.c (if ax x=[] then-1 else s.zero)) else (fp s a.i.toNat x (λg=>cL k g a.c) λg=>cA k g a.c,0)
 else if a.kind=4 then match eg s a.i a.v with
  |none=>(s,1)
  |some x=>if cL k s.zero (x.un.getD a.v.toNat 0)<k then (s,7) else (e2 s a.i.toNat a.v.toNat,0)
 else match eg s a.i a.v with
  |none=>(s,1)
  |some x=>(fY s a.i.toNat a.v (ax x),0)
theorem mS:∀ (l:Λ) (z c:Int),c<=l.foldl min z↔c<=z/\ ∀x∈l,c<=x
 |[],z,c=>Ξ
 |a::l,z,c=>by
  rw[List.foldl_cons,mS l (min z a) c];rw[List.forall_mem_cons];exact⟨λ⟨h1,e⟩=>⟨Ω,Ω,e⟩,λ⟨h1,e,f⟩=>⟨Ω,f⟩⟩
theorem jZ {most:Int} (h:¬c6 k c most≠0):(0<=c/\c<=k)/\c<=most:=by
 unfold c6 at h;split at h
 .exact absurd Φ h
 .rename_i h1;split at h
  .exact absurd Φ h
  .exact⟨Y7.1 h1,Ω⟩
theorem h5 {s:aq} {i:Int} {x:bl} (h:eg s i v=σ x):0<=i/\s.vars[i.toNat]? =σ x/\x.gone=0/\v∈ax x:=by
 unfold eg at h;split at h
 .rename_i e;split at h
  .rename_i y f;split at h
   .rename_i a;cases h;exact⟨e,f,a.1,a.2⟩
   .cases h
  .cases h
 .cases h
theorem i7 {s:aq} {j pos u:Int} {f:b3} {x:bl} (h:dl s j pos v=σ (f,u,x)):0<=j/\0<=pos/\s.funs[j.toNat]? =σ f/\f.live≠0/\f.sc[pos.toNat]? =σ u/\eg s u v=σ x:=by
 unfold dl at h;split at h
 .rename_i e;split at h
  .rename_i g p;split at h
   .rename_i q;split at h
    .rename_i w hw;cases a:eg s w v with
     |none=>rw[a] at h;cases h
     |some y=>
      rw[a] at h;cases h;exact⟨e.1,e.2,p,q,hw,a⟩
    .cases h
   .cases h
  .cases h
 .cases h
section
variable {k:Int} {sizes a:Λ} {s:aq}
theorem mT {g:Int} (a:0<=g/\g<=k) (e:0<=c/\c<=g):0<=cA k g c/\cA k g c<=k:=by
 unfold cA;split<;>omega
theorem mU {g:Int} (a:0<=g/\g<=k) (e:0<=c):0<=cL k g c/\cL k g c<=k:=by
 unfold cL;omega
theorem gC {u:Nat} {v:Nat} {x:bl} (a:br k sizes s) (e:s.vars[u]? =σ x):0<=x.un.getD v 0/\x.un.getD v 0<=k:=by
 have hk:=a.fV;have f:=(x4.1 e).1;have h:=a.vars;exact DR Ω (a.var u x _ e (x6 Ω)).2.1
theorem lu {f:b3} (a:br k sizes s) (e:f∈s.funs):0<=ba f.ac f.cs t/\ba f.ac f.cs t<=k:=(te a.fV λc h=>⟨a.fV,(a.funs f e).1.im c h⟩).2
theorem tI {x:bl} (h:v∈ax x) (a:c<=fL x):c<=x.un.getD v.toNat 0:=by
 unfold fL at a;have hm:x.un.getD v.toNat 0∈(ax x).map λv=>x.un.getD v.toNat 0:=l7.2 ⟨v,h,rfl⟩;generalize (ax x).map (λv=>x.un.getD v.toNat 0)=l at a hm;cases l with
 |nil=>cases hm
 |cons b l=>
  have h1:=(mS l b c).1 a;rcases V1.1 hm with e|e
  .rw[e];exact h1.1
  .exact h1.2 _ e
theorem q3 {i:Nat} {v:Int} {x:bl}:∀ (L:Λ) (s:aq),br k sizes s->s.vars[i]? =σ x->(∀w∈L,0<=w/\w<x.un.length)->br k sizes (fY s i v L)/\(dD s->dD (fY s i v L))/\
  ∀bf,lh s a->x.gone=0->a[i]? =σ bf->hf k (fY s i v L) a=if bf∈L/\bf≠v then k else hf k s a
 |[],s,z,j,_=>⟨z,id,λbf _ _ _=>by rw[if_neg Ξ];rfl⟩
 |w::L,s,z,j,C=>by
  unfold fY;by_cases hw:w≠v
  .rw[if_pos hw];have G:=C w (.head _);have J:=xc z j G;have H:=(x4.1 j).1;have K:(e2 s i w.toNat).vars[i]? =σ {x with mask:=((x.mask.toNat ||| 2 ^ w.toNat:Nat):Int)}:=by rw[mQ j];exact j9 H
   obtain⟨h1,E,F⟩:=q3 L (e2 s i w.toNat) J K λu hu=>C u (.tail _ hu);refine⟨h1,λM=>E ?_,λbf p A B=>?_⟩
   .rw[mQ j];exact dD.vars M j rfl
   .have N:lh (e2 s i w.toNat) a:=by
     rw[mQ j];refine⟨by show a.length=(s.vars.set _ _).length;rw[Z5];exact p.1,λq y b r I=>?_⟩;have r:(s.vars.set i {x with mask:=((x.mask.toNat ||| 2 ^ w.toNat:Nat):Int)})[q]? =σ y:=r;by_cases e:i=q
     .subst e;rw[j9 H] at r;cases r;exact p.2 i x b j I
     .rw[Y0 e] at r;exact p.2 q y b r I
    rw[F bf N A B,DZ z p j A G B];by_cases e:bf=w
    .subst e;rw[if_pos rfl,if_pos (show bf∈bf::L/\bf≠v from⟨.head _,hw⟩)];split<;>rfl
    .rw[if_neg e];by_cases f:bf∈L/\bf≠v
     .rw[if_pos f,if_pos ⟨.tail _ f.1,f.2⟩]
     .rw[if_neg f,if_neg λh=>f ⟨(V1.1 h.1).resolve_left e,h.2⟩]
  .rw[if_neg hw];obtain⟨h1,E,F⟩:=q3 L s z j λu hu=>C u (.tail _ hu);refine⟨h1,E,λbf p A B=>?_⟩;rw[F bf p A B];have hw:=Y7.1 hw;by_cases f:bf∈L/\bf≠v
   .rw[if_pos f,if_pos ⟨.tail _ f.1,f.2⟩]
   .rw[if_neg f,if_neg λh=>f ⟨(V1.1 h.1).resolve_left λe=>h.2 (e.trans hw),h.2⟩]
theorem dD.zero (h:dD s):dD {s with zero:=c}:=h
theorem D4 {u:Nat} {f:b3} {x:bl} {tup un:Int->Int} (h:dD s) (a:s.funs[j]? =σ f) (e:s.vars[u]? =σ x):dD (er s j f pos u x v tup un):=
 dD.vars (s:=dH s j f (cZ tup (bX s f.sc pos v) f.ac f.cs)) (dD.funs h a rfl id) e rfl
theorem D5 {u:Nat} {x:bl} {g z:Int->Int} (h:dD s) (a:s.vars[u]? =σ x):dD (fp s u x g z):=dD.zero (dD.vars h a rfl)
def pr (k:Int) (s:aq) (m:fc) (s':aq) (e:Int) (a:Λ):Prop:=hf k s' a=if 5<=m.kind/\e=0/\a[m.i.toNat]? ≠σ m.v then k else hf k s a
theorem OW {m:fc} (p:br k sizes s) (G:dD s):br k sizes (bh k s m).1/\dD (bh k s m).1/\ ∀a,lh s a->pr k s m (bh k s m).1 (bh k s m).2 a:=by
 have hk:=p.fV;have C:∀e:Int,e≠0->br k sizes s/\dD s/\ ∀a,lh s a->pr k s m s e a:=λe he=>⟨p,G,λa _=>by unfold pr;rw[if_neg λh=>he h.2.1]⟩;have low:∀ {s':aq} {e:Int},m.kind<5->br k sizes s'->dD s'->(∀a,lh s a->hf k s' a=hf k s a)->br k sizes s'/\dD s'/\ ∀a,lh s a->pr k s m s' e a:=λhm h1 L U=>⟨h1,L,λa y=>by unfold pr;rw[if_neg λh=>Ω];exact U a y⟩;unfold bh;split
 .rename_i Q;cases z:dl s m.i m.pos m.v with
  |none=>exact C 1 Φ
  |some q=>
   obtain⟨f,u,x⟩:=q;simp only;split
   .rename_i he;exact C _ he
   .rename_i he;obtain⟨A,hm⟩:=jZ he;simp only;obtain⟨_,_,H,M,hu,B⟩:=i7 z;obtain⟨ab,j,F,R⟩:=h5 B;have I:=x5 H;have V:∀t∈bX s f.sc m.pos.toNat m.v,m.c<=ba f.ac f.cs t:=λt E=>((mS _ _ _).1 hm).2 _ (l7.2 ⟨t,E,rfl⟩);have S:f.sc[m.pos.toNat]? =σ ((u.toNat:Nat):Int):=by rw[hu];congr 1;omega
    have E:∀t∈bX s f.sc m.pos.toNat m.v,0<=cA k (ba f.ac f.cs t) m.c/\cA k (ba f.ac f.cs t) m.c<=k:=λt E=>mT (lu p I) ⟨A.1,V t E⟩;have N:=mU (k:=k) (gC (v:=m.v.toNat) p j) A.1;refine low Ω (DV p H j E N) (D4 G H j) λa y=>DW p y H M S j R (G f I M) E N λt E r J=>?_;have:=lu (t:=t) p I;exact tB J ⟨V t E,this.2⟩ (gC p j) A.1
 split
 .rename_i _ Q;cases z:dl s m.i m.pos m.v with
  |none=>exact C 1 Φ
  |some q=>
   obtain⟨f,u,x⟩:=q;simp only;split
   .rename_i he;exact C _ he
   .rename_i he;obtain⟨A,hm⟩:=jZ he;simp only;obtain⟨_,_,H,M,hu,B⟩:=i7 z;obtain⟨ab,j,F,R⟩:=h5 B;have I:=x5 H;have S:f.sc[m.pos.toNat]? =σ ((u.toNat:Nat):Int):=by rw[hu];congr 1;omega
    have E:∀t∈bX s f.sc m.pos.toNat m.v,0<=cL k (ba f.ac f.cs t) m.c/\cL k (ba f.ac f.cs t) m.c<=k:=λt E=>mU (lu p I) A.1;have N:=mT (k:=k) (gC (v:=m.v.toNat) p j) ⟨A.1,hm⟩;refine low Ω (DV p H j E N) (D4 G H j) λa y=>DW p y H M S j R (G f I M) E N λt E r J=>?_;have h1:=lu (t:=t) p I;have L:=gC (v:=m.v.toNat) p j;have:=tB (k:=k) J ⟨hm,L.2⟩ h1 A.1;omega
 split
 .rename_i _ _ Q;cases z:(if 0<=m.i then s.vars[m.i.toNat]? else ν) with
  |none=>exact C 1 Φ
  |some x=>
   have j:s.vars[m.i.toNat]? =σ x:=by split at z;exact z;cases z
   simp only;split
   .exact C 1 Φ
   split
   .rename_i he;exact C _ he
   .rename_i F he;obtain⟨A,hm⟩:=jZ he;simp only;have W:∀v∈ax x,m.c<=x.un.getD v.toNat 0:=λv B=>tI B hm;have O:∀v∈ax x,0<=cA k (x.un.getD v.toNat 0) m.c/\cA k (x.un.getD v.toNat 0) m.c<=k:=λv B=>mT (gC p j) ⟨A.1,W v B⟩;have P:=mU (k:=k) p.zero A.1;refine low Ω (xb p j O P) (D5 G j) λa y=>DY p y j (Y7.1 F) O P λv B r J=>?_;exact tB J ⟨W v B,(gC p j).2⟩ p.zero A.1
 split
 .rename_i _ _ _ Q;cases z:(if 0<=m.i then s.vars[m.i.toNat]? else ν) with
  |none=>exact C 1 Φ
  |some x=>
   have j:s.vars[m.i.toNat]? =σ x:=by split at z;exact z;cases z
   simp only;obtain⟨X,Y⟩:∃X,X=(if ax x=[] then-1 else s.zero):=⟨_,rfl⟩;rw[<-Y];split
   .exact C 1 Φ
   split
   .rename_i he;exact C _ he
   .rename_i F he;obtain⟨A,hm⟩:=jZ he;simp only;have Z:m.c<=s.zero:=by
     rw[Y] at hm;split at hm
     .omega
     .exact hm
    have O:∀v∈ax x,0<=cL k (x.un.getD v.toNat 0) m.c/\cL k (x.un.getD v.toNat 0) m.c<=k:=λv B=>mU (gC p j) A.1;have P:=mT (k:=k) p.zero ⟨A.1,Z⟩;refine low Ω (xb p j O P) (D5 G j) λa y=>DY p y j (Y7.1 F) O P λv B r J=>?_;have:=tB (k:=k) J ⟨Z,p.zero.2⟩ (gC (v:=v.toNat) p j) A.1;omega
 split
 .rename_i _ _ _ _ Q;cases z:eg s m.i m.v with
  |none=>exact C 1 Φ
  |some x=>
   obtain⟨_,j,F,B⟩:=h5 z;simp only;split
   .exact C 7 Φ
   .rename_i he;have aa:=(gS.1 B).1;simp only;refine low Ω (xc p j aa) (by rw[mQ j];exact dD.vars G j rfl) λa y=>?_;have ad:=(x4.1 j).1;have ae:=y.1;obtain⟨bf,K⟩:=aE (l:=a) (i:=m.i.toNat) Ω;rw[DZ p y j F aa K];split
    .rename_i e;subst e;rw[ob p];split
     .have af:(s.vars.zip a)[m.i.toNat]? =σ (x,m.v):=List.getElem?_zip_eq_some.2 ⟨j,K⟩;have h1:=qZ (tC (a:=a) p) (i:=m.i.toNat) (x:=dy (x,m.v)) (by rw[x8,af];rfl);have L:=qY _ (q0 (a:=a) p);have ah:dy (x,m.v)=x.un.getD m.v.toNat 0:=by unfold dy;rw[if_neg (by simp[F])]
      unfold cL at he;omega
     .rfl
    .rfl
 .rename_i h1 L U ai aj;cases z:eg s m.i m.v with
  |none=>exact C 1 Φ
  |some x=>
   obtain⟨_,j,F,B⟩:=h5 z;simp only;have T:∀w∈ax x,0<=w/\w<x.un.length:=λw hw=>(gS.1 hw).1;refine⟨(q3 (a:=[]) (ax x) s p j T).1,(q3 (a:=[]) (ax x) s p j T).2.1 G,λa y=>?_⟩;have ad:=(x4.1 j).1;have ae:=y.1;obtain⟨bf,K⟩:=aE (l:=a) (i:=m.i.toNat) Ω;unfold pr;rw[(q3 (ax x) s p j T).2.2 bf y F K,K];by_cases e:bf=m.v
   .rw[if_neg λh=>h.2 e,if_neg λh=>h.2.2 (by rw[e])]
   .rw[if_pos (c:=5<=m.kind/\_) ⟨Ω,rfl,λh=>e (c7 h)⟩];split
    .rfl
    .rename_i ag;exact OJ y j F K λh=>ag ⟨h,e⟩
end
theorem OX {f g:Int->Int} {cs:Λ} (h:cs.length<=(a8 ac).length):cZ g L ac (cZ f L ac cs)=cZ (λc=>g (f c)) L ac cs:=by
 apply Y6;intro i;cases a:cs[i]? with
 |none=>
  have h1:=S4.1 a;rw[Z4 (by rw[jr,jr]<;>(try rw[jr])<;>omega),Z4 (by rw[jr]<;>omega)]
 |some c=>
  obtain⟨t,e⟩:=aE (l:=a8 ac) (i:=i) (by have:=(x4.1 a).1;omega);have h1:=kE (f:=f) (L:=L) e a;rw[kE e h1,kE e a];split<;>rfl
theorem OY {f:Int->Int} {cs:Λ} (I:dv ac) (q:cs.length<=(a8 ac).length) (h:∀t∈L,f (ba ac cs t)=ba ac cs t):cZ f L ac cs=cs:=by
 apply Y6;intro i;cases a:cs[i]? with
 |none=>
  have h1:=S4.1 a;rw[Z4 (by rw[jr]<;>omega)]
 |some c=>
  obtain⟨t,j⟩:=aE (l:=a8 ac) (i:=i) (by have:=(x4.1 a).1;omega);rw[kE j a];split
  .rename_i p;have e:ba ac cs t=c:=by
    unfold ba;rw[hW I j];simp only;rw[r8,u4,a];rfl
   have:=h t p;rw[e] at this;rw[this]
  .rfl
section
variable {k:Int} {sizes:Λ} {s:aq}
theorem OZ {i:Int} {u:Nat} {x y:bl} {s':aq} (a:s.vars[u]? =σ x) (f:s'.vars=s.vars.set u y) (h:ax y=ax x):cS s' i=cS s i:=by
 unfold cS;rw[f,X6];by_cases e:u=i.toNat
 .subst e;rw[if_pos rfl,if_pos (x4.1 a).1,a];exact h
 .rw[if_neg e]
theorem xf {x:bl} (h:un.length=x.un.length):ax {x with un:=un}=ax x:=by
 unfold ax;rw[h]
theorem D6 {s s':aq} {pos:Nat} {v:Int} (h:∀i,cS s' i=cS s i):∀ (sc:Λ) (p:Nat),h4 s' pos v sc p=h4 s pos v sc p
 |[],_=>rfl
 |u::sc,p=>by unfold h4;rw[D6 h sc (p+1),h u]
theorem D7 {s s':aq} (h:∀i,cS s' i=cS s i):bX s' sc pos v=bX s sc pos v:=by
 unfold bX;rw[D6 h]
theorem D8 {j pos u:Int} {f:b3} {x:bl} {tup un:Int->Int} (h:dl s j pos v=σ (f,u,x)):
  dl (er s j.toNat f pos.toNat u.toNat x v tup un) j pos v=σ ({f with cs:=cZ tup (bX s f.sc pos.toNat v) f.ac f.cs},u,{x with un:=x.un.set v.toNat (un (x.un.getD v.toNat 0))}):=by
 obtain⟨h1,a,e,p,hu,q⟩:=i7 h;obtain⟨r,w,y,z⟩:=h5 q;have A:=(x4.1 e).1;have B:=(x4.1 w).1;have C:(er s j.toNat f pos.toNat u.toNat x v tup un).funs[j.toNat]? =σ {f with cs:=cZ tup (bX s f.sc pos.toNat v) f.ac f.cs}:=j9 A;have E:(er s j.toNat f pos.toNat u.toNat x v tup un).vars[u.toNat]? =σ {x with un:=x.un.set v.toNat (un (x.un.getD v.toNat 0))}:=j9 B;have F:eg (er s j.toNat f pos.toNat u.toNat x v tup un) u v=σ {x with un:=x.un.set v.toNat (un (x.un.getD v.toNat 0))}:=by
  unfold eg;rw[if_pos r,E];simp only;rw[if_pos ⟨y,by rw[xf (by rw[Z5])];exact z⟩]
 unfold dl;rw[if_pos ⟨h1,a⟩,C];simp only;rw[if_pos p,hu];simp only;rw[F];rfl
theorem D9 {u:Nat} {f:b3} {x:bl} {tup un:Int->Int} (a:s.vars[u]? =σ x):∀i,cS (er s j f pos u x v tup un) i=cS s i:=λi=>
 OZ a rfl (xf (by rw[Z5]))
theorem Ea {j pos u:Int} {f:b3} {x:bl} {a dC p dY:Int->Int} (q:br k sizes s) (h:dl s j pos v=σ (f,u,x)):
  er (er s j.toNat f pos.toNat u.toNat x v a dC) j.toNat {f with cs:=cZ a (bX s f.sc pos.toNat v) f.ac f.cs} pos.toNat u.toNat {x with un:=x.un.set v.toNat (dC (x.un.getD v.toNat 0))} v p dY=
   er s j.toNat f pos.toNat u.toNat x v (λc=>p (a c)) λc=>dY (dC c):=by
 obtain⟨h1,B,r,C,hu,w⟩:=i7 h;obtain⟨E,y,F,z⟩:=h5 w;obtain⟨G,H⟩:=js q (x5 r);have I:=(gS.1 z).1;have e:=D7 (sc:=f.sc) (pos:=pos.toNat) (v:=v) (D9 (j:=j.toNat) (pos:=pos.toNat) (f:=f) (v:=v) (tup:=a) (un:=dC) y);have A:(x.un.set v.toNat (dC (x.un.getD v.toNat 0))).getD v.toNat 0=dC (x.un.getD v.toNat 0):=by
  rw[u4 (l:=x.un.set _ _),j9 Ω];rfl
 unfold er at e ⊢;unfold ep dH at e ⊢;simp only at e ⊢;rw[e,A,OX Ω,List.set_set,List.set_set,List.set_set]
theorem ps {a:fc} {f:b3} {u:Int} {x:bl} (p:dl s a.i a.pos a.v=σ (f,u,x)):
  (a.kind=0->(bh k s a).2=0->bh k s a=(er s a.i.toNat f a.pos.toNat u.toNat x a.v (λg=>cA k g a.c) λg=>cL k g a.c,0)/\(0<=a.c/\a.c<=k)/\a.c<=iw k s f a.pos.toNat a.v)/\
  (a.kind=0->(0<=a.c/\a.c<=k)->a.c<=iw k s f a.pos.toNat a.v->bh k s a=(er s a.i.toNat f a.pos.toNat u.toNat x a.v (λg=>cA k g a.c) λg=>cL k g a.c,0))/\
  (a.kind=1->(bh k s a).2=0->bh k s a=(er s a.i.toNat f a.pos.toNat u.toNat x a.v (λg=>cL k g a.c) λg=>cA k g a.c,0)/\(0<=a.c/\a.c<=k)/\a.c<=x.un.getD a.v.toNat 0)/\
  (a.kind=1->(0<=a.c/\a.c<=k)->a.c<=x.un.getD a.v.toNat 0->bh k s a=(er s a.i.toNat f a.pos.toNat u.toNat x a.v (λg=>cL k g a.c) λg=>cA k g a.c,0)):=by
 have r:∀ {m:Int},(0<=a.c/\a.c<=k)->a.c<=m->c6 k a.c m=0:=λh1 q=>by
  unfold c6;rw[if_neg (λh=>h h1),if_neg Ω]
 refine⟨λj he=>?_,λj h1 q=>?_,λj he=>?_,λj h1 q=>?_⟩
 .unfold bh at he ⊢;rw[if_pos j,p] at he ⊢;simp only at he ⊢;split at he
  .rename_i e;exact absurd he e
  .rename_i e;rw[if_neg e];exact⟨rfl,jZ e⟩
 .unfold bh;rw[if_pos j,p];simp only;rw[if_neg (λh=>h (r h1 q))]
 .unfold bh at he ⊢;rw[if_neg Ω,if_pos j,p] at he ⊢;simp only at he ⊢;split at he
  .rename_i e;exact absurd he e
  .rename_i e;rw[if_neg e];exact⟨rfl,jZ e⟩
 .unfold bh;rw[if_neg Ω,if_pos j,p];simp only;rw[if_neg (λh=>h (r h1 q))]
end
theorem O0 {f g:Int->Int} {cs:Λ} (I:dv ac) (q:cs.length<=(a8 ac).length) (h:∀t∈L,f (ba ac cs t)=g (ba ac cs t)):cZ f L ac cs=cZ g L ac cs:=by
 apply Y6;intro i;cases a:cs[i]? with
 |none=>
  have h1:=S4.1 a;rw[Z4 (by rw[jr]<;>omega),Z4 (by rw[jr]<;>omega)]
 |some c=>
  obtain⟨t,j⟩:=aE (l:=a8 ac) (i:=i) (by have:=(x4.1 a).1;omega);rw[kE j a,kE j a];split
  .rename_i p;have e:ba ac cs t=c:=by
    unfold ba;rw[hW I j];simp only;rw[r8,u4,a];rfl
   have:=h t p;rw[e] at this;rw[this]
  .rfl
section
variable {k:Int} {sizes:Λ} {s:aq}
theorem Eb {u:Nat} {f:b3} {x:bl} {a e dC dY:Int->Int} (h:br k sizes s) (p:f∈s.funs) (q:∀t∈bX s f.sc pos v,a (ba f.ac f.cs t)=e (ba f.ac f.cs t)) (hu:dC (x.un.getD v.toNat 0)=dY (x.un.getD v.toNat 0)):
  er s j f pos u x v a dC=er s j f pos u x v e dY:=by
 obtain⟨r,w⟩:=js h p;unfold er;rw[O0 r Ω q,hu]
theorem q4 {f:b3} (a:br k sizes s) (e:f∈s.funs) (p:∀u,f.sc[pos]? =σ u->v∈cS s u) (h:t∈bX s f.sc pos v):∃m:Nat,cH f.ac t 0=σ (m:Int):=by
 obtain⟨j,q,_⟩:=a.funs f e;obtain⟨r,_⟩:=js a e;rw[w4 a (λu hu=>⟨(j.scope.1 u hu).1,j.vars u hu⟩) p,<-q] at h;obtain⟨i,hi⟩:=X9.1 (T4.1 h).1;exact⟨i,hW r hi⟩
theorem O1 {j pos u:Int} {f:b3} {x:bl} (h:dl s j pos v=σ (f,u,x)):∀u',f.sc[pos.toNat]? =σ u'->v∈cS s u':=λu' a=>by
 obtain⟨_,_,_,_,hu,e⟩:=i7 h;obtain⟨_,p,_,q⟩:=h5 e;rw[hu] at a;cases a;unfold cS;rw[p];exact q
theorem room_le {f:b3}:c<=iw k s f pos v↔c<=k/\ ∀t∈bX s f.sc pos v,c<=ba f.ac f.cs t:=by
 unfold iw;rw[mS];refine and_congr_right λ_=>⟨λh t a=>h _ (l7.2 ⟨t,a,rfl⟩),λh x e=>?_⟩;obtain⟨t,a,rfl⟩:=l7.1 e;exact h t a
theorem O2 {j pos u:Int} {f:b3} {x:bl} {tup:Int->Int} (a:br k sizes s) (h:dl s j pos v=σ (f,u,x)) (e:t∈bX s f.sc pos.toNat v):
  ba f.ac (cZ tup (bX s f.sc pos.toNat v) f.ac f.cs) t=tup (ba f.ac f.cs t):=by
 have p:=x5 (i7 h).2.2.1;obtain⟨q,r⟩:=js a p;obtain⟨m,hm⟩:=q4 a p (O1 h) e;rw[w7 q r hm,if_pos e]
theorem tJ {k g b:Int} (e:g<=k) (f:0<=a):cA k (cA k g a) b=cA k g (a+b):=by
 unfold cA;split
 .rename_i h;simp
 .rename_i h;rw[if_neg Ω];omega
theorem tK {k g b:Int} (e:0<=b):cL k (cL k g a) b=cL k g (a+b):=by
 unfold cL;omega
theorem tL {k g b:Int} (e:g<=k) (h:a+b<=g) (f:0<=a):b<=cA k g a:=by
 unfold cA;split<;>omega
theorem O3 {m:fc} {c1 c2:Int} (h:br k sizes s) (hk:m.kind<2) (h1:0<=c1) (F:0<=c2) (he:(bh k s {m with c:=c1+c2}).2=0):
  (bh k s {m with c:=c1}).2=0/\bh k (bh k s {m with c:=c1}).1 {m with c:=c2}=((bh k s {m with c:=c1+c2}).1,0):=by
 cases e:dl s m.i m.pos m.v with
 |none=>
  exfalso;unfold bh at he;simp only[e] at he;split at he
  .cases he
  .rw[if_pos Ω] at he;cases he
 |some q=>
  obtain⟨f,u,x⟩:=q;obtain⟨_,_,I,_,_,J⟩:=i7 e;obtain⟨_,G,_,K⟩:=h5 J;have y:=x5 I;have M:=(gS.1 K).1;have L:∀c,(x.un.set m.v.toNat c).getD m.v.toNat 0=c:=λc=>by
   rw[u4,j9 Ω];rfl
  have H:=gC (v:=m.v.toNat) h G;by_cases p:m.kind=0
  .obtain⟨A,w,j⟩:=(ps (a:={m with c:=c1+c2}) e).1 p he;have j:=room_le.1 j;have w:0<=c1+c2/\c1+c2<=k:=w;have B:=(ps (a:={m with c:=c1}) e).2.1 p (show 0<=c1/\c1<=k by omega) (room_le.2 ⟨show c1<=k by omega,λt r=>by have:=j.2 t r;simp only at this ⊢;omega⟩);rw[B];refine⟨rfl,?_⟩;have C:=D8 (tup:=λg=>cA k g c1) (un:=λg=>cL k g c1) e;have E:=(ps (k:=k) (a:={m with c:=c2}) C).2.1 p (show 0<=c2/\c2<=k by omega) (room_le.2 ⟨show c2<=k by omega,λt r=>?_⟩)
   .rw[E,A];simp only;rw[Ea h e];refine congrArg (λz=>(z,(0:Int))) ?_;refine Eb h y (λt _=>?_) ?_
    .exact tJ (lu h y).2 h1
    .exact tK F
   .simp only at r ⊢;rw[D7 (D9 G)] at r;rw[O2 h e r];have:=j.2 t r;exact tL (lu h y).2 this h1
  .have p:m.kind=1:=Ω
   obtain⟨A,w,j⟩:=(ps (a:={m with c:=c1+c2}) e).2.2.1 p he;have w:0<=c1+c2/\c1+c2<=k:=w;have j:c1+c2<=x.un.getD m.v.toNat 0:=j;have B:=(ps (a:={m with c:=c1}) e).2.2.2 p (show 0<=c1/\c1<=k by omega) (show c1<=x.un.getD m.v.toNat 0 by omega);rw[B];refine⟨rfl,?_⟩;have C:=D8 (tup:=λg=>cL k g c1) (un:=λg=>cA k g c1) e;have E:=(ps (k:=k) (a:={m with c:=c2}) C).2.2.2 p (show 0<=c2/\c2<=k by omega) (by simp only;rw[L];exact tL H.2 j h1);rw[E,A];simp only;rw[Ea h e];refine congrArg (λz=>(z,(0:Int))) ?_;refine Eb h y (λt _=>?_) ?_
   .exact tK F
   .exact tJ H.2 h1
end
theorem Ec {m:Λ} (a:l.length=m.length) (h:∀i,i<l.length->l.getD i 0=m.getD i 0):l=m:=by
 apply Y6;intro i;by_cases hi:i<l.length
 .have:=h i hi;rw[u4,u4,x6 hi,x6 Ω,V8,V8] at this;rw[x6 hi,x6 Ω,this]
 .rw[Z4 Ω,Z4 Ω]
theorem q5 {g:Int->Int} {L:Λ} {i:Nat} (a:L.Nodup) (e:∀v∈L,0<=v/\v<un.length):(dh g un L).getD i 0=if (i:Int)∈L then g (un.getD i 0) else un.getD i 0:=by
 have:=pn (g:=g) L un (i:Int) a e Ω;rwa [r8] at this
theorem O4 {g h:Int->Int} {L:Λ} (a:L.Nodup) (e:∀v∈L,0<=v/\v<un.length):dh h (dh g un L) L=dh (λc=>h (g c)) un L:=by
 refine Ec (by rw[kF,kF,kF]) λi _=>?_;rw[q5 a (λv f=>by rw[kF];exact e v f),q5 a e,q5 a e];by_cases hi:(i:Int)∈L
 .rw[if_pos hi,if_pos hi,if_pos hi]
 .rw[if_neg hi,if_neg hi,if_neg hi]
theorem O5 {g h:Int->Int} {L:Λ} (a:L.Nodup) (e:∀v∈L,0<=v/\v<un.length) (he:∀v∈L,g (un.getD v.toNat 0)=h (un.getD v.toNat 0)):dh g un L=dh h un L:=by
 refine Ec (by rw[kF,kF]) λi _=>?_;rw[q5 a e,q5 a e];by_cases hi:(i:Int)∈L
 .rw[if_pos hi,if_pos hi];have:=he _ hi;rwa [r8] at this
 .rw[if_neg hi,if_neg hi]
theorem O6 {x:bl} (p:ax x≠[]) (h:∀v∈ax x,c<=x.un.getD v.toNat 0):c<=fL x:=by
 unfold fL;have a:∀y∈(ax x).map λv=>x.un.getD v.toNat 0,c<=y:=λy f=>by
  obtain⟨v,q,rfl⟩:=l7.1 f;exact h v q
 have j:(ax x).map (λv=>x.un.getD v.toNat 0)≠[]:=λe=>p (List.map_eq_nil_iff.1 e);generalize (ax x).map (λv=>x.un.getD v.toNat 0)=l at a j;cases l with
 |nil=>exact absurd rfl j
 |cons b l=>exact (mS l b c).2 ⟨a b (.head _),λy f=>a y (.tail _ f)⟩
theorem O7 {x:bl} (h:0<=fL x):ax x≠[]:=λe=>by
 unfold fL at h;rw[e] at h;simp at h
section
variable {k:Int} {sizes:Λ} {s:aq}
theorem tM (x:bl):∀v∈ax x,0<=v/\v<x.un.length:=λ_ a=>(gS.1 a).1
theorem tN {x:bl} {g:Int->Int} {L:Λ}:ax {x with un:=dh g x.un L}=ax x:=xf (kF _ _)
theorem Ed {u:Nat} {x:bl} {g z:Int->Int} (a:s.vars[u]? =σ x):(fp s u x g z).vars[u]? =σ {x with un:=dh g x.un (ax x)}:=j9 (x4.1 a).1
theorem Ee {u:Nat} {x:bl} {g z h y:Int->Int}:fp (fp s u x g z) u {x with un:=dh g x.un (ax x)} h y=fp s u x (λc=>h (g c)) λc=>y (z c):=by
 unfold fp ep;rw[tN];simp only;rw[O4 (mP x) (tM x),List.set_set]
theorem Ef {u:Nat} {x:bl} {g z h y:Int->Int} (a:∀v∈ax x,g (x.un.getD v.toNat 0)=h (x.un.getD v.toNat 0)) (e:z s.zero=y s.zero):fp s u x g z=fp s u x h y:=by
 unfold fp;rw[O5 (mP x) (tM x) a,e]
theorem pt {a:fc} {x:bl} (w:0<=a.i) (y:s.vars[a.i.toNat]? =σ x) (f:x.gone=0):
  (a.kind=2->(bh k s a).2=0->bh k s a=(fp s a.i.toNat x (λg=>cA k g a.c) λg=>cL k g a.c,0)/\(0<=a.c/\a.c<=k)/\a.c<=fL x)/\
  (a.kind=2->(0<=a.c/\a.c<=k)->a.c<=fL x->bh k s a=(fp s a.i.toNat x (λg=>cA k g a.c) λg=>cL k g a.c,0))/\
  (a.kind=3->(bh k s a).2=0->bh k s a=(fp s a.i.toNat x (λg=>cL k g a.c) λg=>cA k g a.c,0)/\(0<=a.c/\a.c<=k)/\a.c<=(if ax x=[] then-1 else s.zero))/\
  (a.kind=3->(0<=a.c/\a.c<=k)->a.c<=(if ax x=[] then-1 else s.zero)->bh k s a=(fp s a.i.toNat x (λg=>cL k g a.c) λg=>cA k g a.c,0)):=by
 have q:∀ {m:Int},(0<=a.c/\a.c<=k)->a.c<=m->c6 k a.c m=0:=λh1 j=>by
  unfold c6;rw[if_neg (λh=>h h1),if_neg Ω]
 generalize r:(if ax x=[] then-1 else s.zero)=z;have p:(if 0<=a.i then s.vars[a.i.toNat]? else ν)=σ x:=by rw[if_pos w,y]
 refine⟨λhk he=>?_,λhk h1 j=>?_,λhk he=>?_,λhk h1 j=>?_⟩
 .unfold bh at he ⊢;rw[if_neg Ω,if_neg Ω,if_pos hk,p] at he ⊢;simp only at he ⊢;rw[if_neg (λh=>h f)] at he ⊢;split at he
  .rename_i e;exact absurd he e
  .rename_i e;rw[if_neg e];exact⟨rfl,jZ e⟩
 .unfold bh;rw[if_neg Ω,if_neg Ω,if_pos hk,p];simp only;rw[if_neg (λh=>h f),if_neg (λh=>h (q h1 j))]
 .unfold bh at he ⊢;rw[if_neg Ω,if_neg Ω,if_neg Ω,if_pos hk,p] at he ⊢;simp only[r] at he ⊢;rw[if_neg (λh=>h f)] at he ⊢;split at he
  .rename_i e;exact absurd he e
  .rename_i e;rw[if_neg e];exact⟨rfl,jZ e⟩
 .unfold bh;rw[if_neg Ω,if_neg Ω,if_neg Ω,if_pos hk,p];simp only[r];rw[if_neg (λh=>h f),if_neg (λh=>h (q h1 j))]
theorem O8 {a:fc} (hk:a.kind=2\/a.kind=3) (he:(bh k s a).2=0):0<=a.i/\ ∃x,s.vars[a.i.toNat]? =σ x/\x.gone=0:=by
 by_cases e:0<=a.i
 .refine⟨e,?_⟩;cases f:s.vars[a.i.toNat]? with
  |none=>
   exfalso;unfold bh at he;rcases hk with hk|hk<;>simp[hk,e,f] at he
  |some x=>
   refine⟨x,rfl,?_⟩;refine Decidable.byContradiction λh=>?_;unfold bh at he;rcases hk with hk|hk<;>simp[hk,e,f,h] at he
 .exfalso;unfold bh at he;rcases hk with hk|hk<;>simp[hk,e] at he
theorem O9 {m:fc} {c1 c2:Int} (y:br k sizes s) (hk:m.kind=2\/m.kind=3) (h1:0<=c1) (F:0<=c2) (he:(bh k s {m with c:=c1+c2}).2=0):
  (bh k s {m with c:=c1}).2=0/\bh k (bh k s {m with c:=c1}).1 {m with c:=c2}=((bh k s {m with c:=c1+c2}).1,0):=by
 obtain⟨j,x,f,p⟩:=O8 (a:={m with c:=c1+c2}) hk he;have j:0<=m.i:=j;have f:s.vars[m.i.toNat]? =σ x:=f;have G:=λv=>gC (v:=v) y f;rcases hk with hk|hk
 .obtain⟨A,q,h⟩:=(pt (k:=k) (a:={m with c:=c1+c2}) j f p).1 hk he;have q:0<=c1+c2/\c1+c2<=k:=q;have h:c1+c2<=fL x:=h;have r:=O7 (x:=x) Ω;have B:=(pt (k:=k) (a:={m with c:=c1}) j f p).2.1 hk (show 0<=c1/\c1<=k by omega) (show c1<=fL x by omega);rw[B];refine⟨rfl,?_⟩;have C:=Ed (g:=λg=>cA k g c1) (z:=λg=>cL k g c1) f;have E:=(pt (k:=k) (a:={m with c:=c2}) j C p).2.1 hk (show 0<=c2/\c2<=k by omega) (O6 (by rw[tN];exact r) λv w=>?_)
  .rw[E,A];simp only;rw[Ee];refine congrArg (λz=>(z,(0:Int))) ?_;refine Ef (λv _=>?_) ?_
   .exact tJ (G _).2 h1
   .exact tK F
  .rw[tN] at w;have H:=tM x v w;show c2<=(dh (λg=>cA k g c1) x.un (ax x)).getD v.toNat 0;rw[pn _ _ _ (mP x) (tM x) H.1,if_pos w];exact tL (G _).2 (by have:=tI w h;exact this) h1
 .obtain⟨A,q,h⟩:=(pt (k:=k) (a:={m with c:=c1+c2}) j f p).2.2.1 hk he;have q:0<=c1+c2/\c1+c2<=k:=q;have h:c1+c2<=if ax x=[] then-1 else s.zero:=h;have r:ax x≠[]:=λe=>by rw[if_pos e] at h;omega
  rw[if_neg r] at h;have B:=(pt (k:=k) (a:={m with c:=c1}) j f p).2.2.2 hk (show 0<=c1/\c1<=k by omega) (by rw[if_neg r];show c1<=s.zero;omega);rw[B];refine⟨rfl,?_⟩;have C:=Ed (g:=λg=>cL k g c1) (z:=λg=>cA k g c1) f;have E:=(pt (k:=k) (a:={m with c:=c2}) j C p).2.2.2 hk (show 0<=c2/\c2<=k by omega) (by rw[tN,if_neg r];exact tL y.zero.2 h h1);rw[E,A];simp only;rw[Ee];refine congrArg (λz=>(z,(0:Int))) ?_;refine Ef (λv _=>?_) ?_
  .exact tK F
  .exact tJ y.zero.2 h1
end
section
variable {k:Int} {sizes:Λ} {s:aq}
theorem Pa {m:fc} {c1 c2:Int} (a:br k sizes s) (hk:m.kind<4) (h1:0<=c1) (e:0<=c2) (he:(bh k s {m with c:=c1+c2}).2=0):
  (bh k s {m with c:=c1}).2=0/\bh k (bh k s {m with c:=c1}).1 {m with c:=c2}=((bh k s {m with c:=c1+c2}).1,0):=by
 by_cases f:m.kind<2
 .exact O3 a f h1 e he
 .exact O9 a Ω h1 e he
theorem Eg {m:fc} (h:(bh k s m).2≠0):(bh k s m).1=s:=by
 generalize hm:bh k s m=r at h ⊢;unfold bh at hm
 repeat' split at hm
 all_goals (subst hm;first|rfl|exact absurd rfl h)
end
theorem Pb (I:dv ac):(a8 ac).Nodup:=by
 rw[List.nodup_iff_pairwise_ne,V9];intro i j hi a f he;have h1:=hW I (x6 hi);have e:=hW I (x6 a);rw[he,e] at h1;have:=c7 h1;omega
section
variable {k:Int} {sizes:Λ} {s:aq}
theorem Eh {f:b3} (a:br k sizes s) (e:f∈s.funs) (j:∀u,f.sc[pos]? =σ u->v∈cS s u):(bX s f.sc pos v).Nodup:=by
 obtain⟨h,p,_⟩:=a.funs f e;obtain⟨q,_⟩:=js a e;rw[w4 a (λu hu=>⟨(h.scope.1 u hu).1,h.vars u hu⟩) j,<-p];exact (Pb q).sublist List.filter_sublist
theorem xg {α:Type} {l:List α} {q:Nat} {a:α} (e:l.Nodup) (h:l[q]? =σ a):a∉l.take q:=λhm=>by
 obtain⟨i,hi⟩:=X9.1 hm;have f:i<q:=by have:=(x4.1 hi).1;rw[j5] at this;omega
 rw[X4 f] at hi;have h1:=(x4.1 hi).1;have j:=(x4.1 h).1;have:=(List.getElem_inj e (h₀:=h1) (h₁:=j)).1 (by rw[(x4.1 hi).2,(x4.1 h).2]);omega
theorem Ei {m q:Nat} {f:b3} {g:Int->Int} (y:br k sizes s) (p:s.funs[j]? =σ f) (z:L.Nodup) (r:L[q]? =σ t) (hi:cH f.ac t 0=σ (m:Int)):
  ba f.ac (cZ g (L.take q) f.ac f.cs) t=ba f.ac f.cs t/\jX (dH s j f (cZ g (L.take q) f.ac f.cs)) j m (g (ba f.ac f.cs t))=dH s j f (cZ g (L.take (q+1)) f.ac f.cs):=by
 obtain⟨a,A⟩:=js y (x5 p);have w:=xg z r;refine⟨by rw[w7 a A hi,if_neg w],?_⟩;have h:=mz a hi;rw[r8] at h;have E:=(x4.1 h).1;obtain⟨c,x⟩:=aE (l:=f.cs) (i:=m) Ω;have e:ba f.ac f.cs t=c:=by
  unfold ba;rw[hi];simp only;rw[r8,u4,x];rfl
 have B:=(Ox (f:=g) a Ω h x w).2;unfold jX;have C:(dH s j f (cZ g (L.take q) f.ac f.cs)).funs[j]? =σ {f with cs:=cZ g (L.take q) f.ac f.cs}:=j9 (x4.1 p).1;rw[C,e];simp only;rw[B,u9,r];unfold dH;simp only[List.set_set];rfl
end
section
variable {w:x3} {ab ad:Nat} {A R:af} {n:aS} {s:aq} {t:aC}
theorem xh {i:Int} (h:bQ w ab ad A R n s t):ai x7 Gs [Γ ab,Δ i,Δ v] w λr w'=>Ext w w'/\r=Δ (if (eg s i v).isSome=true then 0 else 1):=by
 have L:=h.2.2.2.1.vars;refine aw func56 ?_;rw[dp dO.u];simp only[Z7,aW];refine aT (λr J=>r= .bool (!(eg s i v).isSome)/\Ext w J) ?_ ?_
 .rintro _ J ⟨rfl,C⟩;rw[b0];exact⟨λp=>⟨C,by rw[if_neg (by simpa using p)]⟩,λp=>⟨C,by rw[if_pos (by simpa using p)]⟩⟩
 intro au E;refine (wU (i:=i) h).mono ?_;rintro _ w2 _ ⟨rfl,q⟩;rw[b0];refine⟨λa=>E _ _ ⟨?_,q⟩,λa=>?_⟩
 .rw[T0,decide_eq_true_eq] at a;have y:eg s i v=ν:=by
   unfold eg;rw[if_pos a.1];have z:=a.2;unfold lq at z;cases e:s.vars[i.toNat]? with
   |none=>rfl
   |some x=>
    rw[e] at z;simp only;rw[if_neg λh=>by simp[h.1] at z]
  rw[y];rfl
 refine (kC (i:=i) (h.ext q)).mono ?_;rintro _ M _ ⟨⟨b,m,rfl,B⟩,H⟩;refine (DC (v:=v) B.1).mono ?_;rintro _ N _ ⟨rfl,I⟩;rw[bF];refine E _ _ ⟨?_,(q.trans H).trans I⟩;congr 2;by_cases f:0<=i/\i<n.sizes.length
 .obtain⟨x,e⟩:=aE (l:=s.vars) (i:=i.toNat) Ω;rw[OB B f.1 e];unfold eg;rw[if_pos f.1,e];have K:x.gone=0:=by
   rw[decide_eq_true f.1,T3] at a;unfold lq at a;rw[e] at a;simpa using a
  simp only;by_cases j:v∈ax x
  .rw[decide_eq_true j,if_pos ⟨K,j⟩];rfl
  .rw[decide_eq_false j,if_neg λh=>j h.2];rfl
 .obtain⟨rfl,rfl⟩:=B.2.1 f;have y:eg s i v=ν:=by
   unfold eg;by_cases G:0<=i
   .rw[if_pos G,Z4 Ω]
   .rw[if_neg G]
  rw[y,decide_eq_false Ω];rfl
def Pc (s:aq) (j pos v:Int) (u e:Int):Prop:=(e=0/\ ∃f x,dl s j pos v=σ (f,u,x))\/(e=1/\dl s j pos v=ν)
theorem Ej {j pos:Int} (h:bQ w ab ad A R n s t):ai x7 Gk [Γ ab,Δ j,Δ pos,Δ v] w λr w'=>Ext w w'/\ ∃u e,r= .tuple #[Δ u,Δ e]/\Pc s j pos v u e:=by
 refine aw func47 ?_;rw[dp dO.u];simp only[Z7,aW];have key:∀ (K:x1->x3->Prop),(∀r w',Ext w w'->(∀f,0<=j->s.funs[j.toNat]? =σ f->aF .i64 w' r f.sc)->K r w')->ai x7 rR [Γ ab,Δ j] w K:=λK V=>by
  by_cases W:0<=j/\j<s.funs.length
  .obtain⟨f,p⟩:=aE (l:=s.funs) (i:=j.toNat) Ω;have:=w3 h p;rw[show ((j.toNat:Nat):Int)=j by omega] at this;refine this.mono ?_;rintro r J _ ⟨C,g,_,hm⟩;exact V r J C λH _ X=>by rw[p] at X;cases X;exact hm.ls
  .refine (Ow h W).mono ?_;rintro r J _ ⟨rfl,C⟩;exact V _ J C λf E p=>absurd ⟨E,by have:=(x4.1 p).1;omega⟩ W
 refine key _ λr J C Y=>?_;have M:∀ {P:Prop},(¬∃f u,0<=j/\0<=pos/\s.funs[j.toNat]? =σ f/\f.live≠0/\f.sc[pos.toNat]? =σ u)->(dl s j pos v=ν->P)->P:=λz am=>am (by
  cases I:dl s j pos v with
  |none=>rfl
  |some q=>
   obtain⟨f,u,x⟩:=q;obtain⟨N,O,a3,a4,a5,_⟩:=i7 I;exact absurd ⟨f,u,N,O,a3,a4,a5⟩ z)
 refine aT (λZ w2=>Ext J w2/\((Z= .bool true/\dl s j pos v=ν)\/(Z= .bool false/\ ∃f u,0<=j/\0<=pos/\s.funs[j.toNat]? =σ f/\f.live≠0/\f.sc[pos.toNat]? =σ u))) ?_ ?_
 .rintro _ w2 ⟨Q,⟨rfl,z⟩|⟨rfl,f,u,E,aa,p,an,hu⟩⟩
  .rw[bO];exact⟨C.trans Q,0,1,rfl,.inr ⟨rfl,z⟩⟩
  .rw[aW];intro ao B _ _;have ac:=(Y f E p).ext (Q.trans B);refine pZ (y:=pos) (i:=pos.toNat) Ω al.u ag.i ac hu λb o ap=>?_;rw[aB (v:=Δ u) Ψ ap,fA (y:=pos) (i:=pos.toNat) Ω al.u ag.i Ψ ac hu];have ae:=(C.trans Q).trans B;refine (xh (i:=u) (v:=v) (h.ext ae)).mono ?_;rintro _ av _ ⟨af,rfl⟩;refine⟨.inl af,ae.trans af,u,_,rfl,?_⟩;have I:dl s j pos v=(eg s u v).map λx=>(f,u,x):=by
    unfold dl;rw[if_pos ⟨E,aa⟩,p];simp only;rw[if_pos an,hu]
   cases aj:eg s u v with
   |none=>exact .inr ⟨rfl,by rw[I,aj];rfl⟩
   |some x=>exact .inl ⟨rfl,f,x,by rw[I,aj];rfl⟩
 intro au L;refine (wW (j:=j) (h.ext C)).mono ?_;rintro _ ao _ ⟨rfl,B⟩;have same:∀ {f H:b3},s.funs[j.toNat]? =σ f->s.funs[j.toNat]? =σ H->H=f:=λa b=>by rw[a] at b;exact (c7 b).symm
 rw[bF,b0];refine⟨λS=>M (λ⟨f,u,N,O,a3,a4,a5⟩=>?_) λz=>L _ _ ⟨B,.inl ⟨rfl,z⟩⟩,λU=>?_⟩
 .unfold gA at S;rw[a3] at S;simp[N,a4] at S
 have U:0<=j/\gA s j.toNat=true:=by simpa using U
 obtain⟨E,G⟩:=U;obtain⟨f,p,aq⟩:∃f,s.funs[j.toNat]? =σ f/\f.live≠0:=by
  unfold gA at G;cases p:s.funs[j.toNat]? with
  |none=>rw[p] at G;cases G
  |some f=>rw[p] at G;exact⟨f,rfl,by simpa using G⟩
 rw[aQ,ah];refine⟨λax=>M (λ⟨_,_,_,O,_⟩=>Ω) λz=>L _ _ ⟨B,.inl ⟨rfl,z⟩⟩,λaa=>?_⟩;rw[aX al.u ((Y f E p).ext B),cU];by_cases ak:(f.sc.length:Int)<=pos
 .refine M (λ⟨H,u,_,_,a3,_,a5⟩=>?_) λz=>L _ _ ⟨B,.inl ⟨by rw[decide_eq_true ak],z⟩⟩;obtain rfl:=same p a3;have:=(x4.1 a5).1;omega
 .obtain⟨u,hu⟩:=aE (l:=f.sc) (i:=pos.toNat) Ω;exact L _ _ ⟨B,.inr ⟨by rw[decide_eq_false ak],f,u,E,Ω,p,aq,hu⟩⟩
theorem tO {most:Int} (h:bQ w ab ad A R n s t):ai x7 Gm [Γ ab,Δ c,Δ most] w λr w'=>Ext w w'/\r=Δ (c6 n.k c most):=by
 refine aw func49 ?_;refine (n8 h).mono ?_;rintro _ J _ ⟨rfl,a⟩;refine jJ.mono ?_;rintro _ w2 _ ⟨rfl,e⟩;have hi:cv c n.k↔0<=c/\c<=n.k:=⟨λh=>h.2,λj=>⟨h.2.2.2.1.fV,j⟩⟩;unfold c6;rw[bF,b0];refine⟨λf=>⟨a.trans e,?_⟩,λf=>?_⟩
 .have:¬cv c n.k:=by simpa using f
  rw[if_pos λh=>this (hi.2 h)]
 .have:cv c n.k:=by simpa using f
  rw[if_neg λh=>h (hi.1 this),bS,ah];exact⟨λh=>⟨a.trans e,by rw[if_pos h]⟩,λh=>⟨a.trans e,by rw[if_neg h]⟩⟩
theorem Pd {b:Int} (hk:right k) (f:0<=a/\a<=k) (j:0<=b/\b<=k) (s:a=k\/b<=a):ai x7 Hc [Δ a,Δ b,Δ k] w λv w'=>v= .tuple #[Δ (cA k a b),Δ 0]/\Ext w w':=by
 have x:1<=k/\k<=2147483648:=hk;refine aw func123 ?_;refine aT (λr J=>r= .bool false/\Ext w J) ?_ ?_
 .rintro _ J ⟨rfl,e⟩;unfold cA;rw[aW,bi,ah];refine⟨λh=>⟨by rw[if_pos h],e⟩,λh=>?_⟩;rw[if_neg h,bS,ah];refine⟨λy=>Ω,λ_=>?_⟩;rw[dR,wrap_i64 Ω Ω];exact⟨rfl,e⟩
 intro au p;refine jJ.mono ?_;rintro _ J _ ⟨rfl,e⟩;rw[decide_eq_true (show cv a k from⟨hk,f⟩),bF,Y5,aW];refine jJ.mono ?_;rintro _ w2 _ ⟨rfl,q⟩;rw[decide_eq_true (show cv b k from⟨hk,j⟩),bF,Y5];exact p _ _ ⟨rfl,e.trans q⟩
theorem tP (h:bQ w ab ad A R n s t) (e:0<=a/\a<=n.k) (f:0<=c/\c<=n.k) (j:a=n.k\/c<=a):ai x7 nh [Γ ab,Δ a,Δ c] w λr w'=>r=Δ (cA n.k a c)/\Ext w w':=by
 refine aw func50 ?_;refine (n8 h).mono ?_;rintro _ J _ ⟨rfl,p⟩;refine (Pd h.2.2.2.1.fV e f j).mono ?_;rintro _ w2 _ ⟨rfl,q⟩;rw[bu,bw];exact⟨rfl,p.trans q⟩
theorem q6 (h:bQ w ab ad A R n s t) (e:0<=a/\a<=n.k) (f:0<=c/\c<=n.k):ai x7 ni [Γ ab,Δ a,Δ c] w λr w'=>r=Δ (cL n.k a c)/\Ext w w':=by
 refine aw func51 ?_;refine (n8 h).mono ?_;rintro _ J _ ⟨rfl,j⟩;refine (Ol e f h.2.2.2.1.fV).mono ?_;rintro _ w2 _ ⟨rfl,p⟩;rw[bu,bw];exact⟨rfl,j.trans p⟩
end
theorem Pe {g n c:Nat} (a:aa w g cC cs) (h:∀w',ae (λr=>r=g) w w'->(∀o vs,w.rangeAt g o vs->w'.rangeAt g o vs)->K (.slice (σ ⟨g,0,ν⟩) n c) w'):
  av x7 (convert cP cP (.slice (σ ⟨g,0,ν⟩) n c)) w K:=by
 have f:∀r,(w.freeze ⟨g,cs.length,ν⟩ 1).heap[r]? =if g=r then (w.heap[r]?).map (λ| .cells c p (lo,hi)=>.cells c p (if lo == hi then (cs.length,cs.length+1) else (min lo cs.length,max hi (cs.length+1)))|o=>o) else w.heap[r]?:=λr=>by
  unfold x3.freeze;rw[if_neg Φ];exact Array.getElem?_modify
 have A:(w.freeze ⟨g,cs.length,ν⟩ 1).heap.size=w.heap.size:=by
  unfold x3.freeze;rw[if_neg Φ];exact Array.size_modify
 have q:w.shape? g=σ (cC,cs.length):=by
  unfold x3.shape?;unfold aa at a;rw[a];simp
 have s:(convert cP cP (.slice (σ ⟨g,0,ν⟩) n c)).run x7 w= .ok (.slice (σ ⟨g,0,ν⟩) n c) (w.freeze ⟨g,cs.length,ν⟩ 1):=by
  simp[convert,run_underlying cP.u,run_underlying cC.u,markStringish,q]
 unfold aa at a;refine .of s ⟨by unfold x3.freeze;rw[if_neg Φ],.ka (by unfold x3.freeze;rw[if_neg Φ]) (by unfold x3.freeze;rw[if_neg Φ]),by unfold x3.freeze;rw[if_neg Φ],Ω,λr o e I=>?_⟩ (h _ ⟨Ω,λr o e _ x=>?_⟩ λo vs y j v z=>?_)
 .rw[f];by_cases he:g=r
  .subst he;rw[a] at e;cases e;cases I
  .rw[if_neg he];exact e
 .rw[f,if_neg λhe=>x he.symm];exact e
 .have h1:=y j v z;unfold x3.cell? at h1 ⊢;rw[f,if_pos rfl];rw[a] at h1 ⊢;exact h1
def xi (s0 s:aq):Prop:=s.zero=s0.zero/\s.funs=s0.funs/\s.vars.length=s0.vars.length/\ ∀ (i:Nat) x,s.vars[i]? =σ x-> ∃a,s0.vars[i]? =σ a/\x.un=a.un/\x.gone=0/\a.gone=0/\a.mask=0
theorem xi.new (n:aS):xi (dj n) (dj n):=⟨rfl,rfl,rfl,λi x a=>by
 refine⟨x,a,rfl,?_⟩;have a:(n.unary.map newVar)[i]? =σ x:=a;rw[x8] at a;obtain⟨u,_,rfl⟩:=X3.1 a;exact⟨rfl,rfl,rfl⟩⟩
theorem Pf (n:aS):dD (dj n):=λf _ _ v _ x a=>by
 obtain⟨_,_,_,h,_⟩:=(xi.new n).2.2.2 _ x a;exact h
theorem Pg {am:Nat} {E:x1} {f:bZ} (G:tx B w2 E cs f) (e:Ext w2 w) (H:aa w am aG cs) (O:w2.heap.size<=am):
  ∃ab ad A R A9 aH t,E=Γ ab/\ck w ab ad am A R A9 aH (df f) (dj (df f)) (dj (df f)) t [] cs/\t.marks=[]/\(∀r,A r->B<=r)/\(∀q r,A9 q r->B<=r)/\t.cells.length<=2000000/\t.olds.length=0/\(df f).funs.length<=256/\t.iJ=0/\(∀r,aH r->B<=r)/\ ∀r,R r->B<=r:=by
 obtain⟨ab,ad,A,R,t,N,A9,aH,x,rfl,y,j,J,K,C,p,L⟩:=G;have F:=tF y;have z:=e.size;have s:=(tq (B7 x).1 (wY x) (df f).unary.length (df f).funs.length);rw[wB,<-y.2.1] at s;unfold aC.bD at s;rw[u7] at s;refine⟨ab,ad,A,R,λq r=>A9 q r/\r<w2.heap.size,aH,t,rfl,⟨y.ext e,j.2.2.1,H,K.old.ext e,λq r h=>⟨(C q r h.1).1,(C q r h.1).2.1,by have:=h.2;omega⟩,λr a=>⟨λh=>(p r a).1 (mI (λo M I _=>e.aV r o M I) h),by have:=(p r a).2;omega,by have:=(p r a).2;omega⟩,λh=>by have:=F am (.inl h);omega,λh=>by have:=F am (.inr h);omega⟩,j.1,J,λq r h=>(C q r h.1).2.2,s,by rw[j.2.1];rfl,wY x,j.2.2.2,λr a=>(p r a).2.2,L⟩
def Ph (s:aq):Prop:=∀e∈s.ce,e.sc.length<=1000/\e.hd.length<=1000
section
variable {w w':x3} {ab ad am dg:Nat} {A R O M aH:af} {A9:Nat->af} {k:Int} {sizes:Λ} {I:List aq} {n:aS} {s u:aq} {t:aC} {h:List aC} {cs:List x1}
structure Q9 (w:x3) (am:Nat) (A R:af) (A9:Nat->af) (aH O M:af):Prop where
 o:∀r,O r->r<w.heap.size/\¬A r/\¬R r/\(∀q,¬A9 q r)/\¬aH r/\r≠am/\¬M r
 m:∀r,M r->r<w.heap.size/\¬A r/\(∀q,¬A9 q r)/\¬aH r/\r≠am
theorem ck.side {S:af} (p:ck w ab ad am A R A9 aH n s u t h cs) (f:ae S w w') (e:∀r,r<w.heap.size->S r->¬A r/\¬R r/\(∀q,¬A9 q r)/\¬aH r/\r≠am):ck w' ab ad am A R A9 aH n s u t h cs:=by
 have z:=f.size;exact⟨⟨p.eO.1.U f λr a h I=>h.elim (e r a I).1 (e r a I).2.1,p.eO.2⟩,p.iZ,p.box.U f λI=>(e am p.box.lt I).2.2.2.2 rfl,p.doc.U f λr a h I=>h.elim (λ⟨q,h⟩=>(e r a I).2.2.1 q h) (e r a I).2.2.2.1,p.apart,
  λr a=>⟨λh=>(p.read r a).1 (mI (λo j I _=>f.aV r o j I λx=>(e r (p.read r a).2.1 x).2.2.2.1 a) h),by have:=(p.read r a).2.1;omega,(p.read r a).2.2⟩,p.out⟩
theorem ck.Pj (p:ck w ab ad am A R A9 aH n s u t h cs):∀q r,A9 q r->¬aH r:=by
 obtain⟨_,_,_,_,_,_,_,_,_,_,_,_,_,a⟩:=p.doc;exact (a rfl).2
end
theorem Ek {w0:x3} {out:x1} {g:Nat} {x:Int} (e:Ext w0 w) (hm:ap .i64 ag w g out l) (f:∀r,leads out r->w0.heap.size<=r) (F:l.length<=1000000000)
  (p:∀v w' q,Ext w0 w'->ap .i64 ag w' q v (l++[x])->(∀r,leads v r->w0.heap.size<=r)->K v w'):
  av x7 (Y4 al 1 #[(0,Δ x)]) w λy J=>av x7 (b9 #[al,al] al #[out,y]) J K:=by
 refine ej (k:=.i64) al.u ag.i rfl λv4 G H I a s=>?_;refine gP al.u ag.i rfl (hm.ext a) s.ls Θ Θ λv5 A L B C E=>?_;have z:=(e.trans a).size;exact p _ _ A ((e.trans a).then E λr j he=>by have:=f r he;omega) B λr j=>(C r j).elim (f r) λh=>Ω
theorem tQ (x:bl):(ax x).length<=x.un.length:=by
 unfold ax;have:=List.length_filter_le (λv:Int=>!dropped x.mask v) ((V6 x.un.length).map λv:Nat=>(v:Int));rw[u7,List.length_range] at this;exact this
section
variable {w:x3} {ab ad:Nat} {A R:af} {n:aS} {s:aq} {t:aC}
end
theorem tR {out:x1} {g:Nat} {x:Int} (hm:ap .i64 ak w g out l) (C:l.length<=1000000000000)
  (e:∀v w' f,ae (λr=>leads out r) w w'->ap .i64 ak w' f v (l++[x])->(∀r,leads v r->leads out r\/w.heap.size<=r)->K v w'):
  av x7 (Y4 an 1 #[(0,Δ x)]) w λy J=>av x7 (b9 #[an,an] an #[out,y]) J K:=by
 refine ej (k:=.i64) an.u ak.i rfl λv4 E F G a j=>?_;refine gP an.u ak.i rfl (hm.ext a) j.ls Θ Θ λv5 p H q s A=>?_;have z:=a.size;exact e _ _ p ((a.U _).trans A) q λr B=>(s r B).imp id λh=>Ω
def j1 (l:Λ):Λ:=(l.length:Int)::l
def oc (w:x3) (out v:x1) (l:Λ) (w':x3):Prop:=ae (λr=>leads out r) w w'/\(∃g,ap .i64 ak w' g v l)/\ ∀r,leads v r->leads out r\/w.heap.size<=r
theorem oc.trans {J:x3} {o v u:x1} {l':Λ} (h:oc w o v l J) (k:oc J v u l' w2):oc w o u l' w2:=by
 obtain⟨h1,_,e⟩:=h;obtain⟨f,p,q⟩:=k;have z:=h1.size;have s:=f.size;exact⟨⟨Ω,λr x a I j=>f.aV r x (h1.aV r x a I j) I λh=>(e r h).elim j λh=>by have:=(j0.1 a).1;omega⟩,p,λr a=>(q r a).elim (e r) λh=>.inr Ω⟩
theorem El {k f:o6} {a:r9} {g:Nat} {v u:x1} {l':Λ} (h:ap k e w g v l) (h':ap f a w j u l') (he:e≠a) (p:ae (λr=>leads u r) w w'):ap k e w' g v l:=bq h p λr q hu=>by
 obtain⟨c1,s⟩:=qR h r q;obtain⟨c2,x⟩:=qR h' r hu;exact he (eu s x)
theorem Pk {k:o6} {a:r9} {g b:Nat} {u:x1} (f:aa w b a cs) (h:ap k e w g u l) (he:e≠a) (j:ae (λr=>leads u r) w w'):aa w' b a cs:=f.U j λhu=>by
 obtain⟨c2,p⟩:=qR h b hu;exact he (eu p f)
theorem tS {out f:x1} {g h:Nat} {o:Λ} (hm:ap .i64 ak w g out o) (j:ap .i64 ag w h f l) (M:o.length+l.length<=100000000000):ai x7 GC [out,f] w λv w'=>oc w out v (o++j1 l) w':=by
 refine aw func68 ?_;rw[aX al.u j.ls];refine tR hm Ω λA J g1 p B C=>?_;have q:=El j hm Φ p;have E:oc w out A (o++[(l.length:Int)]) J:=⟨p,⟨g1,B⟩,C⟩;rw[aX al.u q.ls];refine bY.range l.length (λi a w2=>oc w out a (o++(l.length:Int)::l.take i) w2/\ap .i64 ag w2 h f l) Ω ⟨by rw[List.take_zero];exact E,q⟩ ?_ ?_
 .rintro i a w2 G hi ⟨e,r⟩ H;obtain⟨x,s⟩:=aE (l:=l) hi;obtain⟨_,⟨N,y⟩,_⟩:=id e;refine bH Ω ?_;rw[be al.u ag.i Ψ r.ls s];refine tR y (by rw[p8,b8,j5];omega) λv3 O I z K L=>?_;rw[aM];refine H _ _ ⟨e.trans ⟨z,⟨I,?_⟩,L⟩,El r y Φ z⟩;rw[u9,s];simpa using K
 .rintro a w2 G ⟨e,_⟩;refine ca Ω ?_;rw[o7] at e;exact e
def cO (s:aq) (sc t:Λ):Bool:=(sc.zip t).all λp=>match s.vars[p.1.toNat]? with
 |some x=>decide (p.2∈ax x)
 |none=>false
section
variable {w:x3} {ab ad:Nat} {A R:af} {n:aS} {s:aq} {t:aC}
theorem Pl {aD:x1} {at_:Int} (h:bQ w ab ad A R n s t) (f:aF .i64 w aD sc) (O:aF .i64 w szv ac) (P:∀v∈sc,0<=v/\v<n.sizes.length) (Q:aF .i64 w aL tl) (ao:tl.length=sc.length):
  ai x7 GF [Γ ab,.agg #[aD,szv,Δ at_],aL] w λr w'=>r= .bool (cO s sc tl)/\Ext w w':=by
 have ap:=h.2.2.2.1.vars;refine aw func71 ?_;refine bn λg1 J aq L j=>?_;have j:aa J g1 dQ [aD,szv,Δ at_]:=by
  obtain⟨_,_,_,S⟩:=du f;obtain⟨_,_,_,U⟩:=du O;rw[S,U] at j ⊢;exact j
 rw[az dQ.p 0 j rfl,aX al.u (f.ext L)];refine bY.range sc.length (λi _ w2=>Ext w w2/\cO s (sc.take i) (tl.take i)=true) f.le ⟨L,rfl⟩ ?_ ?_
 .rintro i V w2 W hi ⟨z,a⟩ X;obtain⟨v,B⟩:=aE (l:=sc) hi;obtain⟨y,G⟩:=aE (l:=tl) (i:=i) Ω;have M:=P v (x5 B);obtain⟨x,C⟩:=aE (l:=s.vars) (i:=v.toNat) Ω;refine bH Ω ?_;rw[be al.u ag.i Ψ (f.ext z) B];intro au Y _ _;have E:=z.trans Y;refine pZ rfl al.u ag.i (Q.ext E) G λb o Z=>?_;rw[aB (v:=Δ y) Ψ Z];refine (kC (i:=v) (h.ext E)).mono ?_;rintro _ av _ ⟨⟨b,m,rfl,H⟩,I⟩;refine⟨.inl I,?_⟩;refine (DC H.1).mono ?_;rintro _ ay _ ⟨rfl,N⟩;obtain⟨hm,ae⟩:=H.2.2 x M.1 C;have aA:=l2 H M.1 C;have af:(decide (0<=y/\y<(m:Int))&&b.testBit y.toNat)=decide (y∈ax x):=by
   rw[ae,hm];by_cases e:0<=y/\y<(x.un.length:Int)
   .rw[decide_eq_true e,T3,decide_eq_true Ω,T3,Int.toNat_of_nonneg e.1];have:=DL (x:=x) e;rw[U1,decide_eq_true_eq];simpa using this.symm
   .rw[decide_eq_false e,Bool.false_and];symm;refine decide_eq_false λhm=>e ?_;unfold ax at hm;obtain⟨h1,_⟩:=T4.1 hm;obtain⟨q,aj,rfl⟩:=l7.1 h1;have:=List.mem_range.1 aj;omega
  have ak:(sc.take (i+1)).zip (tl.take (i+1))=(sc.take i).zip (tl.take i)++[(v,y)]:=by
   rw[u9,u9,B,G,o8,o8,List.zip_append Θ];rfl
  have am:cO s (sc.take (i+1)) (tl.take (i+1))=decide (y∈ax x):=by
   unfold cO at a ⊢;rw[ak,List.all_append,a,T3];simp[C]
  rw[af,bF,b0];refine⟨λK=>?_,λK=>?_⟩
  .refine⟨?_,(E.trans I).trans N⟩;congr 1;symm;have an:(v,y)∈sc.zip tl:=x5 (List.getElem?_zip_eq_some.2 ⟨B,G⟩);unfold cO;rw[List.all_eq_false];exact⟨_,an,by simp only[C];simpa using K⟩
  .rw[aM];exact X _ _ ⟨(E.trans I).trans N,by rw[am];simpa using K⟩
 .rintro V w2 W ⟨z,a⟩;rw[aQ,ah];refine⟨λh=>Ω,λ_=>⟨?_,z⟩⟩;rw[o7,o9 Ω] at a;rw[a]
end
def fZ (x:bl):Λ:=if x.gone≠0 then[] else (ax x).map λv=>x.un.getD v.toNat 0
def dN (x:bl):Λ:=[x.gone]++j1 (ax x)++fZ x
def dZ (s:aq) (f:b3):Λ:=if f.live≠0 then j1 f.sc++((a8 f.ac).filter (cO s f.sc)).map (ba f.ac f.cs) else[]
def fM (e:pf):Λ:=[-1,e.v]++j1 e.sc++j1 e.hd
def mV (s:aq):Λ:=[s.zero]++s.vars.flatMap dN++s.funs.flatMap (dZ s)++s.ce.flatMap fM
theorem pu (l:Λ):(j1 l).length=l.length+1:=rfl
def hI (w w':x3) (ab g1 go:Nat) (l:Λ):Prop:=Ext w w'/\aa w' g1 dO [Γ ab]/\ ∃v g,aa w' go an [v]/\ap .i64 ak w' g v l/\ ∀r,leads v r->w.heap.size<=r
section
variable {w J w2:x3} {ab ad g1 go:Nat} {A R:af} {n:aS} {s:aq} {t:aC} {l l':Λ}
theorem hI.ext (h:hI w J ab g1 go l) (a:Ext J w2):hI w w2 ab g1 go l:=by
 obtain⟨h1,e,v,g,f,j,p⟩:=h;exact⟨h1.trans a,e.ext a,v,g,f.ext a,j.ext a,p⟩
theorem hI.put {v u:x1} {g:Nat} {K:Unit->x3->Prop} (p:Ext w J) (y:w.heap.size<=go) (f:aa J g1 dO [Γ ab]) (e:aa J go an [u]) (hm:ap .i64 ak J g v l) (q:∀r,leads v r->w.heap.size<=r)
  (s:∀w2,ae (λr=>r=go) J w2->hI w w2 ab g1 go l->K () w2):av x7 (o5 an (Γ go) v) J K:=by
 have h:=hm.ls.cells;refine bo (g:=go) (o:=0) an.i h.1 h.2 e Ξ λw2 a z x=>s w2 a ⟨p.then a λr j he=>by have he:r=go:=he;omega,f.U a λhe=>?_,v,g,x,bq hm a λr j he=>?_,q⟩
 .have he:g1=go:=he;subst he;exact absurd (eu f e) Φ
 .have he:r=go:=he;subst he;obtain⟨c,b⟩:=qR hm r j;exact absurd (eu b e) Φ
theorem side {v:x1} {g b:Nat} (a:aa J b e cs) (hm:ap .i64 ak J g v l) (he:ak≠e) (f:ae (λr=>leads v r) J w2):aa w2 b e cs:=Pk a hm he f
theorem q7 {u:x1} {b:Nat} (a:aa J b e cs) (f:aa J go an [u]) (he:an≠e) (j:ae (λr=>r=go) J w2):aa w2 b e cs:=a.U j λh=>by
 have h:b=go:=h;subst h;exact he (eu f a)
end
theorem km {α β:Type} {f:α->List β} {L:List α} {b:Nat} (h:∀a∈L,(f a).length<=b):(L.flatMap f).length<=L.length*b:=by
 induction L with
 |nil=>simp
 |cons a L e=>
  rw[X2,p8,b8,U4,Nat.one_mul];have:=h a Ξ;have:=e λa j=>h a (by simp[j]);omega
section
variable {w:x3} {ab ad:Nat} {A R:af} {n:aS} {s:aq} {t:aC}
theorem Pm (a:br k sizes s):∀x∈s.vars,(dN x).length<=66:=λx e=>by
 obtain⟨i,hi⟩:=X9.1 e;have f:=a.vars;have h:=(x4.1 hi).1;obtain⟨j,_⟩:=a.var i x _ hi (x6 Ω);have p:=a.e1.2.2 _ (Q4 (l:=sizes) (n:=i) Ω);have:=tQ x;have hu:(fZ x).length<=(ax x).length:=by unfold fZ;split<;>simp
 unfold dN;rw[p8,p8,pu];simp;omega
theorem Pn (e:br k sizes s):∀f∈s.funs,(dZ s f).length<=4103:=λf q=>by
 obtain⟨a,h,_⟩:=e.funs f q;have r:dv f.ac:=by rw[h];exact la e.e1.2.2 λv j=>⟨(a.scope.1 v j).1,a.vars v j⟩
 have h1:=hU r;have w:aK f.ac<=4096:=by rw[h];exact a.small
 have x:=List.length_filter_le (cO s f.sc) (a8 f.ac);have p:=a.scope.2;have p:f.sc.length<=6:=p;unfold dZ;split
 .rw[p8,pu,u7];omega
 .simp
theorem Po (h:bQ w ab ad A R n s t) (cd:Laid w) (B:Ph s) (fV:s.funs.length<=100000) (fW:s.ce.length<=100000):ai x7 yR [Γ ab] w λv w'=>Ext w w'/\ ∃g,ap .i64 ak w' g v (mV s)/\ ∀r,leads v r->w.heap.size<=r:=by
 have ah:=h.2.2.2.1;have fY:=ah.vars;have gb:=ah.e1.2.1;have c8:=Pm ah;have da:=Pn ah;obtain⟨⟨gc,gd,gg,gh,ev⟩,_⟩:=id h;obtain⟨_,_,_,_,cg,ch,_,_,dc,_,_,_,⟨cj,dd⟩,ck,de⟩:=id ev;have gi:cg.length=s.funs.length:=dd.1;have gj:ch.length=s.ce.length:=de.1;refine jg func24 ?_;refine bn λg1 J gk cl bb=>?_;have bb:aa J g1 dO [Γ ab]:=bb;rw[aB (v:=Γ ab) Ψ (bb.Qz rfl),dp dO.u];simp only[Z7,aW];rw[aB (v:=Γ ab) Ψ (bb.Qz rfl)];refine (qV (h.ext cl)).mono ?_;rintro _ gl _ ⟨rfl,df⟩;refine ej (k:=.i64) an.u ak.i rfl λv4 gm gn gp dg dh=>?_;refine bt an.i λgo ew aQ di O=>?_;have gu:=cl.size;have z3:=df.size;have z4:=dg.size;have bB:=(df.trans dg).trans di;have O:aa ew go an [.slice ν 0 0]:=O;refine hI.put (w:=w) (g1:=g1) (cl.trans bB) Ω (bb.ext bB) O (dh.ext di) (λr z=>by obtain⟨e,_⟩:=bU dh z;omega) λgv gw cm=>?_;rw[aB (v:=Γ ab) Ψ (cm.2.1.Qz rfl)];refine (DF (h.ext cm.1)).mono ?_;rintro _ gx _ ⟨rfl,ey⟩;have aQ:w.heap.size<=go:=Ω
 refine ci.range n.sizes.length (λi bC=>hI w bC ab g1 go ([s.zero]++(s.vars.take i).flatMap dN)) Ω (by rw[List.take_zero,List.flatMap_nil,W7];exact cm.ext ey) ?_ ?_
 .rintro i bC ez hi S eB;obtain⟨x,av⟩:=aE (l:=s.vars) (i:=i) Ω;have bc:([s.zero]++(s.vars.take i).flatMap dN).length<=100000:=by
   have:=km (L:=s.vars.take i) (f:=dN) (b:=66) λa bd=>c8 a (T9 bd);rw[j5] at this;rw[p8];have P:min i s.vars.length*66<=64*66:=X5 _ Ω;simp only[U3];omega
  generalize be:[s.zero]++(s.vars.take i).flatMap dN=aj at S bc;have bf:[s.zero]++(s.vars.take (i+1)).flatMap dN=aj++dN x:=by
   rw[<-be,u9,av,o8,List.flatMap_append,List.flatMap_singleton,c9]
  refine bH Ω ?_;refine bt ag.i λaR eC gC eD cn=>?_;have cn:aa eC aR ag [Δ 0]:=cn;refine bo (g:=aR) (o:=0) ag.i rfl rfl cn Ξ λdj eE gD cp=>?_;have cp:aa dj aR ag [Δ (i:Int)]:=cp;have eF:Ext bC dj:=eD.put eE Ω;intro gE dk _ _;have cq:=cp.ext dk;obtain⟨am,bE,v,g,O,hm,aw⟩:=S.ext (eF.trans dk);obtain⟨gF,gH,gI,gJ,a7,gK,L,gL,dl,gM,eH,eI,gN,gO⟩:=(h.ext am).1.parts;have N:∀ {Q:x3} {K:x1->Prop},aa Q g1 dO [Γ ab]->K (Γ ab)->V x7 (u5 dO (Γ g1)) Q K:=λB aA=>by
   rw[aB (v:=Γ ab) Ψ (B.Qz rfl)];exact aA
  have bg:∀ {Q:x3} {K:x1->Prop},aa Q aR ag [Δ (i:Int)]->K (Δ (i:Int))->V x7 (u5 ag (Γ aR)) Q K:=λB aA=>by
   rw[aB (v:=Δ (i:Int)) Ψ (B.Qz rfl)];exact aA
  rw[aB (v:=v) Ψ (O.Qz rfl)];refine N bE ?_;rw[aO ct.p 1 dl rfl];refine N bE ?_;rw[aO ct.p 2 dl rfl];refine bg cq ?_;rw[fA (y:=(i:Int)) (i:=i) rfl al.u ag.i Ψ eI.ls (qU Ω)];refine N bE (bg cq ?_);have bG:t.bD[e8 s i+0]? =σ x.gone:=by rw[h.2.1,pg av Ω];rfl
  refine (mF (i:=e8 s i) eH rfl bG).mono ?_;rintro _ gQ _ ⟨rfl,cr⟩;refine⟨.inl cr,?_⟩;refine ej (k:=.i64) an.u ak.i rfl λgR gS gT gU dn eJ=>?_;refine⟨.inl (cr.trans dn),?_⟩;have aS:=cr.trans dn;have W:=hm.ext aS;refine gP an.u ak.i rfl W eJ.ls Θ Θ λcu eK cw X cz Y=>?_;have eL:=am.size;have gV:=aS.size;have bh:∀r,leads cu r->w.heap.size<=r:=λr z=>(cz r z).elim (aw r) λh=>Ω
  have ao:Ext w cw:=(am.trans aS).then Y λr z he=>by have:=aw r he;omega
  have dq:=side (cq.ext aS) W Φ Y;have bI:=side (bE.ext aS) W Φ Y;have cA:=side (O.ext aS) W Φ Y;refine⟨.inr ⟨nE Ψ (dq.Qz rfl),nE Ψ (bI.Qz rfl),trivial⟩,?_⟩;refine (kC (i:=(i:Int)) (h.ext ao)).mono ?_;rintro _ gW _ ⟨⟨gX,gY,rfl,dr⟩,bB⟩;refine nJ.mono ?_;rintro _ ds _ ⟨eM,dt,rfl,gZ,cB⟩;have du:=l2 dr Ω (by rw[r8];exact av);have dw:=bB.trans eM;have g0:=tQ x;have g2:=(ah.var i x _ av (x6 hi)).1;have g3:=ah.e1.2.2 _ (Q4 hi);refine (vZ (L:=ax x) (nI (g:=dt) dr.1) (λk vs w hk=>by
    obtain⟨v,aC,rfl⟩:=hk;exact⟨v,by rw[<-du,x8,aC];rfl,rfl⟩) (λa b bG dx=>⟨dx.1.U bG λh=>by have:=cB.lt;have h:ds.heap.size<=dt:=h;omega,jh bG (λh=>by have h:ds.heap.size<=0:=h;have:=cB.lt;omega) dx.2⟩) ⟨cB,cd.ext (ao.trans dw)⟩ (by rw[<-du,u7]) Ω).mono ?_
  rintro g4 g5 _ ⟨eN,g6,_,eO⟩;have Z:=dw.trans eN;refine (tS (X.ext Z) eO Θ).mono ?_;rintro bK bi _ ⟨E,⟨dy,aF⟩,bj⟩;have eP:=ao.size;have g7:=Z.size;have bL:∀r,leads bK r->w.heap.size<=r:=λr z=>(bj r z).elim (bh r) λh=>Ω
  have aG:Ext w bi:=(ao.trans Z).then E λr z he=>by have:=bh r he;omega
  have eQ:=side (dq.ext Z) (X.ext Z) Φ E;have cC:=side (bI.ext Z) (X.ext Z) Φ E;have bM:=side (cA.ext Z) (X.ext Z) Φ E;refine hI.put (w:=w) (g1:=g1) aG aQ cC bM aF bL λbN aH bk=>?_;have dz:=q7 eQ bM Φ aH;refine N bk.2.1 (bg dz ?_);refine (kC (i:=(i:Int)) (h.ext bk.1)).mono ?_;rintro _ eR _ ⟨⟨eS,eU,rfl,dA⟩,eV⟩;refine nJ.mono ?_;rintro _ g8 _ ⟨eW,dC,rfl,eX,eY⟩;have dD:=eV.trans eW;have dE:=l2 dA Ω (by rw[r8];exact av);have dF:=bk.ext dD;let dG:=aj++[x.gone]++j1 (ax x);refine lE.old ⟨Nat,false,kh,#[Γ dC],_,_,_,_,λq w'=>hI w w' ab g1 go (dG++(fZ x).take q)/\aa w' aR ag [Δ (i:Int)],λ_ _ _=>False,rfl,(nI (g:=dC) dA.1).s,?_,
   λ_ _ C h=>⟨h.1.ext C,h.2.ext C⟩,λ_ _ _ C h=>⟨h.1.ext C,h.2.ext C⟩,λ_ _ _ _ _ h=>h,⟨eY,cd.ext dF.1⟩,⟨by rw[List.take_zero,W7];exact dF,dz.ext dD⟩,?_,?_,λ_ _ h=>h.elim,λ_ _ _ h=>h.elim⟩
  .rintro _ _ _ _ ⟨_,_,_,_,rfl⟩;rfl
  .rintro _ q _ dH ⟨dI,eZ⟩ ⟨bO,rfl,y,bR,e0⟩ ⟨bS,cD⟩;cases e0;intro g9 cE _ _;have cF:=bS.ext cE;have cG:=cD.ext cE;have dJ:(ax x)[q]? =σ (y:Int):=by rw[<-dE,x8,bR];rfl
   have dK:=x5 dJ;have ha:0<=(y:Int)/\(y:Int)<x.un.length:=by
    unfold ax at dK;obtain⟨h1,_⟩:=T4.1 dK;obtain⟨j,aI,e⟩:=l7.1 h1;have:=List.mem_range.1 aI;omega
   refine N cF.2.1 (bg cG ?_);refine (mM (i:=(i:Int)) (v:=(y:Int)) (h.ext cF.1)).mono ?_;rintro _ hb _ ⟨rfl,bV⟩;have e2:fX n i y:=⟨Ω,Ω,Ω,by rw[r8,u4,x6 hi,V8];omega⟩;have e3:hp s (i:Int).toNat (y:Int).toNat=x.un.getD y 0:=by
    rw[r8,r8];unfold hp;rw[av]
   have bl:=cF.ext bV;rw[if_pos e2,e3,bu,bw];refine N bl.2.1 (bg (cG.ext bV) ?_);refine (wU (i:=(i:Int)) (h.ext bl.1)).mono ?_;rintro _ hc _ ⟨rfl,bW⟩;have e4:(decide (0<=(i:Int))&&lq s (i:Int).toNat)=decide (x.gone≠0):=by
    rw[decide_eq_true Ω,T3,r8];unfold lq;rw[av]
   have bX:=(cE.trans bV).trans bW;rw[e4,bF,b0];refine⟨λaJ=>?_,λaJ=>?_⟩
   .have aT:¬x.gone≠0:=by simpa using aJ
    obtain⟨bm,cH,v5,e5,aq,G,bp⟩:=bl.ext bW;rw[aB (v:=v5) Ψ (aq.Qz rfl)];have e6:((fZ x).take q).length<=100:=by rw[j5];unfold fZ;rw[if_neg aT,u7];omega
    refine tR G (by simp only[dG,p8,pu,U3];omega) λe7 cI e9 H cK cL=>?_;have fa:=bm.size;have cM:Ext w cI:=bm.then H λr z he=>by have:=bp r he;omega
    refine hI.put (w:=w) (g1:=g1) cM aQ (side cH G Φ H) (side aq G Φ H) cK (λr z=>(cL r z).elim (bp r) λh=>Ω) λcN bY aU=>?_;have fb:=q7 (side ((cG.ext bV).ext bW) G Φ H) (side aq G Φ H) Φ bY;have cP:=eX;have fc:∀ {b:Nat} {e:r9} {cs:List x1},aa dH b e cs->ak≠e->an≠e->aa cN b e cs:=λB h1 P=>q7 (side (B.ext bX) G h1 H) (side aq G Φ H) P bY;refine⟨⟨fc dI Φ Φ,cd.ext aU.1⟩,⟨?_,fb⟩,λh=>by cases h⟩;rw[u9,show (fZ x)[q]? =σ (x.un.getD y 0) by unfold fZ;rw[if_neg aT,x8,dJ];rfl,o8,<-c9];exact aU
   .have aT:x.gone≠0:=by simpa using aJ
    refine⟨⟨dI.ext bX,eZ.ext bX⟩,⟨?_,cD.ext bX⟩,λh=>by cases h⟩;have e:fZ x=[]:=by unfold fZ;rw[if_pos aT]
    rw[e,List.take_nil] at bl ⊢;exact bl.ext bW
  .rintro q dH rfl ⟨bS,cD⟩;rw[aM];refine eB _ ?_;rw[bf];have:(fZ x).take (gq eS eU).length=fZ x:=o9 (by
    unfold fZ;split
    .simp
    .rw[u7,<-dE,u7];exact o4 _)
   rw[this] at bS;unfold dN;rw[<-c9,<-c9];exact bS
 .rintro bC ez S;refine ca Ω ?_;rw[o9 Ω] at S;have fd:([s.zero]++s.vars.flatMap dN).length<=100000:=by
   have:=km (L:=s.vars) (f:=dN) (b:=66) c8;have P:s.vars.length*66<=64*66:=X5 _ Ω;rw[p8];simp only[U3];omega
  have N:∀ {Q:x3} {K:x1->Prop},aa Q g1 dO [Γ ab]->K (Γ ab)->V x7 (u5 dO (Γ g1)) Q K:=λB aA=>by
   rw[aB (v:=Γ ab) Ψ (B.Qz rfl)];exact aA
  refine N S.2.1 ?_;rw[aO ct.p 3 (dc.ext S.1) rfl,eA ff.u (cj.ext S.1)];unfold mV;generalize[s.zero]++s.vars.flatMap dN=aV at S fd;refine ci.range cg.length (λj bZ=>hI w bZ ab g1 go (aV++(s.funs.take j).flatMap (dZ s))) Ω (by rw[List.take_zero,List.flatMap_nil,W7];exact S) ?_ ?_
  .rintro j bZ fe aI M fg;obtain⟨f,aX⟩:=aE (l:=s.funs) (i:=j) Ω;obtain⟨y,bR⟩:=aE (l:=cg) aI;obtain⟨⟨⟨bJ,aY⟩,_⟩,fh,_⟩:=dd.2 j y f bR aX;have b1:=fh.ls;obtain⟨aZ,cQ,_⟩:=ah.funs f (x5 aX);have b3:dv f.ac:=by rw[cQ];exact la ah.e1.2.2 λv aC=>⟨(aZ.scope.1 v aC).1,aZ.vars v aC⟩
   have hd:f.sc.length<=6:=aZ.scope.2;have fj:f.ac.length=f.sc.length:=by rw[cQ];unfold bP;rw[u7]
   have fk:b2 f.ac:=⟨Ω,b3⟩;have hf:=hU b3;have hg:aK f.ac<=4096:=by rw[cQ];exact aZ.small
   have bc:(aV++(s.funs.take j).flatMap (dZ s)).length<=1000000000:=by
    have:=km (L:=s.funs.take j) (f:=dZ s) (b:=4103) λa bd=>da a (T9 bd);rw[j5] at this;have P:min j s.funs.length*4103<=100000*4103:=X5 _ Ω;rw[p8];omega
   generalize be:aV++(s.funs.take j).flatMap (dZ s)=aj at M bc;have bf:aV++(s.funs.take (j+1)).flatMap (dZ s)=aj++dZ s f:=by
    rw[<-be,u9,aX,o8,List.flatMap_append,List.flatMap_singleton,c9]
   refine bH Ω ?_;refine dm (λdL=>hI w dL ab g1 go (aj++dZ s f)) (λdL fm=>by rw[aM];exact fg _ (by rw[bf];exact fm)) λau dM=>?_;rw[db rfl ff.u dQ.i (cj.ext M.1) aI,bx dQ.p dQ.i rfl ((cj.ext M.1).range bR)];refine bt ag.i λae dP hh b4 a1=>?_;have a1:aa dP ae ag [Δ 0]:=a1;refine bt dQ.i λb5 dR hj dS dT=>?_;refine bo (g:=ae) (o:=0) ag.i rfl rfl (a1.ext dS) Ξ λcR dU hl cS=>?_;have cS:aa cR ae ag [Δ (j:Int)]:=cS;have hn:=b4.size;have ho:=a1.lt;have cT:=(aY.ext M.1).ls;have fo:=b1.ext M.1;refine bT (vs:=lY y) dQ.i rfl rfl (by intro u hu;simp[lY] at hu;rcases hu with rfl|rfl|rfl<;>first|rfl|exact cT.cells.2|exact fo.cells.2) (dT.U dU λhe=>by have he:b5=ae:=he;omega) λdV dW hq fp=>?_;have dX:=cS.U dW λhe=>by have he:ae=b5:=he;omega
   have fq:Ext bZ dV:=((b4.trans dS).then dU λr z he=>by have he:r=ae:=he;omega).put dW Ω;have cU:=M.ext fq;have dY:∀ {Q:x3} {K:x1->Prop},aa Q ae ag [Δ (j:Int)]->K (Δ (j:Int))->V x7 (u5 ag (Γ ae)) Q K:=λB aA=>by
    rw[aB (v:=Δ (j:Int)) Ψ (B.Qz rfl)];exact aA
   refine N cU.2.1 (dY dX ?_);refine (wW (j:=(j:Int)) (h.ext cU.1)).mono ?_;rintro _ ea _ ⟨rfl,bq⟩;have eb:=cU.ext bq;have fs:(decide (0<=(j:Int))&&gA s (j:Int).toNat)=decide (f.live≠0):=by
    rw[decide_eq_true Ω,T3,r8];unfold gA;rw[aX]
   rw[fs,bF,b0];refine⟨λaJ=>dM _ ?_,λaJ=>?_⟩
   .have aT:¬f.live≠0:=by simpa using aJ
    unfold dZ;rw[if_neg aT,W7];exact eb
   have cP:f.live≠0:=by simpa using aJ
   obtain⟨cV,ft,fu,ge,cW,br,ec⟩:=id eb;have fv:=dX.ext bq;have ed:aa ea b5 dQ [y.aD,y.szv,Δ (y.at_:Int)]:=fp.ext bq;rw[aB (v:=fu) Ψ (cW.Qz rfl),az dQ.p 0 ed rfl];refine (tS br (aY.ext cV) Ω).mono ?_;rintro bK bi _ ⟨E,⟨dy,aF⟩,bj⟩;have hr:=cV.size;have aG:Ext w bi:=cV.then E λr z he=>by have:=ec r he;omega
   refine hI.put (w:=w) (g1:=g1) aG aQ (side ft br Φ E) (side cW br Φ E) aF (λr z=>(bj r z).elim (ec r) λh=>Ω) λbN aH bk=>?_;have ee:∀ {b:Nat} {e:r9} {cs:List x1},aa ea b e cs->ak≠e->an≠e->aa bN b e cs:=λB h1 P=>q7 (side B br h1 E) (side cW br Φ E) P aH;have fw:=ee fv Φ Φ;have ef:=ee ed Φ Φ;rw[aP dQ.p rfl,bx (cs:=[y.szv]) bA.p bA.i rfl (λq u bO=>by
    cases q with
    |zero=>cases bO;exact ef.cell (o:=0+1) rfl
    |succ q=>simp at bO)]
   refine sH.mono ?_;rintro _ hs _ ⟨cX,eg,rfl,ht,fx⟩;have cY:=bk.ext cX;have fy:=sG (g:=eg) (B0:=w.heap.size) (sv:=y.szv) fk;refine nb.old ⟨Nat,false,kQ,#[Γ eg],_,_,_,_,λq w'=>hI w w' ab g1 go (aj++j1 f.sc++(((a8 f.ac).take q).filter (cO s f.sc)).map (ba f.ac f.cs))/\aa w' ae ag [Δ (j:Int)]/\aa w' b5 dQ [y.aD,y.szv,Δ (y.at_:Int)],λ_ _ _=>False,rfl,fy.s,
    ?_,λ_ _ C h=>⟨h.1.ext C,h.2.1.ext C,X0 h.2.2 C.size⟩,λ_ _ _ C h=>⟨h.1.ext C,h.2.1.ext C,h.2.2.ext C⟩,λ_ _ _ _ _ h=>h,⟨fx,b1.ext cY.1,cY.1.size⟩,⟨by rw[List.take_zero,List.filter_nil,List.map_nil,W7];exact cY,fw.ext cX,ef.ext cX⟩,?_,?_,λ_ _ h=>h.elim,λ_ _ _ h=>h.elim⟩
   .rintro _ _ _ _ ⟨_,_,_,_,rfl,_⟩;rfl
   .rintro _ aL q _ eh ⟨ei,fz,fB⟩ ⟨bO,rfl,hv,gt,fD,hx,ek⟩ ⟨b6,cZ,c0⟩;cases fD;have b7:(a8 f.ac)[q]? =σ (cJ f.ac (q:Int)):=nK b3 Ω;generalize cJ f.ac (q:Int)=tl at b7 ek;intro hy b9 _ _;have c3:=b6.ext b9;have em:=(ek.ext b9).ls;refine N c3.2.1 (dY (cZ.ext b9) ?_);refine (pm (j:=j) (h.ext c3.1) em).mono ?_;rintro _ hz _ ⟨rfl,c4⟩;have fE:=hW b3 b7;have fF:(gB s j tl).isSome=true:=by unfold gB;rw[aX];simp only;rw[if_pos cP,fE];rfl
    have fG:kD s j tl=ba f.ac f.cs tl:=by unfold kD;rw[aX]
    have bz:=c3.ext c4;rw[if_pos fF,fG,bu,bw];refine N bz.2.1 ?_;have en:=b9.trans c4;rw[bx dQ.p dQ.i rfl (c0.ext en).range];refine (Pl (at_:=(y.at_:Int)) (h.ext bz.1) ((aY.ext bz.1).ls) (b1.ext bz.1) (λv aC=>⟨(aZ.scope.1 v aC).1,aZ.vars v aC⟩) (em.ext c4) (by rw[sd b7,fj])).mono ?_;rintro _ hA _ ⟨rfl,eo⟩;have ep:=bz.ext eo;have a2:=en.trans eo;have er:((a8 f.ac).take (q+1)).filter (cO s f.sc)=((a8 f.ac).take q).filter (cO s f.sc)++(if cO s f.sc tl=true then[tl] else[]):=by
     rw[u9,b7,o8,List.filter_append];congr 1;cases ay:cO s f.sc tl<;>simp[ay]
    rw[b0];refine⟨λc5=>?_,λc5=>?_⟩
    .obtain⟨bm,cH,v5,e5,aq,G,bp⟩:=ep;rw[aB (v:=v5) Ψ (aq.Qz rfl)];have e6:(((a8 f.ac).take q).filter (cO s f.sc)).length<=4096:=by
      have:=List.length_filter_le (cO s f.sc) ((a8 f.ac).take q);rw[j5] at this;omega
     refine tR G (by simp only[p8,pu,u7];omega) λe7 cI e9 H cK cL=>?_;have fa:=bm.size;have cM:Ext w cI:=bm.then H λr z he=>by have:=bp r he;omega
     refine hI.put (w:=w) (g1:=g1) cM aQ (side cH G Φ H) (side aq G Φ H) cK (λr z=>(cL r z).elim (bp r) λh=>Ω) λcN bY aU=>?_;have c6:∀ {b:Nat} {e:r9} {cs:List x1},aa eh b e cs->ak≠e->an≠e->aa cN b e cs:=λB h1 P=>q7 (side (B.ext a2) G h1 H) (side aq G Φ H) P bY;refine⟨⟨c6 ei Φ Φ,b1.ext aU.1,aU.1.size⟩,⟨?_,c6 cZ Φ Φ,c6 c0 Φ Φ⟩,λh=>by cases h⟩;rw[er,if_pos c5,j6,List.map_singleton,<-c9];exact aU
    .refine⟨⟨ei.ext a2,fz.ext a2,X0 fB a2.size⟩,⟨?_,cZ.ext a2,c0.ext a2⟩,λh=>by cases h⟩;rw[er,if_neg (by rw[c5];decide),W7];exact ep
   .rintro q eh rfl ⟨b6,_⟩;refine dM _ ?_;rw[o9 Ω] at b6;unfold dZ;rw[if_pos cP,<-c9];exact b6
  .rintro bZ fe M;refine ca Ω ?_;rw[o9 Ω] at M;have fH:(aV++s.funs.flatMap (dZ s)).length<=1000000000:=by
    have:=km (L:=s.funs) (f:=dZ s) (b:=4103) da;have P:s.funs.length*4103<=100000*4103:=X5 _ Ω;rw[p8];omega
   refine N M.2.1 ?_;rw[aO ct.p 4 (dc.ext M.1) rfl,eA rW.u (ck.ext M.1)];generalize aV++s.funs.flatMap (dZ s)=cb at M fH;refine ci.range ch.length (λj cc=>hI w cc ab g1 go (cb++(s.ce.take j).flatMap fM)) Ω (by rw[List.take_zero,List.flatMap_nil,W7];exact M) ?_ ?_
   .rintro j cc fI aI af fJ;obtain⟨e,he⟩:=aE (l:=s.ce) (i:=j) Ω;obtain⟨x,C⟩:=aE (l:=ch) aI;obtain⟨bq,⟨⟨bJ,aY⟩,_⟩,⟨hB,es⟩,_⟩:=de.2 j x e C he;obtain⟨hC,dT⟩:=B e (x5 he);have bc:(cb++(s.ce.take j).flatMap fM).length<=10000000000:=by
     have:=km (L:=s.ce.take j) (f:=fM) (b:=2004) λa bd=>by
      obtain⟨h1,P⟩:=B a (T9 bd);unfold fM;simp only[p8,pu,b8,List.length_nil];omega
     rw[j5] at this;have P:min j s.ce.length*2004<=100000*2004:=X5 _ Ω;rw[p8];omega
    generalize be:cb++(s.ce.take j).flatMap fM=aj at af bc;have bf:cb++(s.ce.take (j+1)).flatMap fM=aj++fM e:=by
     rw[<-be,u9,he,o8,List.flatMap_append,List.flatMap_singleton,c9]
    refine bH Ω ?_;rw[db rfl rW.u gf.i (ck.ext af.1) aI,bx gf.p gf.i rfl ((ck.ext af.1).range C)];refine bt gf.i λge dP hD b4 a1=>?_;have cT:=(aY.ext af.1).ls;have fK:=(es.ext af.1).ls;refine bT (vs:=ws x) gf.i rfl rfl (by intro u hu;simp[ws] at hu;rcases hu with rfl|rfl|rfl<;>first|rfl|exact cT.cells.2|exact fK.cells.2) a1 λdR fL hE a6=>?_;have fN:Ext cc dR:=b4.put fL Ω;intro cR et _ _;have a6:aa cR ge gf [Δ x.v,x.aD,x.bv]:=a6.ext et;obtain⟨am,I,v,g,O,hm,aw⟩:=af.ext (fN.trans et);rw[aB (v:=v) Ψ (O.Qz rfl),az gf.p 0 a6 rfl,az gf.p 1 a6 rfl,az gf.p 2 a6 rfl,bq];refine pY (l:=[-1,e.v]) an.u ak.i Ω rfl Ψ λhF hG dV hH aN fO=>?_;refine⟨.inl aN,?_⟩;have W:=hm.ext aN;refine gP an.u ak.i rfl W fO.ls Θ Θ λcu eK cw X cz Y=>?_;have eL:=am.size;have hJ:=aN.size;have bh:∀r,leads cu r->w.heap.size<=r:=λr z=>(cz r z).elim (aw r) λh=>Ω
    have ao:Ext w cw:=(am.trans aN).then Y λr z he=>by have:=aw r he;omega
    have c7:=side (a6.ext aN) W Φ Y;have bI:=side (I.ext aN) W Φ Y;have cA:=side (O.ext aN) W Φ Y;refine⟨.inr ⟨nE Ψ (c7.cell (o:=0+2) rfl),Go.Vc.k7 λK=>aP gf.p rfl,nE Ψ (c7.cell (o:=0+1) rfl),Go.Vc.k7 λK=>aP gf.p rfl,trivial⟩,?_⟩;refine (tS X (aY.ext ao) Θ).mono ?_;rintro bK bi _ ⟨E,⟨dy,aF⟩,bj⟩;have eP:=ao.size;have bL:∀r,leads bK r->w.heap.size<=r:=λr z=>(bj r z).elim (bh r) λh=>Ω
    have aG:Ext w bi:=ao.then E λr z he=>by have:=bh r he;omega
    have fP:=side c7 X Φ E;have cC:=side bI X Φ E;have bM:=side cA X Φ E;refine⟨.inr ⟨nE Ψ (fP.cell (o:=0+2) rfl),Go.Vc.k7 λK=>aP gf.p rfl,trivial⟩,?_⟩;refine (tS aF (es.ext aG) (by simp[pu];omega)).mono ?_;rintro hK bN _ ⟨aH,⟨hL,fQ⟩,fR⟩;have hM:=aG.size;have fS:Ext w bN:=aG.then aH λr z he=>by have:=bL r he;omega
    refine hI.put (w:=w) (g1:=g1) fS aQ (side cC aF Φ aH) (side bM aF Φ aH) fQ (λr z=>(fR r z).elim (bL r) λh=>Ω) λeR hN fU=>?_;rw[aM];refine fJ _ ?_;rw[bf];unfold fM;rw[<-c9,<-c9];exact fU
   .rintro cc fI af;refine ca Ω ?_;rw[o9 Ω] at af;obtain⟨am,I,v,g,O,hm,aw⟩:=af;rw[aB (v:=v) Ψ (O.Qz rfl)];intro hO eu _;exact⟨am.trans eu,g,hm.ext eu,aw⟩
end
def gD (s:aq):List b3:=s.funs.filter λf=>decide (f.live≠0)
structure pv (s t:aq):Prop where
 zero:s.zero=t.zero
 Pp:s.ce.length=t.ce.length
 vars:s.vars.map dN=t.vars.map dN
 ce:s.ce.map fM=t.ce.map fM
 funs:(gD s).map (dZ s)=(gD t).map (dZ t)
theorem tT {a b:Λ} (h:j1 a++r=j1 b++r'):a=b/\r=r':=by
 unfold j1 at h;rw[List.cons_append,List.cons_append,List.cons.injEq] at h;exact List.append_inj h.2 Ω
theorem Em {x:bl}:(fZ x).length=if x.gone≠0 then 0 else (ax x).length:=by
 unfold fZ;split<;>simp
theorem xj {x y:bl} (h:dN x++r=dN y++r'):(x.gone=y.gone/\ax x=ax y/\fZ x=fZ y)/\r=r':=by
 unfold dN at h;rw[c9,c9,c9,c9,List.singleton_append,List.singleton_append,List.cons.injEq] at h;obtain⟨h1,e⟩:=h;obtain⟨a,f⟩:=tT e;obtain⟨j,p⟩:=List.append_inj f (by rw[Em,Em,h1,a]);exact⟨⟨h1,a,j⟩,p⟩
theorem q8 {x y:bl}:dN x=dN y↔x.gone=y.gone/\ax x=ax y/\fZ x=fZ y:=⟨λh=>(xj (r:=[]) (r':=[]) (by rw[h])).1,λ⟨h1,a,e⟩=>by unfold dN;rw[h1,a,e]⟩
theorem En {α:Type} {f g:α->Λ} (h:∀x y r r',f x++r=g y++r'->f x=g y/\r=r'):∀ (L M:List α) (r r':Λ),L.length=M.length->L.flatMap f++r=M.flatMap g++r'->L.map f=M.map g/\r=r'
 |[],[],_,_,_,e=>⟨rfl,e⟩
 |[],_::_,_,_,a,_=>by simp at a
 |_::_,[],_,_,a,_=>by simp at a
 |x::L,y::M,r,r',a,e=>by
  rw[X2,X2,c9,c9] at e;obtain⟨h1,j⟩:=h x y _ _ e;obtain⟨p,q⟩:=En h L M r r' (by simpa using a) j;exact⟨by rw[V7,V7,h1,p],q⟩
theorem xk {α:Type} {f g:α->Λ} {P:Int->Prop}:∀ (L M:List α) (r r':Λ),(∀x∈L,∀y∈M,∀r r',f x++r=g y++r'->f x=g y/\r=r')->(∀x∈L,∃a l,f x=a::l/\P a)->(∀x∈M,∃a l,g x=a::l/\P a)->(∀a l,r=a::l->¬P a)->(∀a l,r'=a::l->¬P a)->
  L.flatMap f++r=M.flatMap g++r'->L.map f=M.map g/\r=r'
 |[],[],_,_,_,_,_,_,_,e=>⟨rfl,e⟩
 |[],y::M,r,r',_,_,p,q,_,e=>by
  obtain⟨a,l,s,h⟩:=p y (.head _);rw[List.flatMap_nil,List.nil_append,X2,s,c9,List.cons_append] at e;exact absurd h (q _ _ e)
 |x::L,[],r,r',_,h1,_,_,w,e=>by
  obtain⟨a,l,s,h⟩:=h1 x (.head _);rw[List.flatMap_nil,List.nil_append,X2,s,c9,List.cons_append] at e;exact absurd h (w _ _ e.symm)
 |x::L,y::M,r,r',h,h1,p,q,w,e=>by
  rw[X2,X2,c9,c9] at e;obtain⟨z,A⟩:=h x (.head _) y (.head _) _ _ e;obtain⟨B,C⟩:=xk L M r r' (λa j b E=>h a (.tail _ j) b (.tail _ E)) (λa j=>h1 a (.tail _ j)) (λa j=>p a (.tail _ j)) q w A;exact⟨by rw[V7,V7,z,B],C⟩
theorem xl {s:aq}:∀ (L:List b3),L.flatMap (dZ s)=(L.filter λf=>decide (f.live≠0)).flatMap (dZ s)
 |[]=>rfl
 |f::L=>by
  rw[X2,xl L,List.filter_cons];by_cases h:f.live≠0
  .rw[decide_eq_true h,if_pos rfl,X2]
  .rw[decide_eq_false h,if_neg Φ];unfold dZ;rw[if_neg h,List.nil_append]
theorem Eo {s t:aq} (h:s.vars.map dN=t.vars.map dN):cO s sc tl=cO t sc tl:=by
 unfold cO;congr 1;funext p;have h1:(s.vars.map dN)[p.1.toNat]? =(t.vars.map dN)[p.1.toNat]?:=by rw[h]
 rw[x8,x8] at h1;cases I:s.vars[p.1.toNat]? with
 |none=>
  rw[I] at h1;cases a:t.vars[p.1.toNat]? with
  |none=>rfl
  |some y=>rw[a] at h1;cases h1
 |some x=>
  rw[I] at h1;cases a:t.vars[p.1.toNat]? with
  |none=>rw[a] at h1;cases h1
  |some y=>
   rw[a] at h1;have:=(q8.1 (c7 h1)).2.1;show decide (p.2∈ax x)=decide (p.2∈ax y);rw[this]
theorem od {s:aq} {f:b3} (h:f∈gD s):f∈s.funs/\dZ s f=j1 f.sc++((a8 f.ac).filter (cO s f.sc)).map (ba f.ac f.cs):=by
 obtain⟨h1,a⟩:=T4.1 h;exact⟨h1,by unfold dZ;rw[if_pos (of_decide_eq_true a)]⟩
theorem Ep {s t:aq} (I:br k sizes s) (h:br k sizes t) (j:s.vars.map dN=t.vars.map dN) {f g:b3} (p:f∈gD s) (q:g∈gD t) (e:dZ s f++r=dZ t g++r'):
  f.sc=g.sc/\((a8 f.ac).filter (cO s f.sc)).map (ba f.ac f.cs)=((a8 f.ac).filter (cO s f.sc)).map (ba f.ac g.cs)/\r=r':=by
 obtain⟨f1,f2⟩:=od p;obtain⟨g1,w⟩:=od q;rw[f2,w,c9,c9] at e;obtain⟨h1,a⟩:=tT e;have x:g.ac=f.ac:=by rw[(I.funs f f1).2.1,(h.funs g g1).2.1,h1]
 have y:cO t g.sc=cO s f.sc:=by funext tl;rw[<-Eo j,h1]
 rw[x,y] at a;obtain⟨z,A⟩:=List.append_inj a (by rw[u7,u7]);exact⟨h1,z,A⟩
theorem Er {s t:aq} (I:br k sizes s) (e:br k sizes t) (j:s.vars.map dN=t.vars.map dN) {f g:b3} (p:f∈gD s) (q:g∈gD t):
  dZ s f=dZ t g↔f.sc=g.sc/\((a8 f.ac).filter (cO s f.sc)).map (ba f.ac f.cs)=((a8 f.ac).filter (cO s f.sc)).map (ba f.ac g.cs):=by
 refine⟨λh=>?_,λ⟨h1,a⟩=>?_⟩
 .obtain⟨h1,a,_⟩:=Ep (r:=[]) (r':=[]) I e j p q (by rw[h]);exact⟨h1,a⟩
 .obtain⟨f1,f2⟩:=od p;obtain⟨g1,w⟩:=od q;have x:g.ac=f.ac:=by rw[(I.funs f f1).2.1,(e.funs g g1).2.1,h1]
  have y:cO t g.sc=cO s f.sc:=by funext tl;rw[<-Eo j,h1]
  rw[f2,w,x,y,a,h1]
theorem Es {a b:pf} (h:fM a++r=fM b++r'):(a.v=b.v/\a.sc=b.sc/\a.hd=b.hd)/\r=r':=by
 unfold fM at h;rw[c9,c9,c9,c9,List.cons_append,List.cons_append,List.nil_append,List.cons_append,List.cons_append,List.nil_append] at h;injection h with _ h;injection h with h1 h;obtain⟨e,h⟩:=tT h;obtain⟨f,h⟩:=tT h;exact⟨⟨h1,e,f⟩,h⟩
theorem Et {s t:aq} (I:br k sizes s) (j:br k sizes t):mV s=mV t↔pv s t:=by
 unfold mV;rw[xl s.funs,xl t.funs];refine⟨λh=>?_,λh=>?_⟩
 .rw[c9,c9,c9,c9,List.singleton_append,List.singleton_append] at h;injection h with B h;obtain⟨h1,h⟩:=En (λx y r r' e=>⟨q8.2 (xj e).1,(xj e).2⟩) s.vars t.vars _ _ (by rw[I.vars,j.vars]) h;have p:∀u:aq,∀a l,u.ce.flatMap fM=a::l->¬0<=a:=λu a l e=>by
   cases hu:u.ce with
   |nil=>rw[hu] at e;cases e
   |cons x l'=>
    rw[hu,X2] at e;unfold fM at e;rw[c9,c9,List.cons_append] at e;injection e with e _;omega
  have q:∀u:aq,∀f∈gD u,∃a l,dZ u f=a::l/\0<=a:=λu f C=>by
   rw[(od C).2];exact⟨_,_,rfl,Ω⟩
  obtain⟨E,h⟩:=xk (P:=λa=>0<=a) (gD s) (gD t) _ _ (λx w y z r r' e=>by
   obtain⟨a,b,c⟩:=Ep I j h1 w z e;exact⟨(Er I j h1 w z).2 ⟨a,b⟩,c⟩) (q s) (q t) (p s) (p t) h
  obtain⟨A,_⟩:=xk (f:=fM) (g:=fM) (P:=λ_=>True) (r:=[]) (r':=[]) s.ce t.ce (λx _ y _ r r' e=>by
   obtain⟨⟨a,b,c⟩,d⟩:=Es e;exact⟨by unfold fM;rw[a,b,c],d⟩) (λx _=>⟨_,_,rfl,trivial⟩) (λx _=>⟨_,_,rfl,trivial⟩) (λ_ _ e=>by cases e) (λ_ _ e=>by cases e) (by rw[W7,W7];exact h)
  exact⟨B,by simpa using congrArg T7 A,h1,A,E⟩
 .show[s.zero]++s.vars.flatMap dN++(gD s).flatMap (dZ s)++_=[t.zero]++t.vars.flatMap dN++(gD t).flatMap (dZ t)++_;rw[List.flatMap_def,List.flatMap_def,List.flatMap_def,List.flatMap_def (l:=t.vars),List.flatMap_def (l:=gD t),List.flatMap_def (l:=t.ce),h.zero,h.vars,h.ce,h.funs]
theorem Pq {t:r9} {cx cy:Bool} {a b:Bool} {K:x1->Prop} (e:x7.underlying t=σ .bool):V x7 (aJ .neq t cx cy (.bool a) (.bool b)) w K=K (.bool !(a == b)):=
 zs (λ_=>rfl) rfl λw' _=>run_equalIn_bool' (P:=x7) (w:=w') 9999 t a b e
theorem Eu {S R:af} {e:pf} (h:aj.rep (α:=jq) m S R w cs (l1 e)):∃aD bv,cs=[Δ e.v,aD,bv]/\Seen ek w [aD] e.sc/\Seen ek w [bv] e.hd:=by
 obtain⟨c1,c2,A,B,rfl,_,_,_,h1,j,p,aI,x,rfl,_,_,_,a,f⟩:=h;have h1:c1=[Δ e.v]:=h1;have a:Seen _ w j e.sc:=a;have f:Seen _ w p e.hd:=f;have one:∀ {α:Type} [aj α] {m:Bool} {S R:af} {c:List x1} {l:List α},aj.rep m S R w c l-> ∃v,c=[v]:=λh=>by obtain⟨v,q,_⟩:=h;exact⟨v,q⟩
 obtain⟨r,rfl⟩:=one a;obtain⟨s,rfl⟩:=one f;subst h1;exact⟨r,s,rfl,gK a,gK f⟩
theorem Ev {b:Bool} {aD aY:x1} {a e f:Λ} (h1:Seen ek w [aD] a) (h:Seen ek w [szv] e) (j:Seen ek w [aY] f):∀u∈[aD,szv,aY,.bool b],u.oneCell'=true:=by
 intro u hu;simp only[V1,List.not_mem_nil,or_false] at hu;rcases hu with rfl|rfl|rfl|rfl
 .exact e4 h1
 .exact e4 h
 .exact e4 j
 .rfl
section
variable {w:x3} {ab ad:Nat} {A R:af} {n:aS} {s:aq} {t:aC} {eH:x1}
end
theorem Pr {R:af} {f:b3} (h:Seen (α:=hl) R w cs (fW f)):∃aD szv aY,cs=[aD,szv,aY,.bool (decide (f.live≠0))]/\Seen R w [aD] f.sc/\Seen R w [szv] f.ac/\Seen R w [aY] f.cs:=by
 obtain⟨c1,c2,A,B,rfl,p,_,_,⟨q,G,aI,H,rfl,_,s,_,h1,x,y,I,gw,rfl,_,z,_,a,e⟩,j⟩:=h;have one:∀ {α:Type} [aj α] {m:Bool} {S R:af} {c:List x1} {l:List α},aj.rep m S R w c l-> ∃v,c=[v]:=λh=>by obtain⟨v,C,_⟩:=h;exact⟨v,C⟩
 have h1:Seen R w q f.sc:=h1;have a:Seen R w x f.ac:=a;have j:c2=[.bool (decide (f.live≠0))]:=j;have e:aj.rep false gw R w y f.cs:=e;obtain⟨E,rfl⟩:=one h1;obtain⟨F,rfl⟩:=one a;obtain⟨v3,rfl⟩:=one e;subst j;exact⟨E,F,v3,rfl,h1,a,nv e λr _ h=>h.elim (λh=>(p r (s r (z r h))).elim) id⟩
def j2 (B:Nat) (w:x3) (sizes:Λ) (h:eD):Prop:=Seen (λr=>r<B) w [h.aD] h.sc/\Seen (λr=>r<B) w [h.szv] (bP sizes h.sc)/\Seen (λr=>r<B) w [h.aY] h.cs
theorem j2.U {h:eD} (ay:j2 B w sizes h) (a:ae S w w') (e:∀r,r<B->¬S r):j2 B w' sizes h:=by
 have c:∀ {v:x1} {l:Λ},Seen (λr=>r<B) w [v] l->Seen (λr=>r<B) w' [v] l:=λh=>aj.U h a λr _ h=>e r (h.elim False.elim id);exact⟨c ay.1,c ay.2.1,c ay.2.2⟩
theorem j2.ext {h:eD} (ay:j2 B w sizes h) (a:Ext w w'):j2 B w' sizes h:=ay.U (a.U λ_=>False) λ_ _ h=>h
theorem j2.one {h:eD} (ay:j2 B w sizes h):∀u∈cR h,u.oneCell'=true:=by
 intro u hu;simp only[cR,V1,List.not_mem_nil,or_false] at hu;rcases hu with rfl|rfl|rfl
 .exact e4 ay.1
 .exact e4 ay.2.1
 .exact e4 ay.2.2
def q9 (f:b3):cz:=(f.sc,f.cs)
def tU (B:Nat) (w:x3) (sizes:Λ) (g:Nat) (v:x1) (l:List cz):Prop:=∃L,bg cR 3 aU w g v L/\L.map dc=l/\ ∀h∈L,j2 B w sizes h
theorem tU.ext {g:Nat} {v:x1} {l:List cz} (h:tU B w sizes g v l) (a:Ext w w'):tU B w' sizes g v l:=by
 obtain⟨L,h1,e,f⟩:=h;exact⟨L,h1.ext a,e,λx j=>(f x j).ext a⟩
theorem Ew {eH:x1} {s:aq} (aa:ho w eH k sizes s) (ab:br k sizes s) (aH:s.funs.length<=100000):
  ai x7 GH [eH] w λv w'=>Ext w w'/\ ∃g,tU w'.heap.size w' sizes g v ((gD s).map q9):=by
 refine aw func73 ?_;refine bn λg1 J aI Q ac=>?_;obtain⟨szv,aJ,aK,aL,ad,aN,ae,aO,_,aQ,aR,aS,af,aV⟩:=aa.box Q ac;have R:Seen (λr=>r<J.heap.size) J [ad] (s.funs.map fW):=nv af λr e _=>e;rw[az aG.p 6 ae rfl,fC dP.u R,u7];refine bY.range s.funs.length (λi out w2=>Ext J w2/\ ∃g L,bg cR 3 aU w2 g out L/\L.map dc=((s.funs.take i).filter λf=>decide (f.live≠0)).map q9/\(∀h∈L,j2 J.heap.size w2 sizes h)/\ ∀r,leadsTo out r->J.heap.size<=r) Ω
  ⟨Ext.refl _,0,[],bg.nil _ _ _ _ _,rfl,λh ay=>(by cases ay),λr e=>(e7 e).elim⟩ ?_ ?_
 .rintro i out w2 ag hi ⟨y,g,L,C,A,B,G⟩ ak;obtain⟨f,H⟩:=aE (l:=s.funs) hi;obtain⟨_,al,_⟩:=ab.funs f (x5 H);have aW:L.length<=100000:=by
   have h1:=congrArg T7 A;have am:=List.length_filter_le (λf:b3=>decide (f.live≠0)) (s.funs.take i);rw[u7,u7] at h1;rw[j5] at am;omega
  have S:(s.funs.take (i+1)).filter (λf=>decide (f.live≠0))=(s.funs.take i).filter (λf=>decide (f.live≠0))++(if f.live≠0 then[f] else[]):=by
   rw[u9,H,o8,List.filter_append];congr 1;by_cases h:f.live≠0
   .rw[if_pos h,List.filter_cons,if_pos (decide_eq_true h),List.filter_nil]
   .rw[if_neg h,List.filter_cons,if_neg (by simpa using h),List.filter_nil]
  refine bH Ω ?_;refine aT (λout w2=>Ext J w2/\ ∃g L,bg cR 3 aU w2 g out L/\L.map dc=((s.funs.take (i+1)).filter λf=>decide (f.live≠0)).map q9/\(∀h∈L,j2 J.heap.size w2 sizes h)/\ ∀r,leadsTo out r->J.heap.size<=r) (λ_ _ an=>by rw[aM];exact ak _ _ an) λau V=>?_;refine jI (α:=hl) (a:=fW f) cT.p rfl dP.u cT.i (bd R y) (by rw[x8,H];rfl) λcs ao=>?_;obtain⟨aD,I,aY,rfl,W,X,Y⟩:=Pr ao;refine bt cT.i λga aX aZ ap av=>?_;refine bT (vs:=[aD,I,aY,.bool (decide (f.live≠0))]) cT.i rfl rfl (Ev (gK W) (gK X) (gK Y)) av λK ax a1 E=>?_;have j:Ext w2 K:=ap.put ax Ω;rw[az cT.p 1 E rfl,ah];refine⟨λM=>?_,λM=>V _ _ ⟨y.trans j,g,L,C.ext j,by rw[S,if_neg M,W7];exact A,λh ay=>(B h ay).ext j,G⟩⟩;let a:eD:=⟨aD,I,aY,f.sc,f.cs⟩;have Z:j2 J.heap.size K sizes a:=⟨bd W j,by show Seen _ K [I] (bP sizes f.sc);rw[<-al];exact bd X j,bd Y j⟩;rw[aP cT.p rfl,bx (cs:=cR a) aU.p aU.i rfl (λq u x=>by
   have:q<3:=(x4.1 x).1
   match q,this,x with
   |0,_,x=>cases x;exact E.cell (o:=0+0) rfl
   |1,_,x=>cases x;exact E.cell (o:=0+1) rfl
   |2,_,x=>cases x;exact E.cell (o:=0+2) rfl)]
  refine h0 (f:=cR) (k:=3) (a:=a) cj.u aU.i Ω rfl rfl λa2 a6 a7 a8 N aA=>?_;refine ik (f:=cR) (a:=a) cj.u aU.i rfl ((C.ext j).ext N) (by simpa using aA.sl) Z.one Ω Ω λba aB bb aC aF O=>?_;have P:=j.trans N;have z:=(y.trans P).size;have no:∀r,r<J.heap.size->¬leadsTo out r:=λr e h=>by have:=G r h;omega
  refine V _ _ ⟨(y.trans P).then O no,aB,L++[a],aC,by rw[j6,A,S,if_pos M,j6];rfl,λh ay=>?_,λr e=>(aF r e).elim (G r) λh=>Ω⟩;rcases l9.1 ay with ay|ay
  .exact ((B h ay).ext P).U O no
  .rw[n9.1 ay];exact (Z.ext N).U O no
 .rintro out w2 ag ⟨y,g,L,C,A,B,_⟩;refine ca Ω ?_;have z:=y.size;rw[o7] at A;have up:∀ {v:x1} {l:Λ},Seen (λr=>r<J.heap.size) w2 [v] l->Seen (λr=>r<w2.heap.size) w2 [v] l:=λh=>aj.mono h (λ_ _ h=>h) λr e _=>e;exact⟨Q.trans y,g,L,C,A,λh ay=>⟨up (B h ay).1,up (B h ay).2.1,up (B h ay).2.2⟩⟩
end Go.Proofs.YtjjhhcfgfdepdaaGreatDoor
