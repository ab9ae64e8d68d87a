/- own texts, made small by a tool (wip/ holds them as they were written): no statement of the seat. -/
import Derived.Test.YtmgflbkdggdhoaaGreatDoorZd
set_option linter.unusedVariables false
set_option linter.unusedSimpArgs false
set_option linter.unnecessarySimpa false
open Array renaming getElem?_eq_some_iff→o8
open BitVec renaming ofInt→U5
open Bool renaming not_true→Y7,not_false→W5,and_eq_true→V0,eq_iff_iff→V5,true_and→U3
open Decidable renaming not_not→Z9
open Go renaming Value→x1,World→x3,TypeId→r8,IntKind→o4,Program→W0
open Go.Addr renaming add_mid→T1
open Go.Builtin renaming append_→b8
open Go.Instr renaming loadAt→u4,fieldAt→u5,storeAt→o6,indexAt→j5,extract→Z4,buildSlice→Y0
open Go.IntKind renaming i64→X2
open Go.Proofs.Tryz renaming prog→x7
open Int renaming toNat_natCast→u6,eq_ofNat_of_zero_le→U4,le_refl→T2
open List renaming getElem?_eq_some_iff→x4,mem_of_getElem?→x5,getElem?_eq_getElem→x6,getElem?_map→x8,getD_eq_getElem?_getD→v8,length_map→u7,take_add_one→u9,replicate→r9,length_append→p9,take_length→o5,mem_append→o7,mem_singleton→o9,mem_map→n9,length_take→l9,take_of_length_le→j9,length_cons→c7,eq_nil_of_length_eq_zero→c8,getElem?_set_self→c9,map_append→b6,length_set→Z2,getElem?_eq_none→Z6,getElem?_take_of_lt→Z7,range→Z8,getElem?_append_left→Y1,getElem?_set_ne→Y2,getElem?_set→Y3,getElem?_append_right→Y4,ext_getElem?→Y6,mem_iff_getElem?→X1,flatMap_cons→X5,mem_or_eq_of_mem_set→X6,drop_eq_getElem_cons→X7,length_eq_one_iff→W3,mem_cons→W9,pairwise_iff_getElem→V2,map_set→V7,append_nil→U2,map_cons→U6,foldl_cons→U7,foldl_append→U9,mem_filter→T6,getElem_mem→T9,getElem?_zip_eq_some→S1,length→S7,map_map→S8
open Nat renaming le_refl→p8,le_trans→Y9,zero_add→X0,zero_le→X3,mul_le_mul_right→X4,sub_self→V6,mul_one→V8,add_mul→V9,pow_le_pow_right→T7,add_assoc→S9,add_sub_cancel_left→R3,lt_of_lt_of_le→R8
open Option renaming toList_some→l7,isNone_some→b9,map_some→Z3,map_eq_some_iff→Y5,getD_some→V1,map→V4,isSome_some→T8,isSome_none→S6
open Option.some renaming inj→j6
set_option maxHeartbeats 16000000
open Option renaming some→σ,none→ν
variable {w w':x3}{B C ad ag ga gs gt gtb gy j m:Nat}{S:Nat->Prop}{P e:r8}{a c k pos v y:Int}{aj cs l sc sizes t tl:Λ}{K:x1->x3->Prop}{aL sv:x1}{L:List (Λ)}
namespace Go.Proofs.YtmgflbkdggdhoaaGreatDoor
open Go Go.Vc Go.RowKit Go.Proofs Go.Proofs.Tryz
set_option maxRecDepth 100000
def N7 (w:x3) (f:bZ) (v:x1) (w':x3):Prop:=Ext w w'/\ ∃go a,bg dk 3 a8 w' go v a/\(∀h∈a,fJ w' f.sizes h/\ ∀r,pj h r->w.heap.size<=r)/\a.map du=fC f/\ ∀r,leadsTo v r->w.heap.size<=r
def k6 (k:Int) (sc cs:Λ) (h:cK):cK:=if h.1=sc then (h.1,dS k h.2 cs) else h
theorem N8 {N:Nat} {bH:Nat} {f:bZ} (cG:nT w bH f) (Q:e8 N f):am x7 GG [Γ bH] w (N7 w f):=by
 have hk:=Q.k;obtain⟨szv,gz,au,gr,aZ,bJ,cH⟩:=id cG;obtain⟨bK,a2,cI,cJ⟩:=id cH;refine az func101 ?_;rw[aO dA.p 3 aZ rfl,e9 dw.u a2];refine bX.range bK.length (λi l U=>∃g L,Ext w U/\km U w.heap.size g l f.sizes L/\L.map du=eG f i) a2.le
  ⟨0,[],Ext.refl _,⟨bg.nil _ _ _ _ _,λh aG=>(by cases aG),λi j x y I=>(by simp at I),λr m=>(fg m).elim⟩,rfl⟩ ?_ ?_
 rotate_left
 .rintro l U cK ⟨g,L,R,m,S⟩;rw[<-cI,CL] at S;rw[aN,al];refine⟨λh=>Ω,λ_=>N6 Q m S λout w' go cL I ba cM W cN cO=>?_⟩;have cP:=R.size;exact⟨R.trans I,go,cL,ba,λh aG=>⟨W h aG,(m.2.1 h (cM h aG)).2⟩,cN,λr m=>by have:=cO r m;omega⟩
 rintro i l U cK hi ⟨g,L,R,m,S⟩ cQ;obtain⟨bb,bL⟩:=aH (l:=bK) hi;obtain⟨x,bc⟩:=aH (l:=f.funs) (i:=i) Ω;have bd:=x5 bc;have bf:=cJ i bb x bL bc;have bN:=pc Q bd;obtain⟨cR,dI,dJ⟩:=CK Q i;have bP:L.length=(eG f i).length:=by rw[<-S,u7]
 have dK:=Q.kS;have bQ:=a2.ext R;refine bE Ω ?_;refine aV (λl' V=>∃g L,Ext w V/\km V w.heap.size g l' f.sizes L/\L.map du=eG f (i+1)) ?_ ?_
 .rintro l' V bh;rw[aM];exact cQ _ _ bh
 intro ay bR;rw[dr rfl dw.u a1.i bQ hi,bO a1.p a1.i rfl (bQ.range bL)];refine bG a1.i λaq dL dM cS cT=>?_;refine ck (vs:=eT bb) a1.i rfl rfl bf.one cT λcU cW dN cX=>?_;have bS:Ext U cU:=cS.put cW Ω;have dO:=bS.size;refine aV (λa6 av=>∃E c,a6=Γ E/\Ext U av/\af av E a8 (dk c)/\c.sc=bl x.scope/\c.cs=(hK f.sizes f.k x).2/\fJ av f.sizes c/\U.heap.size<=E/\ ∀r,pj c r->U.heap.size<=r) ?_ ?_
 rotate_left
 .intro dP bT;intro cY bU _ _;have aw:=bS.trans bU;have aB:=R.trans aw;have cZ:=cX.ext bU;have bW:=aZ.ext aB;have dQ:=aw.size;rw[bO a1.p a1.i rfl (show cY.rangeAt aq 0 (eT bb) from cZ.range),aO dA.p 2 bW rfl,aO dA.p 1 bW rfl];refine⟨?_,?_⟩
  .refine (Do (bf.ext aB) Q bd (bJ.ext aB)).mono ?_;rintro _ dR _ ⟨bi,c,rfl,h1,bj,W,M⟩;refine bG a8.i λE dT bY bk aC=>?_;refine⟨.inl (bi.trans bk),?_⟩;refine ck (vs:=dk c) a8.i rfl rfl W.one aC λdU b0 dV c0=>?_;have dW:=bi.size;refine bT _ _ ⟨E,c,rfl,(aw.trans bi).trans (bk.then b0 λr m he=>by have he:r=E:=he;omega),c0,h1,bj,?_,Ω,λr m=>by have:=M r m;omega⟩;exact mC (W.ext bk) b0 λr m=>.inl ⟨_,_,by have m:r=E:=m;subst m;exact aC,Φ,Φ⟩
  .refine bG a8.i λE dX bY aD aC=>?_;refine⟨.inl aD,?_⟩;have b1:=aB.trans aD;refine (Do (bf.ext b1) Q bd (bJ.ext b1)).mono ?_;rintro _ dZ _ ⟨b2,c,rfl,h1,bj,W,M⟩;have b3:=aC.ext b2;have ea:=aD.size;refine ck (vs:=dk c) a8.i rfl rfl W.one b3 λeb b4 ec c1=>?_;refine bT _ _ ⟨E,c,rfl,aw.trans ((aD.trans b2).then b4 λr m he=>by have he:r=E:=he;omega),c1,h1,bj,?_,Ω,λr m=>by have:=M r m;omega⟩;exact mC W b4 λr m=>.inl ⟨_,_,by have m:r=E:=m;subst m;exact b3,Φ,Φ⟩
 rintro _ av ⟨E,c,rfl,bm,c2,ag,aE,c3,bY,M⟩;have b5:=m.ext bm;have c4:∀h∈L,∀r,leads h.a7 r->r<U.heap.size:=λh aG r c5=>by
  obtain⟨⟨_,_,c6,b7⟩,_⟩:=m.2.1 h aG;have:=bM b7 c5;omega
 have c7:∀ {j:Nat},decide (c.sc∈(L.take j).map (·.sc))=decide (bl x.scope∈((eG f i).take j).map (·.1)):=λ{j}=>by
  rw[ag,<-S,<-List.map_take,S8];rfl
 have cP:=R.size;rw[e9 cV.u b5.1];refine bX.range L.length (λj au O=>∃C,au= .bool (decide (c.sc∈(L.take j).map (·.sc)))/\Ext w O/\U.heap.size<=O.heap.size/\km O w.heap.size g l f.sizes C/\C.map du=((eG f i).map (k6 f.k c.sc c.cs)).take j++(eG f i).drop j/\af O E a8 (dk c)/\fJ O f.sizes c/\ ∀h∈C,∀r,leads h.a7 r->r<U.heap.size) m.1.le
  ⟨L,Ξ,R.trans bm,bm.size,b5,by simpa using S,c2,c3,c4⟩ ?_ ?_
 .rintro j _ O c8 b8 ⟨C,rfl,ah,c9,aF,K,bn,bo,X⟩ da;have db:C.length=L.length:=by
   have:=congrArg S7 K;simp only[u7,p9,l9,List.length_drop] at this;omega
  obtain⟨h,aG⟩:=aH (l:=C) (i:=j) Ω;have aI:(eG f i)[j]? =σ (du h):=by
   have b9:(C.map du)[j]? =σ (du h):=by rw[x8,aG];rfl
   rw[K,Dr (by rw[u7];omega)] at b9;exact b9
  have aJ:((eG f i).map (k6 f.k c.sc c.cs))[j]? =σ (k6 f.k c.sc c.cs (du h)):=by rw[x8,aI];rfl
  have dc:∃y,L[j]? =σ y/\y.sc=h.sc:=by
   refine⟨_,x6 b8,?_⟩;rw[<-S,x8,x6 b8] at aI;exact congrArg Prod.fst (j6 aI)
  obtain⟨y,H,dd⟩:=dc;have bp:(c.sc∈(L.take (j+1)).map (·.sc))↔c.sc∈(L.take j).map (·.sc)\/h.sc=c.sc:=by
   rw[u9,H,l7,b6,o7,List.map_singleton,o9,dd];exact or_congr Iff.rfl ⟨λe=>e.symm,λe=>e.symm⟩
  have ca:fE f.sizes f.k (du h):=cR _ (x5 aI);refine bE Ω ?_;refine aV (λau P=>∃C,au= .bool (decide (c.sc∈(L.take (j+1)).map (·.sc)))/\Ext w P/\U.heap.size<=P.heap.size/\km P w.heap.size g l f.sizes C/\C.map du=((eG f i).map (k6 f.k c.sc c.cs)).take (j+1)++(eG f i).drop (j+1)/\af P E a8 (dk c)/\fJ P f.sizes c/\ ∀h∈C,∀r,leads h.a7 r->r<U.heap.size) ?_ ?_
  .rintro ed P bh;rw[aM];exact da _ _ bh
  intro ee cc;intro de aj _ _;have aL:=aF.ext aj;have cd:=bn.ext aj;have ce:=bo.ext aj;obtain⟨df,ef⟩:=aL.2.1 h (x5 aG);obtain⟨⟨g1,h1⟩,_,c6,b7⟩:=id df;obtain⟨⟨eg,dg⟩,_,eh,cg⟩:=id ce;rw[dr rfl cV.u a8.i aL.1 Ω,aW a8.p rfl,aA (v:=h.aP) Ψ (aL.1.range aG 0 _ rfl),aT a8.p 0 cd rfl];refine (JB h1.ls dg.ls).mono ?_;rintro _ ei _ ⟨rfl,aa⟩;have ci:=aL.ext aa;have bq:=cd.ext aa;have cj:=ce.ext aa;have cl:=(ah.trans aj).trans aa;have z9:=(aj.trans aa).size;rw[al];refine⟨λbr=>?_,λcn=>?_⟩
  rotate_left
  .refine cc _ _ ⟨C,?_,cl,Ω,ci,?_,bq,cj,X⟩
   .congr 1;exact decide_eq_decide.2 ⟨λh=>bp.2 (.inl h),λh=>(bp.1 h).resolve_right cn⟩
   .have e:k6 f.k c.sc c.cs (du h)=du h:=if_neg cn;rw[e] at aJ;rw[<-te Ω aJ,<-K];symm;refine Y6 λp=>?_;rw[Y3];by_cases ak:j=p
    .subst ak;rw[if_pos rfl,if_pos Θ,x8,aG];rfl
    .rw[if_neg ak]
  have dh:h.cs.length=c.cs.length:=by
   have di:h.cs.length=_:=ca.len;have dj:c.cs.length=(aK (bV f.sizes (hK f.sizes f.k x).1)).toNat:=by rw[aE];exact bN.len
   rw[di,dj,show (du h).1=h.sc from rfl,br,ag];rfl
  have ej:(dS f.k h.cs c.cs).length=h.cs.length:=by unfold dS;rw[List.length_zipWith];omega
  rw[aT a8.p 2 bq rfl,aU ax.u (cg.ext aa).ls];refine ch.range c.cs.length (λs Y=>Ext w Y/\U.heap.size<=Y.heap.size/\km Y w.heap.size g l f.sizes (C.set j {h with cs:=(dS f.k h.cs c.cs).take s++h.cs.drop s})/\af Y E a8 (dk c)/\fJ Y f.sizes c) cg.ls.le
   ⟨cl,Ω,?_,bq,cj⟩ ?_ ?_
  .have e:C.set j {h with cs:=(dS f.k h.cs c.cs).take 0++h.cs.drop 0}=C:=by
    refine Y6 λp=>?_;rw[Y3];by_cases ak:j=p
    .subst ak;rw[if_pos rfl,if_pos Ω,aG];rfl
    .rw[if_neg ak]
   rw[e];exact ci
  .rintro s Y dl J ⟨bt,cp,aQ,bu,bw⟩ dm;refine bE Ω ?_;intro ek an _ _;have ac:=aQ.ext an;have cq:=bu.ext an;have cr:=bw.ext an;have ct:=bt.trans an;have aR:(C.set j {h with cs:=(dS f.k h.cs c.cs).take s++h.cs.drop s})[j]? =σ {h with cs:=(dS f.k h.cs c.cs).take s++h.cs.drop s}:=by
    rw[Y3,if_pos rfl,if_pos Ω]
   have cu:j<(C.set j {h with cs:=(dS f.k h.cs c.cs).take s++h.cs.drop s}).length:=by rw[Z2];omega
   obtain⟨⟨_,_,dn,bx⟩,dp⟩:=ac.2.1 _ (x5 aR);obtain⟨_,_,em,dq⟩:=id cr;obtain⟨a,bz⟩:=aH (l:=h.cs) (i:=s) Ω;obtain⟨b,ao⟩:=aH (l:=c.cs) J;have ds:s<({h with cs:=(dS f.k h.cs c.cs).take s++h.cs.drop s}:fl).cs.length:=by show s<((dS f.k h.cs c.cs).take s++h.cs.drop s).length;rw[p9,l9,List.length_drop];omega
   have dt:((dS f.k h.cs c.cs).take s++h.cs.drop s)[s]? =σ a:=by rw[Dr Ω];exact bz
   have bA:(dS f.k h.cs c.cs)[s]? =σ (min (a+b) f.k):=by
    unfold dS;rw[List.getElem?_zipWith,bz,ao]
   have en:=ca.hv a (x5 bz);have eo:=bN.hv b (by rw[<-aE];exact x5 ao);have dv:=aZ.ext ct;rw[dr rfl cV.u a8.i ac.1 cu,aW a8.p rfl,aA (v:=h.a7) Ψ (ac.1.range aR 2 _ rfl),dr rfl cV.u a8.i ac.1 cu,aW a8.p rfl,aA (v:=h.a7) Ψ (ac.1.range aR 2 _ rfl),be ax.u ap.i Ψ bx.ls dt,aT a8.p 2 cq rfl,be ax.u ap.i Ψ dq.ls ao,aO dA.p 1 dv rfl];refine (nA Ω Ω).mono ?_;rintro _ ep _ ⟨rfl,ad⟩;refine⟨.inl ad,?_⟩;have z12:=(an.trans ad).size;refine N3 (h:={h with cs:=(dS f.k h.cs c.cs).take s++h.cs.drop s}) (ac.ext ad) aR ds λer aS cw bB=>?_;rw[aM];have dx:=cr.ext ad;have cz:=cq.ext ad;have es:=aS.size;refine dm _ ⟨(ct.trans ad).then aS λr m he=>by have:=dp r (.inl he);omega,Ω,?_,?_,?_⟩
   .rw[List.set_set] at bB;have e:=te (A:=dS f.k h.cs c.cs) (B:=h.cs) (s:=s) Ω bA;simp only[e] at bB;exact bB
   .exact cz.ab aS λJ=>by
     obtain⟨et,dy⟩:=cw _ J;exact absurd (fa cz dy) Φ
   .refine mC dx aS λr m=>.inr (.inr ⟨cw r m,λdz=>?_⟩);have:=M r (.inl dz);have:=X h (x5 aG) r m;omega
  .rintro Y dl ⟨bt,cp,aQ,bu,bw⟩;refine cm Ω ?_;have e:(dS f.k h.cs c.cs).take c.cs.length++h.cs.drop c.cs.length=dS f.k h.cs c.cs:=by
    rw[<-dh,List.drop_length,U2,j9 Ω]
   simp only[e] at aQ;refine cc _ _ ⟨_,?_,bt,cp,aQ,?_,bu,bw,λz G r m=>?_⟩
   .congr 1;symm;exact decide_eq_true (bp.2 (.inr br))
   .have dC:k6 f.k c.sc c.cs (du h)=du {h with cs:=dS f.k h.cs c.cs}:=if_pos br;rw[dC] at aJ;rw[V7,K,te Ω aJ]
   .rcases X6 G with G|rfl
    .exact X z G r m
    .exact X h (x5 aG) r m
 rintro _ O c8 ⟨C,rfl,ah,c9,aF,K,bn,bo,X⟩;refine cm Ω ?_;rw[c7,bP,o5,bI,cb];have cA:=wj bc;have bA:((eG f i).map (k6 f.k c.sc c.cs)).take L.length++(eG f i).drop L.length=(eG f i).map (k6 f.k c.sc c.cs):=by
  rw[bP,List.drop_length,U2,j9 (by rw[u7];exact p8 _)]
 rw[bA] at K;have db:C.length=L.length:=by
  have:=congrArg S7 K;rw[u7,u7] at this;omega
 refine⟨λaX=>?_,λae=>?_⟩
 .have aX:bl x.scope∉(eG f i).map (·.1):=by simpa using aX
  have dD:(eG f i).map (k6 f.k c.sc c.cs)=eG f i:=by
   refine (List.map_congr_left λz G=>?_).trans (List.map_id _);exact if_neg λhe=>aX (n9.2 ⟨z,G,by rw[he,ag]⟩)
  rw[dD] at K;rw[bO a8.p a8.i rfl (show O.rangeAt E 0 (dk c) from bn.range)];refine h2 (f:=dk) (k:=3) (a:=c) cV.u a8.i Ω rfl rfl λeu dn P ev aY bx=>?_;have Z:=aF.ext aY;have cB:=bo.ext aY;refine iw (f:=dk) (a:=c) cV.u a8.i rfl Z.1 (by simpa using bx.sl) cB.one Ω Ω λew dE de ba dF bC=>?_;have cC:∀r,leadsTo l r-> ∃e c,af P r e c/\e≠ai/\e≠ap:=λr m=>by
   obtain⟨rfl,c,ao⟩:=dY Z.1 m;exact⟨_,c,ao,Φ,Φ⟩
  have ey:=aY.size;have ez:=ah.size;refine bR _ _ ⟨dE,C++[c],(ah.trans aY).then bC λr m he=>by have:=Z.2.2.2 r he;omega,⟨ba,λz G=>?_,λp q y z H G dG r bD bF=>?_,λr m=>(dF r m).elim (Z.2.2.2 r) λh=>Ω⟩,?_⟩
  .rcases o7.1 G with G|G
   .exact⟨mC (Z.2.1 z G).1 bC λr m=>.inl (cC r m),(Z.2.1 z G).2⟩
   .rw[o9.1 G];exact⟨mC cB bC λr m=>.inl (cC r m),λr m=>by have:=M r m;omega⟩
  .have cD:∀ {p:Nat} {y:fl},(C++[c])[p]? =σ y->C[p]? =σ y\/(p=C.length/\y=c):=λ{p y} H=>by
    rw[List.getElem?_append] at H;split at H
    .exact .inl H
    .by_cases dH:p-C.length=0
     .rw[dH] at H;cases H;exact .inr ⟨Ω,rfl⟩
     .rw[Z6 Θ] at H;cases H
   rcases cD H with cE|⟨eA,rfl⟩<;>rcases cD G with cF|⟨eq,rfl⟩
   .exact Z.2.2.1 p q y z cE cF dG r bD bF
   .have:=X y (x5 cE) r bD;have:=M r (.inl bF);omega
   .have:=X z (x5 cF) r bF;have:=M r (.inl bD);omega
   .omega
  .rw[b6,K,cA,CJ λz G he=>aX (n9.2 ⟨z,G,he⟩)];show _++[(c.sc,c.cs)]=_;rw[ag,aE];rfl
 .have ae:bl x.scope∈(eG f i).map (·.1):=by simpa using ae
  refine bR _ _ ⟨g,C,ah,aF,?_⟩;rw[K,cA];unfold hY;rw[if_pos (show (hK f.sizes f.k x).1∈_ from ae)];refine List.map_congr_left λz _=>?_;unfold k6;rw[ag,aE];rfl
def wJ (w:x3) (B:Nat) (v:x1) (n:aR):Prop:=∃szv gz a f aX e gr L,v= .agg #[Δ n.k,szv,Δ n.zero,a,e]/\au .i64 ai w gz szv n.sizes/\hx w f a aX/\aX.map (·.l)=n.unary/\bg dk 3 a8 w gr e L/\(∀h∈L,fJ w n.sizes h)/\L.map du=n.funs/\(∀r,leads szv r->B<=r)/\ ∀h∈L,∀r,pj h r->B<=r
def z9:List x1:=[Δ 0,.slice ν 0 0,Δ 0,.slice ν 0 0,.slice ν 0 0]
def mD (w:x3) (C gt gs go:Nat) (szv a7:x1) (f:bZ) (a:List fl) (w':x3):Prop:=Ext w w'/\C<=w'.heap.size/\af w' gt dz z9/\au .i64 ai w' gs szv f.sizes/\bg dk 3 a8 w' go a7 a/\(∀r,leadsTo a7 r->r<C)/\ ∀h∈a,fJ w' f.sizes h
theorem mD.ext {V:x3} {go:Nat} {szv a7:x1} {f:bZ} {a:List fl} (h:mD w C gt gs go szv a7 f a w') (I:Ext w' V):mD w C gt gs go szv a7 f a V:=by
 obtain⟨h1,s,e,j,m,p,q⟩:=h;have:=I.size;exact⟨h1.trans I,Ω,e.ext I,j.ext I,m.ext I,p,λx r=>(q x r).ext I⟩
def N9 (w w':x3) (C gt:Nat) (r:Nat):Prop:=w.heap.size<=r/\r≠gt/\((∃c,af w' r dz c)\/(∃c,af w' r ax c)\/((∃c,af w' r a8 c)/\C<=r))
theorem mD.ab {V:x3} {go:Nat} {szv a7:x1} {f:bZ} {s:List fl} (h:mD w C gt gs go szv a7 f s w') (m:ah S w' V) (p:∀r,S r->N9 w w' C gt r):mD w C gt gs go szv a7 f s V:=by
 obtain⟨h1,G,B,y,q,z,E⟩:=h;have:=m.size;have A:∀r,S r-> ∃e c,af w' r e c/\e≠ai/\e≠ap:=λr j=>by
  obtain⟨_,_,⟨c,a⟩|⟨c,a⟩|⟨⟨c,a⟩,_⟩⟩:=p r j
  .exact⟨_,c,a,Φ,Φ⟩
  .exact⟨_,c,a,Φ,Φ⟩
  .exact⟨_,c,a,Φ,Φ⟩
 refine⟨h1.then m λr j J=>by have:=(p r J).1;omega,Ω,B.ab m λJ=>(p _ J).2.1 rfl,bp y m λr j J=>?_,q.ab m λr j J=>?_,z,λx I=>mC (E x I) m λr j=>.inl (A r j)⟩
 .obtain⟨e,c,a,F,_⟩:=A r J;exact b4 y a (λhe=>F he.symm) j rfl
 .obtain⟨_,_,⟨c,a⟩|⟨c,a⟩|⟨_,H⟩⟩:=p r J
  .exact cQ q a Φ j
  .exact cQ q a Φ j
  .have:=z r j;omega
def Dv (w:x3) (C f:Nat) (szv:x1) (k:Int) (n:aR) (j:List fl) (w':x3):Prop:=∃a m aX e gr L,af w' f dz [Δ k,szv,Δ n.zero,a,e]/\hx w' m a aX/\aX.map (·.l)=n.unary/\(∀r,leadsTo a r->w.heap.size<=r)/\bg dk 3 a8 w' gr e L/\(∀h∈L,h∈j)/\L.map du=n.funs/\ ∀r,leadsTo e r->C<=r
theorem Dw {N:Nat} {bY:Nat} {f:bZ} (b0:nT w bY f) (P:e8 N f):am x7 F0 [Γ bY] w λv w'=>Ext w w'/\wJ w' w.heap.size v (cP f):=by
 have hk:=P.k;have dF:=P.sizes.2.1;obtain⟨dG,dH,dI,dJ,b1,b2,dK⟩:=id b0;refine az func31 ?_;refine bG dz.i λgt U dL aR aS=>?_;have aS:af U gt dz z9:=aS;rw[aO dA.p 1 (b1.ext aR) rfl,dn (cs:=#[Δ f.k,.slice ν 0 0,Δ 0,.slice ν 0 0,.slice ν 0 0]) Ψ];refine bG dz.i λs V dM b3 cK=>?_;refine ck (vs:=[Δ f.k,.slice ν 0 0,Δ 0,.slice ν 0 0,.slice ν 0 0]) dz.i rfl rfl (by intro u hu;simp at hu;rcases hu with rfl|rfl|rfl|rfl<;>rfl) cK λcL b5 dN cM=>?_;have bw:Ext w cL:=(aR.trans b3).then b5 λr m he=>by have he:r=s:=he;have:=aR.size;omega
 have dO:=aS.lt;have C:s≠gt:=Ω
 have cN:=(aS.ext b3).ab b5 λhe=>by have he:gt=s:=he;omega
 rw[aO dA.p 2 (b1.ext bw) rfl,aU ax.u (b2.ext bw).ls];have dP:=aR.size;refine ch.range f.sizes.length (λi S=>Ext w S/\af S gt dz z9/\ ∃szv gs A G aX,af S s dz [Δ f.k,szv,Δ 0,A,.slice ν 0 0]/\au .i64 ai S gs szv (f.sizes.take i)/\(∀r,leads szv r->w.heap.size<=r)/\hx S G A aX/\aX.map (·.l)=(f.sizes.take i).map (λz=>r9 z.toNat 0)/\ ∀r,leadsTo A r->w.heap.size<=r) Ω
  ⟨bw,cN,_,0,_,0,[],cM,au.nil _ _ _ _,(λr m=>by obtain⟨a,n,c,cO,dQ⟩:=m;cases cO),⟨bg.nil _ _ _ _ _,λx I=>(by cases I)⟩,rfl,λr m=>(fg m).elim⟩ ?_ ?_
 .rintro i S cR hi ⟨W,bx,szv,gs,A,G,aX,aD,aV,aY,bz,aE,aZ⟩ cS;obtain⟨z,B⟩:=aH (l:=f.sizes) hi;have dR:=P.sizes.2.2 z (x5 B);have dS:aX.length=i:=by have:=congrArg S7 aE;simp only[u7,l9] at this;omega
  refine bE Ω ?_;rw[be ax.u ap.i Ψ (b2.ext W).ls B,aT dz.p 1 aD rfl];refine eo (k:=.i64) an.u ai.i rfl λa5 dT b7 dU aj cT=>?_;have aF:=aV.ext aj;refine gX an.u ai.i rfl aF cT.ls Θ Θ λbA b8 dV a1 cU b9=>?_;have bB:=aD.ext aj;have ca:=bx.ext aj;have cb:=bB.ab b9 λhe=>b4 aF bB Φ he rfl;rw[aW dz.p rfl];refine bt (g:=s) (o:=1) an.i a1.ls.cells.1 a1.ls.cells.2 cb Ξ λa2 cc dW a6=>?_;have a6:af a2 s dz [Δ f.k,bA,Δ 0,A,.slice ν 0 0]:=a6;have bC:ah (λr=>leads szv r\/r=s) b7 a2:=(b9.mono λr _ h=>.inl h).trans (cc.mono λr _ h=>.inr h);have cW:au .i64 ai a2 b8 bA (f.sizes.take (i+1)):=by
   rw[u9,B];exact bp a1 cc λr m he=>by
    have he:r=s:=he;subst he;exact b4 a1 cb Φ m rfl
  have ak:∀r,(leads szv r\/r=s)-> ∃e c,af b7 r e c/\e≠ap/\e≠ax:=λr m=>by
   rcases m with m|rfl
   .obtain⟨rfl,_⟩:=bM aF m;obtain⟨_,⟨ac,_⟩|⟨cap,full,_,q,_⟩⟩:=aF
    .obtain⟨a,n,c,e,_⟩:=m;rw[ac] at e;cases e
    .exact⟨_,_,q,Φ,Φ⟩
   .exact⟨_,_,bB,Φ,Φ⟩
  have cX:=(bz.ext aj).ab bC ak;have z4:=W.size;have z5:=aj.size;have cd:Ext w a2:=(W.trans aj).then bC λr m he=>by
   rcases he with he|he
   .have:=aY r he;omega
   .omega
  have cY:=ca.ab bC λJ=>by
   rcases J with J|J
   .exact b4 aF ca Φ J rfl
   .omega
  intro dX ce _ _;have cZ:=a6.ext ce;rw[aT dz.p 3 cZ rfl];obtain⟨X,rfl⟩:∃n:Nat,z=n:=⟨z.toNat,Ω⟩;refine iU (k:=.i64) ax.u ap.i Ω Ω λba c0 dZ bD c1=>?_;refine⟨.inl bD,?_⟩;have c2:au .i64 ap c0 ba (.slice (σ ⟨ba,0,ν⟩) X X) (r9 X 0):=au.of (bT.full (k:=1) (n:=X) c1 Ξ (by simp[maxLen];omega));let a:k2:=⟨.slice (σ ⟨ba,0,ν⟩) X X,r9 X 0⟩;refine h2 (f:=nI) (a:=a) ec.u ax.i Ω rfl rfl λea eb bF ed bH c3=>?_;refine⟨.inl (bD.trans bH),?_⟩;have ao:=(ce.trans bD).trans bH;have aI:=cX.ext ao;refine iw (f:=nI) (a:=a) ec.u ax.i rfl aI.1 (by simpa using c3.sl) (λu hu=>by rw[o9.1 (show u∈[a.v] from hu)];rfl) Ω Ω λbI bJ ee H bK cg=>?_;have aq:∀ {r:Nat},leadsTo A r-> ∃c,af bF r ax c:=λm=>by
   obtain⟨rfl,c,q⟩:=dY aI.1 m;exact⟨c,q⟩
  have bL:=a6.ext ao;have ci:=bL.ab cg λhe=>cQ aI.1 bL Φ he;rw[aW dz.p rfl];refine bt ec.i (eH H.sl).1 (eH H.sl).2 ci Ξ λc4 cj ef c5=>?_;rw[aM];have Q:ah (λr=>leadsTo A r\/r=s) bF c4:=(cg.mono λr _ h=>.inl h).trans (cj.mono λr _ h=>.inr h);have bN:∀r,(leadsTo A r\/r=s)-> ∃e c,af bF r e c/\e≠ap/\e≠ai:=λr m=>by
   rcases m with m|rfl
   .obtain⟨c,q⟩:=aq m;exact⟨_,c,q,Φ,Φ⟩
   .exact⟨_,_,bL,Φ,Φ⟩
  have cl:=cW.ext ao;have eg:=cd.size;have eh:=ao.size;have cn:=cY.ext ao;refine cS _ ⟨(cd.trans ao).then Q (λr m he=>?_),cn.ab Q (λJ=>?_),bA,b8,bI,bJ,aX++[a],c5,bp cl Q (λr m J=>?_),λr m=>?_,⟨H.ab cj λr m he=>?_,λy K=>?_⟩,?_,λr m=>?_⟩
  .rcases he with he|rfl
   .have:=aZ r he;omega
   .omega
  .rcases J with J|J
   .exact cQ aI.1 cn Φ J
   .omega
  .obtain⟨e,c,q,_,C⟩:=bN r J;exact b4 cl q (λhe=>C he.symm) m rfl
  .rcases cU r m with h|h
   .exact aY r h
   .omega
  .have he:r=s:=he;subst he;exact cQ H ci Φ m
  .rcases o7.1 K with K|K
   .exact aI.qF Q (λr m=>by obtain⟨e,c,q,C,_⟩:=bN r m;exact⟨e,c,q,C⟩) y K
   .rw[o9.1 K];have cp:=c2.ext bH;exact⟨ba,bp cp Q λr m J=>by
     obtain⟨e,c,q,C,_⟩:=bN r J;exact b4 cp q (λhe=>C he.symm) m rfl⟩
  .rw[b6,aE,u9,B,l7,b6];rfl
  .rcases bK r m with h|h
   .exact aZ r h
   .omega
 rintro S cR ⟨W,bx,szv,gs,A,G,aX,aD,aV,aY,bz,aE,aZ⟩;refine cm Ω ?_;rw[o5] at aV aE;refine (N8 (b0.ext W) P).mono ?_;rintro a7 bb _ ⟨av,go,M,H,cq,cr,ei⟩;have ct:M.length=(fC f).length:=by rw[<-cr,u7]
 have ej:M.length<=256:=by
  have h1:=(qv P).2.length_eq;have bc:=(kZ P).2.2;have ek:=List.length_filter_le fB (ff f);have em:=P.kS;omega
 have z4:=W.size;have en:=av.size;have ep:=aD.lt;rw[e9 cV.u H];refine ch.range M.length (λi Y=>mD w bb.heap.size gt gs go szv a7 f M Y/\Dv w bb.heap.size s szv f.k (dC f i) M Y) H.le
  ⟨⟨W.trans av,p8 _,bx.ext av,aV.ext av,H,λr m=>by have:=H.leads m;omega,λh aG=>(cq h aG).1⟩,A,G,aX,_,0,[],aD.ext av,bz.ext av,aE,aZ,bg.nil _ _ _ _ _,λx I=>(by cases I),rfl,λr m=>(fg m).elim⟩ ?_ ?_
 rotate_left
 .rintro Y c6 ⟨aw,A,G,aX,Z,gr,L,bd,bf,aa,aJ,aL,aB,ad,aN⟩;obtain⟨c7,er,cu,bP,es,et,c9⟩:=id aw;have bi:=pf f M.length;rw[ct,s5] at bi;rw[ct,s5] at bd aa ad;refine cm Ω ?_;rw[bO dz.p dz.i rfl (show Y.rangeAt s 0 [Δ f.k,szv,Δ (cP f).zero,A,Z] from bd.range)];refine ck (vs:=[Δ f.k,szv,Δ (cP f).zero,A,Z]) dz.i rfl rfl (λu hu=>?_) cu λeu aP ev da=>?_
  .simp at hu;rcases hu with rfl|rfl|rfl|rfl|rfl
   .rfl
   .exact bP.ls.cells.2
   .rfl
   .exact (eH bf.1.sl).2
   .exact (eH aL.sl).2
  rw[fO dz.p dz.i rfl da.range];have ak:∀r,r=gt-> ∃e c,af Y r e c/\e≠ap/\e≠ax/\e≠ai/\e≠a8:=λr m=>by
   subst m;exact⟨_,_,cu,Φ,Φ,Φ,Φ⟩
  refine⟨c7.then aP λr m he=>by have he:r=gt:=he;omega,szv,gs,A,G,aX,Z,gr,L,?_,?_,bf.ab aP (λr m=>?_),aa,aL.ab aP (λr m J=>?_),λh aG=>?_,ad,aY,λh aG r m=>by have:=(cq h (aB h aG)).2 r m;omega⟩
  .rw[bi.1]
  .rw[bi.2.1];refine bp bP aP λr m J=>?_;obtain⟨e,c,q,_,_,C,_⟩:=ak r J;exact b4 bP q (λhe=>C he.symm) m rfl
  .obtain⟨e,c,q,h1,bc,_⟩:=ak r m;exact⟨e,c,q,h1,bc⟩
  .obtain⟨e,c,q,_,_,_,C⟩:=ak r J;exact cQ aL q (λhe=>C he.symm) m
  .rw[bi.2.1];exact mC (c9 h (aB h aG)) aP λr m=>by
    obtain⟨e,c,q,h1,_,bc,_⟩:=ak r m;exact .inl ⟨e,c,q,bc,h1⟩
 rintro i Y c6 hi ⟨aw,A,G,aX,Z,gr,L,bd,bf,aa,aJ,aL,aB,ad,aN⟩ db;obtain⟨y,K⟩:=aH (l:=M) hi;have bj:=x5 K;have cw:(fC f)[i]? =σ (du y):=by rw[<-cr,x8,K];rfl
 have bQ:fE f.sizes f.k (du y):=sI P _ (x5 cw);have bR:=wm cw;obtain⟨ew,ey,ez,eA⟩:=pf f i;refine bE Ω ?_;refine dh (λbS=>mD w bb.heap.size gt gs go szv a7 f M bS/\Dv w bb.heap.size s szv f.k (dC f (i+1)) M bS) ?_ ?_
 .rintro bS h;rw[aM];exact db _ h
 intro ay bU;rw[dr rfl cV.u a8.i aw.2.2.2.2.1 hi,bO a8.p a8.i rfl (aw.2.2.2.2.1.range K)];refine bG a8.i λdc eB eC dd de=>?_;refine ck (vs:=dk y) a8.i rfl rfl (aw.2.2.2.2.2.2 y bj).one de λcz df eD bk=>?_;have bl:Ext Y cz:=dd.put df Ω;have bm:=aw.ext bl;have ae:=bd.ext bl;have bW:=bf.ext bl;have bn:=aL.ext bl;obtain⟨eE,eF,cA,eI,eJ,eK,cB⟩:=id bm;obtain⟨⟨eL,cC⟩,_,dg,cD⟩:=cB y bj;rw[aT a8.p 0 bk rfl,aU an.u cC.ls];have eM:aX.length=f.sizes.length:=by have:=congrArg S7 aa;rw[u7] at this;omega
 have eN:L.length<=256:=by have:=congrArg S7 ad;rw[u7] at this;omega
 rw[bh,al];refine⟨λeO=>?_,λeP=>?_⟩
 .
  have ag:y.sc=[]:=c8 Ω;have E:dC f (i+1)={dC f i with zero:=y.cs.getD 0 0}:=by rw[bR];unfold iA;simp only[du,ag]
  have eQ:y.cs.length=1:=by have:=bQ.len;simpa[du,ag,bV,aK] using this
  have di:y.cs[0]? =σ (y.cs.getD 0 0):=by rw[v8,x6 Ω];rfl
  rw[aT a8.p 2 bk rfl,fx (y:=0) (i:=0) rfl ax.u ap.i Ψ cD.ls di,aW dz.p rfl];refine bt ap.i rfl rfl ae Ξ λdj O dl dm=>?_;refine bU _ ⟨bm.ab O λr m=>?_,A,G,aX,Z,gr,L,?_,bW.ab O (λr m=>?_),by rw[E];exact aa,aJ,bn.ab O (λr m J=>?_),aB,by rw[E];exact ad,aN⟩
  .have m:r=s:=m;subst m;exact⟨Ω,C,.inl ⟨_,ae⟩⟩
  .rw[E];exact dm
  .have m:r=s:=m;subst m;exact⟨_,_,ae,Φ,Φ⟩
  .have J:r=s:=J;subst J;exact cQ bn ae Φ m
 rw[bh,al];refine⟨λh1=>?_,λeR=>?_⟩
 .
  obtain⟨v,ag⟩:∃v,y.sc=[v]:=W3.1 Ω;have eS:=bQ.scope.1 v (by show v∈y.sc;rw[ag];exact .head _);have eU:=bQ.vars v (by show v∈y.sc;rw[ag];exact .head _);have E:dC f (i+1)={dC f i with unary:=(dC f i).unary.set v.toNat y.cs}:=by rw[bR];unfold iA;simp only[du,ag]
  intro dp R _ _;have bX:=ae.ext R;have cE:=bk.ext R;have aQ:=bW.ext R;have dq:=bm.ext R;have cF:=bn.ext R;rw[aT dz.p 3 bX rfl,aT a8.p 0 cE rfl];refine p1 (y:=0) (i:=0) rfl an.u ai.i (cC.ls.ext R) (show y.sc[0]? =σ v by rw[ag];rfl) λb o ds=>?_;rw[aA Ψ ds,aT a8.p 2 cE rfl];obtain⟨u,hu⟩:=aH (l:=aX) (i:=v.toNat) Ω;rw[dr (i:=v.toNat) Ω ec.u ax.i aQ.1 Ω];let a:k2:=⟨y.a7,y.cs⟩;have bo:=cD.ext R;refine o0 (f:=nI) (j:=0) (a:=u) (a':=a) ax.i bo.ls.cells.1 bo.ls.cells.2 aQ.1 hu rfl Ω λdj O dl dt=>?_;have aq:∀ {r:Nat},leadsTo A r-> ∃c,af dp r ax c:=λm=>by
   obtain⟨rfl,c,q⟩:=dY aQ.1 m;exact⟨c,q⟩
  refine bU _ ⟨dq.ab O λr m=>?_,A,G,aX.set v.toNat a,Z,gr,L,?_,⟨dt,λz B=>?_⟩,?_,aJ,cF.ab O (λr m J=>?_),aB,by rw[E];exact ad,aN⟩
  .obtain⟨c,q⟩:=aq m;exact⟨aJ r m,λhe=>(by subst he;exact absurd (fa q (cA.ext R)) Φ),.inr (.inl ⟨c,q⟩)⟩
  .rw[E];exact bX.ab O λhe=>cQ aQ.1 bX Φ he
  .rcases X6 B with B|rfl
   .exact aQ.qF O (λr m=>by obtain⟨c,q⟩:=aq m;exact⟨_,c,q,Φ⟩) z B
   .exact⟨dg,bp bo O λr m J=>by
     obtain⟨c,q⟩:=aq J;exact b4 bo q Φ m rfl⟩
  .rw[E,V7,aa]
  .obtain⟨c,q⟩:=aq J;exact cQ cF q Φ m
 .
  have E:dC f (i+1)={dC f i with funs:=(dC f i).funs++[du y]}:=by
   rw[bR];unfold iA;have cG:2<=(du y).1.length:=by show 2<=y.sc.length;omega
   generalize du y=g at cG ⊢;obtain⟨sc,cs⟩:=g
   match sc,cG with
   |_::_::_,_=>rfl
  rw[aT dz.p 4 ae rfl,bO a8.p a8.i rfl (show cz.rangeAt dc 0 (dk y) from bk.range)];refine h2 (f:=dk) (k:=3) (a:=y) cV.u a8.i Ω rfl rfl λeV eW dv eX aC dw=>?_;have bq:=bn.ext aC;have dx:=bW.ext aC;have br:=ae.ext aC;have dy:=bm.ext aC;refine iw (f:=dk) (a:=y) cV.u a8.i rfl bq (by simpa using dw.sl) (cB y bj).one Ω Ω λbI bJ eY bu bK cH=>?_;have cI:=br.ab cH λhe=>cQ bq br Φ he;rw[aW dz.p rfl];refine bt cV.i (eH bu.sl).1 (eH bu.sl).2 cI Ξ λdD cJ eZ dE=>?_;have Q:ah (λr=>leadsTo Z r\/r=s) dv dD:=(cH.mono λr _ h=>.inl h).trans (cJ.mono λr _ h=>.inr h);have e0:=aC.size;refine bU _ ⟨dy.ab Q λr m=>?_,A,G,aX,bI,bJ,L++[y],?_,dx.ab Q (λr m=>?_),by rw[E];exact aa,aJ,bu.ab cJ (λr m J=>?_),λz B=>?_,?_,λr m=>?_⟩
  .rcases m with m|rfl
   .obtain⟨rfl,c,q⟩:=dY bq m;have:=aN _ m;refine⟨Ω,λhe=>?_,.inr (.inr ⟨⟨c,q⟩,this⟩)⟩;subst he;exact absurd (fa q (cA.ext aC)) Φ
   .exact⟨Ω,C,.inl ⟨_,br⟩⟩
  .rw[E];exact dE
  .rcases m with m|rfl
   .obtain⟨rfl,c,q⟩:=dY bq m;exact⟨_,c,q,Φ,Φ⟩
   .exact⟨_,_,br,Φ,Φ⟩
  .have J:r=s:=J;subst J;exact cQ bu cI Φ m
  .rcases o7.1 B with B|B
   .exact aB z B
   .rw[o9.1 B];exact bj
  .rw[E,b6,ad];rfl
  .rcases bK r m with h|h
   .exact aN r h
   .omega
def qN (w:x3) (S:Nat->Prop) (e:r8):Prop:=∀r,S r-> ∃c,af w r e c
theorem wK {a:r8} {k:o4} {g:Nat} {v:x1} (h:au k a w g v l) (f:ah S w w') (j:qN w S e) (m:a≠e):au k a w' g v l:=bp h f λr p J=>by
 obtain⟨c,q⟩:=j r J;exact b4 h q m p rfl
theorem Dx {α:Type} {f:α->List x1} {k:Nat} {a:r8} {g:Nat} {v:x1} {L:List α} (h:bg f k a w g v L) (j:ah S w w') (m:qN w S e) (p:a≠e):bg f k a w' g v L:=h.ab j λr q J=>by
 obtain⟨c,s⟩:=m r J;exact cQ h s p q
theorem wL {a:r8} {r:Nat} {c:List x1} (h:af w r a c) (f:ah S w w') (j:qN w S e) (m:a≠e):af w' r a c:=h.ab f λJ=>by
 obtain⟨c,p⟩:=j r J;exact m (fa h p)
theorem Dy {g:Nat} {c:List x1} (h:af w g e c):qN w (λr=>r=g) e:=λr a=>by
 have a:r=g:=a;subst a;exact⟨c,h⟩
theorem Oa {k:o4} {g:Nat} {v:x1} (h:au k e w g v l):qN w (λr=>leads v r) e:=λr f=>by
 have f:leads v r:=f;obtain⟨rfl,_⟩:=bM h f;obtain⟨_,⟨ac,_⟩|⟨cap,full,_,m,_⟩⟩:=h
 .obtain⟨a,n,c,j,_⟩:=f;rw[ac] at j;cases j
 .exact⟨_,m⟩
def aE (x:br):Λ:=((Z8 x.un.length).map λv:Nat=>(v:Int)).filter λv=>!dropped x.mask v
theorem wM {P:W0} {k:o4} {t:r8} {b:Nat} {z:x1} (a:P.underlying t=σ (.slice e)) (hi:aS P e 1 b z)
  (f:∀v g w',g=w.heap.size->Ext w w'->au k e w' g v []->K v w'):aC P (Y0 t 0 #[]) w K:=
 j1 a hi Ω (cs:=#[]) (by simp[Instr.fill]) λg w' h j m=>f _ g w' h j (au.of (n:=0) (bT.full (by simpa using m) Ξ (by simp[maxLen])))
theorem Ob {v:x1} {n:aR} (h:wJ w B v n) {g:Nat} (j:af w' g dz v.cells.toList):∃szv gz a f aX e gr L,af w' g dz [Δ n.k,szv,Δ n.zero,a,e]/\au .i64 ai w gz szv n.sizes/\hx w f a aX/\aX.map (·.l)=n.unary/\bg dk 3 a8 w gr e L/\(∀h∈L,fJ w n.sizes h)/\L.map du=n.funs/\(∀r,leads szv r->B<=r)/\ ∀h∈L,∀r,pj h r->B<=r:=by
 obtain⟨szv,gz,a,f,aX,e,gr,L,rfl,m,p,s,q,x,y⟩:=h;obtain⟨_,_,_,z⟩:=dg m.ls;obtain⟨_,_,_,_,_,A,_⟩:=p.1.sl;obtain⟨_,_,_,_,_,C,_⟩:=q.sl;refine⟨szv,gz,a,f,aX,e,gr,L,?_,m,p,s,q,x,y⟩;rw[z,A,C] at j ⊢;exact j
def z12:List x1:=[Δ 0,.slice ν 0 0,Δ 0,.slice ν 0 0,.slice ν 0 0,.slice ν 0 0,.slice ν 0 0,.slice ν 0 0]
end Go.Proofs.YtmgflbkdggdhoaaGreatDoor
namespace Go.Vc
open Go Go.RowKit
section
variable {P:W0} {w:x3} {α:Type} [ao α] {S R:ak}
theorem Dz {k:Nat} {vs:List (List x1)} {i:Nat} {c:List x1} (h:∀x∈vs,x.length=k) (e:c.length=k) (hi:i<vs.length):over vs.flatten (i*k) c=(vs.set i c).flatten:=by
 have:=vI (f:=id) (k:=k) (L:=vs) (i:=i) (a:=c) h e hi;rw[List.flatMap_id,List.flatMap_id] at this;exact this
theorem Oc {v:x1} {l:List α} {i:Nat} (h:bC S R w [v] l) (P:i<l.length):∃g cap full m,v= .slice (σ ⟨g,0,ν⟩) l.length cap/\af w g m full/\S g/\i*ao.n α+ao.n α<=full.length/\
  ∀ {A:ak} {cs:List x1} {a:α},bC A R w cs a->(∀r,r<w.heap.size->S r->¬A r/\¬R r)-> ∀w',ah (λr=>r=g) w w'->af w' g m (over full (i*ao.n α) cs)->bC (λr=>S r\/A r) R w' [v] (l.set i a):=by
 obtain⟨vs,g,F,p,he,J,hm⟩:=iX h;obtain⟨Q,m,T⟩:=hm rfl;obtain⟨ac,⟨rfl,ad⟩|⟨cap,full,rfl,C,G,U,ae,V⟩⟩:=id T
 .omega
 have H:vs.length=l.length:=he.1;have W:(i+1)*ao.n α<=l.length*ao.n α:=X4 _ P;have X:l.length*ao.n α<=full.length:=by rw[ae];exact X4 _ G
 rw[V9,Nat.one_mul] at W;have x:S g:=Q.resolve_left Ξ;refine⟨g,cap,full,m,rfl,C,x,Ω,λ{A cs a} I y w' K Y=>?_⟩;have L:=ao.len I;have M:¬A g:=(y g C.lt x).1;have N:¬R g:=(y g C.lt x).2;have Z:∀c∈vs.set i cs,c.length=ao.n α:=λc s=>by
  rcases X6 s with e|rfl
  .exact he.len c e
  .exact L
 have O:bT w' g m (ao.n α) (.slice (σ ⟨g,0,ν⟩) l.length cap) (l.set i a).length (vs.set i cs).flatten:=by
  refine⟨by rw[pW Z,Z2,Z2,H],.inr ⟨cap,_,by rw[Z2],Y,by rw[Z2];exact G,U,by rw[lH,ae],?_⟩⟩;rw[Z2,sy Ω X,V,Dz he.len L Ω]
 refine⟨_,rfl,vs.set i cs,g,λj r=>if j=i then A r/\r<w.heap.size else F j r/\r<w.heap.size,⟨λj r f=>?_,λ_ j f=>?_,λ_ j q r aa h1 e=>?_⟩,⟨by simp[H],λj c a' s z=>?_⟩,?_,λ_=>⟨.inr (.inl x),m,O⟩⟩
 .split at f
  .exact .inr f.1
  .exact .inl (p.sub j r f.1)
 .split at f
  .exact M f.1
  .exact p.top rfl j f.1
 .split at h1<;>split at e
  .omega
  .exact (y r e.2 (p.sub q r e.1)).1 h1.1
  .exact (y r h1.2 (p.sub j r h1.1)).1 e.1
  .exact p.gF rfl j q r aa h1.1 e.1
 .by_cases B:j=i
  .subst B;rw[c9 Ω] at s z;cases s;cases z;have E:bC (λr=>if j=j then A r/\r<w.heap.size else F j r/\r<w.heap.size) R w cs a:=ao.mono I (λr f h=>by rw[if_pos rfl];exact⟨h,f⟩) λ_ _ h=>h;refine ao.ab E K λr f h1 e=>?_;have e:r=g:=e;subst e;rcases h1 with h1|h1
   .simp only[if_true] at h1;exact M h1.1
   .exact N h1
  .rw[Y2 (Ne.symm B)] at s z;have E:bC (λr=>if j=i then A r/\r<w.heap.size else F j r/\r<w.heap.size) R w c a':=ao.mono (he.2 j c a' s z) (λr f h=>by rw[if_neg B];exact⟨h,f⟩) λ_ _ h=>h;refine ao.ab E K λr f h1 e=>?_;have e:r=g:=e;subst e;rcases h1 with h1|h1
   .simp only[if_neg B] at h1;exact p.top rfl j h1.1
   .exact N h1
 .have:=oD (S:=λr=>(S r\/A r)\/R r) O (.inr (.inl (.inl x)));exact this
theorem DA {t:r8} {B:o4} {i b:Nat} {z v x:x1} {l:List α} {a:α} {A:ak} {K:Unit->x3->Prop} (j:ao.n α=1) (C:y=(i:Int)) (E:P.underlying t=σ (.slice e)) (hi:aS P e 1 b z)
  (h:bC S R w [v] l) (m:i<l.length) (I:x.cells= #[x]) (q:bC A R w [x] a) (F:∀r,r<w.heap.size->S r->¬A r/\¬R r)
  (G:∀w',ah S w w'->bC (λr=>S r\/A r) R w' [v] (l.set i a)->K () w'):aa P (j5 t v (.int B y)) w λp=>aC P (o6 e p x) w K:=by
 subst C;obtain⟨g,cap,full,O,rfl,H,J,L,M⟩:=Oc h m;rw[j] at L;rw[e6 E hi m λ_=>rfl];refine bt (o:=0+i*1) hi I (ao.one q x (.head _)) H Ω λw' s _ N=>G w' (s.mono λr _ f=>by have f:r=g:=f;subst f;exact J) (M q F w' s ?_);rw[j,X0] at*;exact N
end
end Go.Vc
namespace Go.Proofs.YtmgflbkdggdhoaaGreatDoor
open Go Go.Vc Go.RowKit Go.Proofs Go.Proofs.Tryz
set_option maxRecDepth 100000
abbrev jg:Type:=(Rd (Λ)×Rd (Λ)×Λ)×Bool
abbrev nU:Type:=Int×Rd (Λ)×Rd (Λ)
def h8 (f:cz):jg:=((f.sc,f.aj,f.cs),decide (f.live≠0))
def DB (e:wo):nU:=(e.v,e.sc,e.s3)
def cc (m:Bool) (A:Nat->ak) (R:ak) (w:x3) (cs:List x1) (k:Int) (sizes:Λ) (zero:Int) (D:List (Λ)) (G:List Bool) (aX:List (Λ)) (H:List jg) (E:List nU):Prop:=
 ∃szv a e f h p,cs=[Δ k,szv,Δ zero,a,e,f,h,p]/\Seen R w [szv] sizes/\
 ao.rep m (A 0) R w [a] D/\ao.rep m (A 1) R w [e] G/\ao.rep m (A 2) R w [f] aX/\ao.rep m (A 3) R w [h] H/\ao.rep m (A 4) R w [p] E/\
 (m=true->(∀i j r,i≠j->A i r->¬A j r)/\ ∀i r,A i r->¬R r)
abbrev h9 (m:Bool) (A:Nat->ak) (R:ak) (w:x3) (cs:List x1) (k:Int) (sizes:Λ) (s:av):Prop:=
 cc m A R w cs k sizes s.zero (s.vars.map aE) (s.vars.map λx=>decide (x.gone≠0)) (s.vars.map (·.un)) (s.funs.map h8) (s.gW.map DB)
def ko (w:x3) (v:x1) (k:Int) (sizes:Λ) (s:av):Prop:=∃cs,v= .agg cs.toArray/\h9 false (λ_ _=>False) eX w cs k sizes s
def ia (A:Nat->ak) (i:Nat) (B:ak):Nat->ak:=λj=>if j=i then B else A j
section
variable {m:Bool} {A:Nat->ak} {R:ak} {w w':x3} {cs:List x1} {k zero:Int} {sizes:Λ} {D:List (Λ)} {G:List Bool} {aX:List (Λ)} {H:List jg} {E:List nU} {s:av}
theorem cc.len (h:cc m A R w cs k sizes zero D G aX H E):cs.length=8/\ ∀u∈cs,u.oneCell'=true:=by
 obtain⟨szv,q,r,s,x,y,rfl,h1,a,e,f,j,p,_⟩:=h;refine⟨rfl,λu hu=>?_⟩;simp only[W9,List.not_mem_nil,or_false] at hu;rcases hu with rfl|rfl|rfl|rfl|rfl|rfl|rfl|rfl
 .rfl
 .exact iY h1
 .rfl
 .exact iY a
 .exact iY e
 .exact iY f
 .exact iY j
 .exact iY p
theorem cc.ab {T:ak} (h:cc m A R w cs k sizes zero D G aX H E) (a:ah T w w') (f:∀r,r<w.heap.size->(∃i,A i r)\/R r->¬T r):cc m A R w' cs k sizes zero D G aX H E:=by
 obtain⟨szv,j,p,q,s,x,rfl,h1,y,z,B,C,F,I⟩:=h;have aG:∀i r,r<w.heap.size->A i r\/R r->¬T r:=λi r e h=>f r e (h.imp (λh=>⟨i,h⟩) id);exact⟨szv,j,p,q,s,x,rfl,ao.ab h1 a λr e h=>f r e (h.elim False.elim .inr),ao.ab y a (aG 0),ao.ab z a (aG 1),ao.ab B a (aG 2),ao.ab C a (aG 3),ao.ab F a (aG 4),I⟩
theorem cc.ext (h:cc m A R w cs k sizes zero D G aX H E) (I:Ext w w'):cc m A R w' cs k sizes zero D G aX H E:=h.ab (I.ab λ_=>False) λ_ _ _ h=>h
theorem h9.Od (h:h9 m A R w cs k sizes s):ko w (.agg cs.toArray) k sizes s:=by
 obtain⟨szv,a,e,f,j,p,rfl,h1,q,r,x,y,z,B⟩:=h;exact⟨_,rfl,szv,a,e,f,j,p,rfl,iV h1,iV q,iV r,iV x,iV y,iV z,λh=>by cases h⟩
theorem cc.old (h:cc true A R w cs k sizes zero D G aX H E):cc true (λi r=>A i r/\r<w.heap.size) R w cs k sizes zero D G aX H E:=by
 obtain⟨szv,f,m,p,q,s,rfl,h1,a,x,y,z,B,e⟩:=h;obtain⟨e,C⟩:=e rfl;have hm:∀i r,r<w.heap.size->A i r->A i r/\r<w.heap.size:=λi r F h=>⟨h,F⟩;exact⟨szv,f,m,p,q,s,rfl,h1,ao.mono a (hm 0) λ_ _ h=>h,ao.mono x (hm 1) λ_ _ h=>h,ao.mono y (hm 2) λ_ _ h=>h,ao.mono z (hm 3) λ_ _ h=>h,ao.mono B (hm 4) λ_ _ h=>h,
  λ_=>⟨λi j r I h1 a=>e i j r I h1.1 a.1,λi r h=>C i r h.1⟩⟩
theorem tf {i:Nat} {B:ak} (h:∀i j r,i≠j->A i r->¬A j r) (e:∀j r,j≠i->B r->¬A j r):∀p q r,p≠q->ia A i B p r->¬ia A i B q r:=λp q r f h1 a=>by
 unfold ia at h1 a;split at h1<;>split at a
 .omega
 .exact e q r (by assumption) h1 a
 .exact e p r (by assumption) a h1
 .exact h p q r f h1 a
theorem tg {i:Nat} {B:ak} (h:∀i r,A i r->¬R r) (a:∀r,B r->¬R r):∀p r,ia A i B p r->¬R r:=λp r h1=>by
 unfold ia at h1;split at h1
 .exact a r h1
 .exact h p r h1
theorem cc.DC {B:ak} {x:x1} {D':List (Λ)} (h:cc true A R w cs k sizes zero D G aX H E) {T:ak} (e:ah T w w') (m:∀r,T r->A 0 r\/(∀j,¬A j r)/\¬R r) (s:bC B R w' [x] D') (y:∀j r,j≠0->B r->¬A j r) (z:∀r,B r->¬R r):cc true (ia A 0 B) R w' (cs.set 3 x) k sizes zero D' G aX H E:=by
 obtain⟨szv,P,C,F,I,J,rfl,h1,a,K,L,M,N,f⟩:=h;obtain⟨f,p⟩:=f rfl;have q:∀r,R r->¬T r:=λr h a=>(m r a).elim (λa=>p 0 r a h) λa=>a.2 h;have aG:∀j r,j≠0->r<w.heap.size->A j r\/R r->¬T r:=λj r O _ h a=>h.elim (λh=>(m r a).elim (λa=>f j 0 r O h a) λa=>a.1 j h) λh=>q r h a;refine⟨szv,x,C,F,I,J,rfl,ao.ab h1 e λr _ h=>h.elim False.elim (q r),?_,?_,?_,?_,?_,λ_=>⟨tf f y,tg p z⟩⟩
 .exact s
 .exact ao.ab K e λr=>aG 1 r Ω
 .exact ao.ab L e λr=>aG 2 r Ω
 .exact ao.ab M e λr=>aG 3 r Ω
 .exact ao.ab N e λr=>aG 4 r Ω
theorem cc.Oe {B:ak} {x:x1} {m:List Bool} (h:cc true A R w cs k sizes zero D G aX H E) {T:ak} (e:ah T w w') (p:∀r,T r->A 1 r\/(∀j,¬A j r)/\¬R r) (y:bC B R w' [x] m) (z:∀j r,j≠1->B r->¬A j r) (C:∀r,B r->¬R r):cc true (ia A 1 B) R w' (cs.set 4 x) k sizes zero D m aX H E:=by
 obtain⟨szv,F,P,I,J,K,rfl,h1,a,Q,L,M,N,f⟩:=h;obtain⟨f,q⟩:=f rfl;have s:∀r,R r->¬T r:=λr h a=>(p r a).elim (λa=>q 1 r a h) λa=>a.2 h;have aG:∀j r,j≠1->r<w.heap.size->A j r\/R r->¬T r:=λj r O _ h a=>h.elim (λh=>(p r a).elim (λa=>f j 1 r O h a) λa=>a.1 j h) λh=>s r h a;refine⟨szv,F,x,I,J,K,rfl,ao.ab h1 e λr _ h=>h.elim False.elim (s r),?_,?_,?_,?_,?_,λ_=>⟨tf f z,tg q C⟩⟩
 .exact ao.ab a e λr=>aG 0 r Ω
 .exact y
 .exact ao.ab L e λr=>aG 2 r Ω
 .exact ao.ab M e λr=>aG 3 r Ω
 .exact ao.ab N e λr=>aG 4 r Ω
theorem cc.kp {B:ak} {x:x1} {m:List (Λ)} (h:cc true A R w cs k sizes zero D G aX H E) {T:ak} (e:ah T w w') (p:∀r,T r->A 2 r\/(∀j,¬A j r)/\¬R r) (y:bC B R w' [x] m) (z:∀j r,j≠2->B r->¬A j r) (C:∀r,B r->¬R r):cc true (ia A 2 B) R w' (cs.set 5 x) k sizes zero D G m H E:=by
 obtain⟨szv,F,I,P,J,K,rfl,h1,a,L,Q,M,N,f⟩:=h;obtain⟨f,q⟩:=f rfl;have s:∀r,R r->¬T r:=λr h a=>(p r a).elim (λa=>q 2 r a h) λa=>a.2 h;have aG:∀j r,j≠2->r<w.heap.size->A j r\/R r->¬T r:=λj r O _ h a=>h.elim (λh=>(p r a).elim (λa=>f j 2 r O h a) λa=>a.1 j h) λh=>s r h a;refine⟨szv,F,I,x,J,K,rfl,ao.ab h1 e λr _ h=>h.elim False.elim (s r),?_,?_,?_,?_,?_,λ_=>⟨tf f z,tg q C⟩⟩
 .exact ao.ab a e λr=>aG 0 r Ω
 .exact ao.ab L e λr=>aG 1 r Ω
 .exact y
 .exact ao.ab M e λr=>aG 3 r Ω
 .exact ao.ab N e λr=>aG 4 r Ω
theorem cc.kq {B:ak} {x:x1} {m:List jg} (h:cc true A R w cs k sizes zero D G aX H E) {T:ak} (e:ah T w w') (p:∀r,T r->A 3 r\/(∀j,¬A j r)/\¬R r) (y:bC B R w' [x] m) (z:∀j r,j≠3->B r->¬A j r) (C:∀r,B r->¬R r):cc true (ia A 3 B) R w' (cs.set 6 x) k sizes zero D G aX m E:=by
 obtain⟨szv,F,I,J,P,K,rfl,h1,a,L,M,Q,N,f⟩:=h;obtain⟨f,q⟩:=f rfl;have s:∀r,R r->¬T r:=λr h a=>(p r a).elim (λa=>q 3 r a h) λa=>a.2 h;have aG:∀j r,j≠3->r<w.heap.size->A j r\/R r->¬T r:=λj r O _ h a=>h.elim (λh=>(p r a).elim (λa=>f j 3 r O h a) λa=>a.1 j h) λh=>s r h a;refine⟨szv,F,I,J,x,K,rfl,ao.ab h1 e λr _ h=>h.elim False.elim (s r),?_,?_,?_,?_,?_,λ_=>⟨tf f z,tg q C⟩⟩
 .exact ao.ab a e λr=>aG 0 r Ω
 .exact ao.ab L e λr=>aG 1 r Ω
 .exact ao.ab M e λr=>aG 2 r Ω
 .exact y
 .exact ao.ab N e λr=>aG 4 r Ω
theorem cc.Of {z:Int} (h:cc m A R w cs k sizes zero D G aX H E):cc m A R w (cs.set 2 (Δ z)) k sizes z D G aX H E:=by
 obtain⟨szv,a,e,f,j,p,rfl,h1,q,r,s,x,y,B⟩:=h;exact⟨szv,a,e,f,j,p,rfl,h1,q,r,s,x,y,B⟩
end
theorem th {α:Type} [ao α] {st t H:r8} {pl:List (Nat×Nat)} {c q b I:Nat} {z L y v:x1} {box cs:List x1} {S A R:ak} {l:List α} {a:α} {K:x3->Prop}
  (M:bL x7 st pl) (N:pl[c]? =σ (c,q+1)) (O:x7.underlying t=σ (.slice e)) (P:aS x7 t 1 I L) (hi:aS x7 e (ao.n α) b z) (Q:z.cells.size=ao.n α)
  (B:af w gs st box) (ac:box[c]? =σ v) (h:bC S R w [v] l) (J:ca w (ao.n α) y 1 cs) (T:bC A R w cs a) (U:∀r,r<w.heap.size->S r->¬A r/\¬R r) (m:¬S gs/\¬A gs/\¬R gs) (ad:(l.length+1)*b<=140737488355328) (ae:l.length+1<=1000000)
  (W:∀j w',ah (λr=>S r\/r=gs) w w'->af w' gs st (box.set c j)->bC (λr=>S r\/A r\/w.heap.size<=r) R w' [j] (l++[a])->K w'):
  aC x7 (b8 #[t,t] H #[v,y]) w λj V=>aa x7 (u5 st (Γ gs) c) V λX=>aC x7 (o6 t X j) V λ_ p=>K p:=by
 have Y:=(x4.1 ac).1;refine mi (A:=A) O hi Q h J T (λr C J f=>?_) Ω Ω λj V s E=>?_
 .have:=U r C J;exact f.elim this.1 this.2
 have Z:af V gs st box:=B.ab E m.1;rw[aW M N];refine bt (o:=0+c) P (oC s) (iY s) Z (by rw[X0];exact Y) λp F ag G=>?_;refine W j p ((E.mono λr _ h=>.inl h).trans (F.mono λr _ h=>.inr h)) (by rw[X0] at G;exact G) (ao.ab s F λr C f x=>?_);have x:r=gs:=x;subst x;have ai:=B.lt;rcases f with f|f
 .rcases f with f|f|f
  .exact m.1 f
  .exact m.2.1 f
  .omega
 .exact m.2.2 f
section
variable {A:Nat->ak} {B R:ak} {w:x3} {cs xs:List x1} {gs:Nat} {y v:x1} {k zero:Int} {sizes:Λ} {D:List (Λ)} {G:List Bool} {aX:List (Λ)} {H:List jg} {E:List nU} {K:x3->Prop}
theorem cc.Og {a:Λ} (h:cc true A R w cs k sizes zero D G aX H E) (C:af w gs bc cs) (ac:cs[3]? =σ v) (f:∀j r,A j r->gs<r) (q:∀r,R r->r<gs) (J:ca w 1 y 1 xs) (Q:bC B R w xs a) (m:∀r,r<w.heap.size->B r->(∀j,¬A j r)/\gs<r) (ai:D.length<=1000)
  (S:∀aQ b5 w',ah (λr=>gs<=r) w w'->af w' gs bc b5->cc true aQ R w' b5 k sizes zero (D++[a]) G aX H E->(∀j r,aQ j r->gs<r)->(∀j,j≠3->b5[j]? =cs[j]?)->K w'):
  aC x7 (b8 #[de,de] P #[v,y]) w λF V=>aa x7 (u5 bc (Γ gs) 3) V λU=>aC x7 (o6 de U F) V λ_ s=>K s:=by
 have I:=h.old;have W:=C.lt;obtain⟨szv,X,aj,ak,al,L,Y,h1,Z,am,ap,aq,au,x⟩:=id I;obtain⟨x,M⟩:=x rfl;have L:v=X:=by rw[Y] at ac;exact (j6 ac).symm
 subst L;have ab:bC (λr=>B r/\r<w.heap.size) R w xs a:=ao.mono Q (λr e h=>⟨h,e⟩) λ_ _ h=>h;refine th (pl:=_) (l:=D) bc.p rfl de.u de.i an.i rfl C ac Z J ab (λr e N=>⟨λad=>(m r e ad.1).1 0 N.1,M 0 r N⟩) ⟨λh=>by have:=f 0 gs h.1;omega,λh=>by have:=(m gs W h.1).2;omega,λh=>by have:=q gs h;omega⟩ Ω Ω λF s O ae ag=>?_;refine S _ _ s (O.mono λr _ h=>h.elim (λh=>by have:=f 0 r h.1;omega) λh=>Ω) ae (I.DC O (λr e=>?_) ag (λj r z e=>?_) λr e=>?_) (λj r e=>?_) λj z=>?_
 .rcases e with e|rfl
  .exact .inl e
  .exact .inr ⟨λj h=>by have:=f j r h.1;omega,λh=>by have:=q r h;omega⟩
 .rcases e with e|e|e
  .exact x 0 j r (Ne.symm z) e
  .exact λh=>(m r e.2 e.1).1 j h.1
  .exact λh=>by have:=h.2;omega
 .rcases e with e|e|e
  .exact M 0 r e
  .exact λh=>by have:=(m r e.2 e.1).2;have:=q r h;omega
  .exact λh=>by have:=q r h;omega
 .unfold ia at e;split at e
  .rcases e with e|e|e
   .exact f 0 r e.1
   .exact (m r e.2 e.1).2
   .omega
  .exact f j r e.1
 .rw[Y2 (Ne.symm z)]
theorem cc.Oh {a:Bool} (h:cc true A R w cs k sizes zero D G aX H E) (C:af w gs bc cs) (ac:cs[4]? =σ v) (f:∀j r,A j r->gs<r) (q:∀r,R r->r<gs) (J:ca w 1 y 1 xs) (Q:bC B R w xs a) (m:∀r,r<w.heap.size->B r->(∀j,¬A j r)/\gs<r) (ai:G.length<=1000)
  (S:∀aQ b5 w',ah (λr=>gs<=r) w w'->af w' gs bc b5->cc true aQ R w' b5 k sizes zero D (G++[a]) aX H E->(∀j r,aQ j r->gs<r)->(∀j,j≠4->b5[j]? =cs[j]?)->K w'):
  aC x7 (b8 #[j0,j0] P #[v,y]) w λF V=>aa x7 (u5 bc (Γ gs) 4) V λU=>aC x7 (o6 j0 U F) V λ_ s=>K s:=by
 have I:=h.old;have W:=C.lt;obtain⟨szv,aj,X,ak,al,L,Y,h1,am,Z,an,ap,aq,x⟩:=id I;obtain⟨x,M⟩:=x rfl;have L:v=X:=by rw[Y] at ac;exact (j6 ac).symm
 subst L;have ab:bC (λr=>B r/\r<w.heap.size) R w xs a:=ao.mono Q (λr e h=>⟨h,e⟩) λ_ _ h=>h;refine th (pl:=_) (l:=G) bc.p rfl j0.u j0.i gf.i rfl C ac Z J ab (λr e N=>⟨λad=>(m r e ad.1).1 1 N.1,M 1 r N⟩) ⟨λh=>by have:=f 1 gs h.1;omega,λh=>by have:=(m gs W h.1).2;omega,λh=>by have:=q gs h;omega⟩ Ω Ω λF s O ae ag=>?_;refine S _ _ s (O.mono λr _ h=>h.elim (λh=>by have:=f 1 r h.1;omega) λh=>Ω) ae (I.Oe O (λr e=>?_) ag (λj r z e=>?_) λr e=>?_) (λj r e=>?_) λj z=>?_
 .rcases e with e|rfl
  .exact .inl e
  .exact .inr ⟨λj h=>by have:=f j r h.1;omega,λh=>by have:=q r h;omega⟩
 .rcases e with e|e|e
  .exact x 1 j r (Ne.symm z) e
  .exact λh=>(m r e.2 e.1).1 j h.1
  .exact λh=>by have:=h.2;omega
 .rcases e with e|e|e
  .exact M 1 r e
  .exact λh=>by have:=(m r e.2 e.1).2;have:=q r h;omega
  .exact λh=>by have:=q r h;omega
 .unfold ia at e;split at e
  .rcases e with e|e|e
   .exact f 1 r e.1
   .exact (m r e.2 e.1).2
   .omega
  .exact f j r e.1
 .rw[Y2 (Ne.symm z)]
theorem cc.Oi {a:Λ} (h:cc true A R w cs k sizes zero D G aX H E) (C:af w gs bc cs) (ac:cs[5]? =σ v) (f:∀j r,A j r->gs<r) (q:∀r,R r->r<gs) (J:ca w 1 y 1 xs) (Q:bC B R w xs a) (m:∀r,r<w.heap.size->B r->(∀j,¬A j r)/\gs<r) (ai:aX.length<=1000)
  (S:∀aQ b5 w',ah (λr=>gs<=r) w w'->af w' gs bc b5->cc true aQ R w' b5 k sizes zero D G (aX++[a]) H E->(∀j r,aQ j r->gs<r)->(∀j,j≠5->b5[j]? =cs[j]?)->K w'):
  aC x7 (b8 #[ec,ec] P #[v,y]) w λF V=>aa x7 (u5 bc (Γ gs) 5) V λU=>aC x7 (o6 ec U F) V λ_ s=>K s:=by
 have I:=h.old;have W:=C.lt;obtain⟨szv,aj,ak,X,al,L,Y,h1,am,an,Z,ap,aq,x⟩:=id I;obtain⟨x,M⟩:=x rfl;have L:v=X:=by rw[Y] at ac;exact (j6 ac).symm
 subst L;have ab:bC (λr=>B r/\r<w.heap.size) R w xs a:=ao.mono Q (λr e h=>⟨h,e⟩) λ_ _ h=>h;refine th (pl:=_) (l:=aX) bc.p rfl ec.u ec.i ax.i rfl C ac Z J ab (λr e N=>⟨λad=>(m r e ad.1).1 2 N.1,M 2 r N⟩) ⟨λh=>by have:=f 2 gs h.1;omega,λh=>by have:=(m gs W h.1).2;omega,λh=>by have:=q gs h;omega⟩ Ω Ω λF s O ae ag=>?_;refine S _ _ s (O.mono λr _ h=>h.elim (λh=>by have:=f 2 r h.1;omega) λh=>Ω) ae (I.kp O (λr e=>?_) ag (λj r z e=>?_) λr e=>?_) (λj r e=>?_) λj z=>?_
 .rcases e with e|rfl
  .exact .inl e
  .exact .inr ⟨λj h=>by have:=f j r h.1;omega,λh=>by have:=q r h;omega⟩
 .rcases e with e|e|e
  .exact x 2 j r (Ne.symm z) e
  .exact λh=>(m r e.2 e.1).1 j h.1
  .exact λh=>by have:=h.2;omega
 .rcases e with e|e|e
  .exact M 2 r e
  .exact λh=>by have:=(m r e.2 e.1).2;have:=q r h;omega
  .exact λh=>by have:=q r h;omega
 .unfold ia at e;split at e
  .rcases e with e|e|e
   .exact f 2 r e.1
   .exact (m r e.2 e.1).2
   .omega
  .exact f j r e.1
 .rw[Y2 (Ne.symm z)]
theorem cc.Oj {a:jg} (h:cc true A R w cs k sizes zero D G aX H E) (C:af w gs bc cs) (ac:cs[6]? =σ v) (f:∀j r,A j r->gs<r) (q:∀r,R r->r<gs) (J:ca w 4 y 1 xs) (Q:bC B R w xs a) (m:∀r,r<w.heap.size->B r->(∀j,¬A j r)/\gs<r) (ai:H.length<=1000)
  (S:∀aQ b5 w',ah (λr=>gs<=r) w w'->af w' gs bc b5->cc true aQ R w' b5 k sizes zero D G aX (H++[a]) E->(∀j r,aQ j r->gs<r)->(∀j,j≠6->b5[j]? =cs[j]?)->K w'):
  aC x7 (b8 #[gg,gg] P #[v,y]) w λF V=>aa x7 (u5 bc (Γ gs) 6) V λU=>aC x7 (o6 gg U F) V λ_ s=>K s:=by
 have I:=h.old;have W:=C.lt;obtain⟨szv,aj,ak,al,X,L,Y,h1,am,an,ap,Z,aq,x⟩:=id I;obtain⟨x,M⟩:=x rfl;have L:v=X:=by rw[Y] at ac;exact (j6 ac).symm
 subst L;have ab:bC (λr=>B r/\r<w.heap.size) R w xs a:=ao.mono Q (λr e h=>⟨h,e⟩) λ_ _ h=>h;refine th (pl:=_) (l:=H) bc.p rfl gg.u gg.i fq.i rfl C ac Z J ab (λr e N=>⟨λad=>(m r e ad.1).1 3 N.1,M 3 r N⟩) ⟨λh=>by have:=f 3 gs h.1;omega,λh=>by have:=(m gs W h.1).2;omega,λh=>by have:=q gs h;omega⟩ Ω Ω λF s O ae ag=>?_;refine S _ _ s (O.mono λr _ h=>h.elim (λh=>by have:=f 3 r h.1;omega) λh=>Ω) ae (I.kq O (λr e=>?_) ag (λj r z e=>?_) λr e=>?_) (λj r e=>?_) λj z=>?_
 .rcases e with e|rfl
  .exact .inl e
  .exact .inr ⟨λj h=>by have:=f j r h.1;omega,λh=>by have:=q r h;omega⟩
 .rcases e with e|e|e
  .exact x 3 j r (Ne.symm z) e
  .exact λh=>(m r e.2 e.1).1 j h.1
  .exact λh=>by have:=h.2;omega
 .rcases e with e|e|e
  .exact M 3 r e
  .exact λh=>by have:=(m r e.2 e.1).2;have:=q r h;omega
  .exact λh=>by have:=q r h;omega
 .unfold ia at e;split at e
  .rcases e with e|e|e
   .exact f 3 r e.1
   .exact (m r e.2 e.1).2
   .omega
  .exact f j r e.1
 .rw[Y2 (Ne.symm z)]
end
theorem Ol (u:Λ):aE (newVar u)=(Z8 u.length).map λv:Nat=>(v:Int):=by
 unfold aE newVar dropped;rw[List.filter_eq_self.2];intro a _;simp
theorem mE {R:ak} {v:x1} {g:Nat} (h:au .i64 e w g v l):bC (λr=>leads v r) R w [v] l:=by
 have h1:=kM (R:=R) h;by_cases f:v= .slice ν 0 0
 .subst f;have:l=[]:=by
   obtain⟨j,⟨_,a⟩|⟨_,_,a,_⟩⟩:=h
   .exact c8 a
   .cases a
  subst this;exact gS
 .obtain⟨j,⟨a,_⟩|⟨cap,cs,a,_⟩⟩:=id h
  .exact absurd a f
  .refine ao.mono h1 (λr _ m=>?_) λ_ _ h=>h;rw[a];exact⟨_,_,_,rfl,m.symm⟩
theorem wN {R:ak} {v:x1} {g:Nat} (e:∀r c,B<=r->af w r ai c->R r) (h:au .i64 ai w g v l) (ac:∀r,leads v r->B<=r):Seen R w [v] l:=pV (mE (R:=λ_=>False) h) λr j a=>by
 rcases a with a|a
 .obtain⟨c,f⟩:=Oa h r a;exact e r c (ac r a) f
 .exact a.elim
theorem Om {R:ak} {zero:Int} {szv:x1} (h:Seen R w [szv] sizes):cc true (λ_ _=>False) R w [Δ k,szv,Δ zero,.slice ν 0 0,.slice ν 0 0,.slice ν 0 0,.slice ν 0 0,.slice ν 0 0] k sizes zero [] [] [] [] []:=
 ⟨_,_,_,_,_,_,rfl,h,gS,gS,gS,gS,gS,λ_=>⟨λ_ _ _ _ h=>h.elim,λ_ _ h=>h.elim⟩⟩
theorem cc.at {m:Bool} {A:Nat->ak} {R:ak} {cs:List x1} {zero:Int} {D:List (Λ)} {G:List Bool} {aX:List (Λ)} {H:List jg} {E:List nU} (h:cc m A R w cs k sizes zero D G aX H E) (c:Nat) (a:c<8):∃v,cs[c]? =σ v:=⟨_,x6 (by rw[h.len.1];exact a)⟩
def On (R:ak) (w:x3) (e gt gs:Nat) (n:aR) (f:List x1) (i j:Nat) (a:x3):Prop:=Ext w a/\af a e dz f/\af a gt bc z12/\ ∃A cs,af a gs bc cs/\(∀q r,A q r->gs<r)/\
 cc true A R a cs n.k n.sizes n.zero ((n.unary.take i).map λu=>aE (newVar u)) (r9 i false) (n.unary.take i) ((n.funs.take j).map λg=>h8 (kh n.sizes g)) []
theorem DD {bD:x1} {n:aR} {R:ak} (ay:∀r,R r->r<w.heap.size) (a2:∀r c,B<=r->af w r ai c->R r) (cA:wJ w B bD n) (ac:jG n) (ae:n.funs.length<=256):am x7 FZ [bD] w λv w'=>Ext w w'/\ ∃A cs,v= .agg cs.toArray/\h9 true A R w' cs n.k n.sizes (cS n)/\ ∀q r,A q r->w.heap.size<=r:=by
 have ea:=ac.sizes.2.1;have cB:=ac.kf;refine az func30 ?_;refine bo λg1 U eb a6 cC=>?_;obtain⟨szv,gz,cD,ed,bF,cE,ee,a7,aB,aC,cF,bH,ba,cG,bI,cH,bJ⟩:=Ob cA cC;refine bG bc.i λgt V ef aD aF=>?_;have aF:af V gt bc z12:=aF;have bb:=aB.ext aD;rw[aT dz.p 0 bb rfl,aT dz.p 1 bb rfl,aT dz.p 2 bb rfl,
  dn (cs:=#[Δ n.k,szv,Δ n.zero,.slice ν 0 0,.slice ν 0 0,.slice ν 0 0,.slice ν 0 0,.slice ν 0 0]) (by obtain⟨_,_,_,e⟩:=dg aC.ls;rw[e];kernel_rfl)]
 refine bG bc.i λgs eg eh aG cI=>?_;have cJ:Seen R w [szv] n.sizes:=wN a2 aC cH;have ei:=a6.size;have ej:=aD.size;have z3:=aG.size;have cK:=(a6.trans aD).trans aG;have bK:=Om (k:=n.k) (zero:=n.zero) (bW cJ cK);refine ck (vs:=[Δ n.k,szv,Δ n.zero,.slice ν 0 0,.slice ν 0 0,.slice ν 0 0,.slice ν 0 0,.slice ν 0 0]) bc.i rfl rfl bK.len.2 cI λcL bd ek cM=>?_;have em:=aF.lt;have en:=aB.lt;have cN:gt≠gs:=Ω
 have bf:Ext U cL:=(aD.trans aG).put bd Ω;have bL:=a6.trans bf;have cO:=(aF.ext aG).ab bd λhe=>cN he;have ep:w.heap.size<gs:=Ω
 rw[aT dz.p 1 (aB.ext bf) rfl,aU an.u (aC.ext bL).ls];have cP:=bK.ab bd λr f h he=>by
  have he:r=gs:=he;rcases h with⟨_,h⟩|h
  .exact h
  .have:=ay r h;omega
 refine ch.range n.sizes.length (λi O=>On R w g1 gt gs n [Δ n.k,szv,Δ n.zero,cD,cE] i 0 O) Ω ⟨bL,aB.ext bf,cO,_,_,cM,(λ_ _ h=>h.elim),cP⟩ ?_ ?_
 .rintro i O cQ hi ⟨P,bg,bh,A,cs,ad,bi,aI⟩ cR;obtain⟨z,bj⟩:=aH (l:=n.sizes) hi;obtain⟨u,hu⟩:=aH (l:=n.unary) (i:=i) Ω;have er:=ac.sizes.2.2 z (x5 bj);obtain⟨es,_⟩:=ac.unary i z u bj hu;refine bE Ω ?_;rw[be an.u ai.i Ψ (aC.ext P).ls bj];obtain⟨bN,rfl⟩:∃m:Nat,z=m:=⟨z.toNat,Ω⟩;refine bX.range bN (λj ag aJ=>Ext O aJ/\ ∃g,au .i64 ai aJ g ag ((Z8 j).map λv:Nat=>(v:Int))/\ ∀r,leads ag r->O.heap.size<=r) Ω
   ⟨Ext.refl _,0,au.nil _ _ _ _,λr f=>by obtain⟨a,n,c,J,Q⟩:=f;cases J⟩ ?_ ?_
  .rintro j ag aJ bk bl ⟨K,cT,S,aK⟩ bm;refine bE Ω ?_;refine eo (k:=.i64) an.u ai.i rfl λet eu cU ev H cW=>?_;refine gX an.u ai.i rfl (S.ext H) cW.ls Θ Θ λew cX cY cZ c0 W=>?_;rw[aM];have c1:=K.size;have c2:=H.size;refine bm _ _ ⟨(K.trans H).then W λr f he=>by have:=aK r he;omega,cX,?_,λr f=>(c0 r f).elim (aK r) λh=>Ω⟩;rw[List.range_succ,b6];exact cZ
  rintro ag aJ bk ⟨K,cT,S,aK⟩;refine cm Ω ?_;have c3:(Z8 bN).map (λv:Nat=>(v:Int))=aE (newVar u):=by rw[Ol];congr 2;omega
  rw[c3] at S;have c1:=K.size;have ey:=P.size;have ez:=ad.lt;have aj:∀r,R r->r<gs:=λr f=>by have:=ay r f;omega
  have low:∀ {s C:x3} {b:Nat} {e:r8} {c:List x1},ah (λr=>gs<=r) s C->b<gs->af s b e c->af C b e c:=λL c4 h=>h.ab L λX=>by have X:gs<=_:=X;omega
  have al:∀ {s C:x3},Ext w s->ah (λr=>gs<=r) s C->Ext w C:=λI L=>I.then L λr f h=>by have h:gs<=r:=h;omega
  have bP:=aI.old.ext K;have c5:∀q r,(A q r/\r<O.heap.size)->gs<r:=λq r h=>bi q r h.1;obtain⟨eA,bQ⟩:=bP.at 3 Ω;rw[aT bc.p 3 (ad.ext K) bQ];refine jw de.u an.i Φ (a:=aE (newVar u)) (cs:=[ag]) S.ls.cells.1 (mE (R:=R) S) λeB cU H _ c6=>?_;have c2:=H.size;have aL:=K.trans H;refine cc.Og (bP.ext H) (ad.ext aL) bQ c5 aj c6 (bW (mE (R:=R) S) H) (λr f h=>?_) Θ λeC eD cY W bR bS c7 _=>?_
  .have:=aK r h;exact⟨λj h=>Ω,Ω⟩
  have eE:=W.size;obtain⟨eF,bT⟩:=bS.at 4 Ω;rw[aT bc.p 4 bR bT];refine jw (a:=false) (cs:=[.bool false]) (A:=λ_=>False) (R:=R) j0.u gf.i Φ rfl rfl λeH eI Y _ c8=>?_;refine cc.Oh (a:=false) (xs:=[.bool false]) (B:=λ_=>False) (bS.ext Y) (bR.ext Y) bT c7 aj c8 rfl (λr f h=>h.elim) Θ λc9 eJ bU aN bV da db _=>?_;have z9:=Y.size;have eK:=aN.size;have dc:Ext w bU:=al ((al (P.trans aL) W).trans Y) aN;have dd:=low aN Ω ((low W Ω (bg.ext aL)).ext Y);have df:=low aN Ω ((low W Ω (bh.ext aL)).ext Y);intro bn Z _ _;have bY:=bV.ext Z;have bZ:=dd.ext Z;have b0:=dc.trans Z;obtain⟨nV,aO⟩:∃nV,bF[i]? =σ nV:=⟨_,x6 (by have:=congrArg S7 bH;rw[u7] at this;omega)⟩;have dh:nV.l=u:=by
   have b1:(bF.map (·.l))[i]? =σ nV.l:=by rw[x8,aO];rfl
   rw[bH,hu] at b1;exact (j6 b1).symm
  have bp:=cF.ext b0;obtain⟨eL,b2⟩:=bp.2 nV (x5 aO);rw[dh] at b2;have b3:=da.old.ext Z;have di:∀q r,(c9 q r/\r<bU.heap.size)->gs<r:=λq r h=>db q r h.1;obtain⟨eM,b4⟩:=b3.at 5 Ω;rw[aT bc.p 5 bY b4,aT dz.p 3 bZ rfl,dr rfl ec.u ax.i bp.1 (x4.1 aO).1,aA (v:=nV.v) (o:=i*1) Ψ (bp.1.range aO 0 _ rfl)];refine wM (k:=.i64) ax.u ap.i λdj eN eO eP aQ b5=>?_;refine⟨.inl aQ,?_⟩;refine gX ax.u ap.i rfl b5 (b2.ext aQ).ls Θ Θ λb7 eQ dl aS dm dp=>?_;rw[List.nil_append] at aS;have eR:=Z.size;have eS:=aQ.size;have b8:∀r,leads dj r->bn.heap.size<=r:=λr f=>by have:=(bM b5 f).1;omega
  have dq:∀r,leads b7 r->bn.heap.size<=r:=λr f=>(dm r f).elim (b8 r) λh=>Ω
  have bq:Ext bn dl:=aQ.then dp λr f he=>by have:=b8 r he;omega
  refine⟨.inl bq,?_⟩;have eU:=bq.size;refine jw ec.u ax.i Φ (a:=u) (cs:=[b7]) aS.ls.cells.1 (mE (R:=R) aS) λeV eW br _ ds=>?_;have eX:=br.size;have aa:=bq.trans br;refine⟨.inl aa,?_⟩;refine cc.Oi (b3.ext aa) (bY.ext aa) b4 di aj ds (bW (mE (R:=R) aS) br) (λr f h=>?_) Θ λdt dv eY bt dw dx dy _=>?_
  .have:=dq r h;have:=bV.lt;exact⟨λj h=>Ω,Ω⟩
  rw[aM];refine cR _ ⟨al (b0.trans aa) bt,low bt Ω (bZ.ext aa),low bt Ω ((df.ext Z).ext aa),dt,dv,dw,dy,?_⟩;rw[u9,hu,l7,b6,U6,List.map_nil,List.replicate_succ'];exact dx
 rintro O cQ ⟨P,bg,bh,A,cs,ad,bi,aI⟩;refine cm Ω ?_;rw[j9 Ω] at aI;have eZ:a7.length=n.funs.length:=by rw[<-bI,u7]
 have dA:=ba.ext P;rw[aT dz.p 4 bg rfl,e9 cV.u dA];have aj:∀r,R r->r<gs:=λr f=>by have:=ay r f;omega
 have low:∀ {s C:x3} {b:Nat} {e:r8} {c:List x1},ah (λr=>gs<=r) s C->b<gs->af s b e c->af C b e c:=λL c4 h=>h.ab L λX=>by have X:gs<=_:=X;omega
 have al:∀ {s C:x3},Ext w s->ah (λr=>gs<=r) s C->Ext w C:=λI L=>I.then L λr f h=>by have h:gs<=r:=h;omega
 refine ch.range a7.length (λj G=>Ext w G/\af G gt bc z12/\ ∃A cs,af G gs bc cs/\(∀q r,A q r->gs<r)/\
  cc true A R G cs n.k n.sizes n.zero (n.unary.map λu=>aE (newVar u)) (r9 n.sizes.length false) n.unary ((n.funs.take j).map λg=>h8 (kh n.sizes g)) []) ba.le ⟨P,bh,A,cs,ad,bi,aI⟩ ?_ ?_
 .rintro j G bk bl ⟨M,bu,bw,aV,aW,aX,ao⟩ bm;obtain⟨y,aq⟩:=aH (l:=a7) bl;have b9:n.funs[j]? =σ (du y):=by rw[<-bI,x8,aq];rfl
  have ca:=(ac.funs (du y) (x5 b9)).1;have e0:y.cs.length<=4096:=by
   have h1:y.cs.length=_:=ca.len;have X:=ca.small;omega
  have cb:=cG y (x5 aq);have cd:=cb.ext M;have ce:=ba.ext M;refine bE Ω ?_;rw[dr rfl cV.u a8.i ce bl,bO a8.p a8.i rfl (ce.range aq)];refine bG a8.i λe1 e2 e3 dC dD=>?_;refine ck (vs:=dk y) a8.i rfl rfl cd.one dD λdE dF e4 dG=>?_;have dH:Ext G dE:=dC.put dF Ω;intro bx cg _ _;have N:=dH.trans cg;have ci:=aW.ext N;have bz:=dG.ext cg;have dI:=cd.ext N;obtain⟨⟨e5,cj⟩,⟨e6,cl⟩,e7,dJ⟩:=id dI;have cn:=ao.old.ext N;have dK:∀q r,(bw q r/\r<G.heap.size)->gs<r:=λq r h=>aX q r h.1;obtain⟨e8,cp⟩:=cn.at 6 Ω;rw[aT bc.p 6 ci cp,aT a8.p 0 bz rfl,aT a8.p 1 bz rfl,aT a8.p 2 bz rfl];refine wM (k:=.i64) ax.u ap.i λv25 fa fb fc aY cq=>?_;refine⟨.inl aY,?_⟩;refine gX ax.u ap.i rfl cq (dJ.ext aY).ls Θ Θ λE fd cr aZ dL dM=>?_;rw[List.nil_append] at aZ;have fe:=N.size;have z25:=aY.size;have ct:∀r,leads v25 r->bx.heap.size<=r:=λr f=>by have:=(bM cq f).1;omega
  have dN:∀r,leads E r->bx.heap.size<=r:=λr f=>(dL r f).elim (ct r) λh=>Ω
  have a1:Ext bx cr:=aY.then dM λr f he=>by have:=ct r he;omega
  refine⟨.inl a1,?_⟩;rw[dn (cs:=#[y.aP,y.szv,E]) (by obtain⟨_,_,_,J⟩:=dg cj.ls;obtain⟨_,_,_,Q⟩:=dg cl.ls;obtain⟨_,_,_,av⟩:=dg aZ.ls;rw[J,Q,av];kernel_rfl),
   dn (cs:=#[y.aP,y.szv,E,.bool true]) (by obtain⟨_,_,_,J⟩:=dg cj.ls;obtain⟨_,_,_,Q⟩:=dg cl.ls;obtain⟨_,_,_,av⟩:=dg aZ.ls;rw[J,Q,av];kernel_rfl)]
  have ff:=a1.size;have cu:=(M.trans N).trans a1;obtain⟨⟨ga,dO⟩,⟨fg,dP⟩,_⟩:=id cb;have own:bC (α:=jg) (λr=>leads E r) R cr [y.aP,y.szv,E,.bool true] (h8 (kh n.sizes (du y))):=by
   refine⟨[y.aP,y.szv,E],[.bool true],λr=>leads E r,λ_=>False,rfl,λ_ h=>h,λ_ h=>h.elim,λ_ _ _ h=>h,⟨[y.aP],[y.szv,E],λ_=>False,λr=>leads E r,rfl,λ_ h=>h.elim,λ_ h=>h,λ_ _ h=>h.elim,?_,[y.szv],[E],λ_=>False,λr=>leads E r,rfl,λ_ h=>h.elim,λ_ h=>h,λ_ _ h=>h.elim,?_,?_⟩,rfl⟩
   .exact bW (wN a2 dO λr f=>bJ y (x5 aq) r (.inr (.inl f))) cu
   .exact bW (wN a2 dP λr f=>bJ y (x5 aq) r (.inr (.inr f))) cu
   .exact mE aZ
  refine jw gg.u fq.i Φ rfl own λfh fi bA _ dQ=>?_;have fj:=bA.size;have aw:=a1.trans bA;refine⟨.inl aw,?_⟩;refine cc.Oj (cn.ext aw) (ci.ext aw) cp dK aj dQ (bW own bA) (λr f h=>?_) Θ λdR dS fk cw dT dU dV _=>?_
  .have:=dN r h;have:=aW.lt;exact⟨λj h=>Ω,Ω⟩
  rw[aM];refine bm _ ⟨al (M.trans (N.trans aw)) cw,low cw Ω (bu.ext (N.trans aw)),dR,dS,dT,dV,?_⟩;rw[u9,b9,l7,b6,U6,List.map_nil];exact dU
 rintro G bk ⟨M,bu,bw,aV,aW,aX,ao⟩;rw[j9 Ω] at ao;refine cm Ω ?_;obtain⟨bB,dW⟩:=ao.len;rw[bO bc.p bc.i bB (show G.rangeAt gs 0 aV from aW.range)];refine ck (vs:=aV) bc.i bB rfl dW bu λfm cz fo dX=>?_;rw[fO bc.p bc.i bB dX.range];have dY:=ao.ab cz λr f h he=>by
  have he:r=gt:=he;rcases h with⟨q,h⟩|h
  .have:=aX q r h;omega
  .have:=ay r h;omega
 have fp:=M.size;refine⟨M.then cz λr f he=>by have he:r=gt:=he;omega,bw,aV,rfl,?_,λq r h=>by have:=aX q r h;omega⟩;have J:(cS n).vars.map aE=n.unary.map λu=>aE (newVar u):=by show (n.unary.map newVar).map aE=_;rw[S8];rfl
 have Q:(cS n).vars.map (λx=>decide (x.gone≠0))=r9 n.sizes.length false:=by
  show (n.unary.map newVar).map _=_;rw[S8,<-cB];exact List.map_const' ..
 have av:(cS n).vars.map (·.un)=n.unary:=by show (n.unary.map newVar).map _=_;rw[S8];exact List.map_id _
 have dZ:(cS n).funs.map h8=n.funs.map λg=>h8 (kh n.sizes g):=by show (n.funs.map (kh n.sizes)).map h8=_;rw[S8];rfl
 unfold h9;rw[J,Q,av,dZ];exact dY
section
variable {P:W0} {w:x3} {t:r8} {cx cy:Bool} {a b:Nat} {K:x1->Prop}
theorem Oo (f:a<2 ^ 62) (h:b<2 ^ 62):aa P (aJ .or t cx cy (Δ a) (Δ b)) w K=K (Δ ((a ||| b:Nat):Int)):=aa.of λw' _=>by
 have e:(U5 64 (a:Int) ||| U5 64 (b:Int)).toNat=a ||| b:=by
  rw[mo,mo,BitVec.toNat_or,BitVec.toNat_ofNat,BitVec.toNat_ofNat,Nat.mod_eq_of_lt Ω,Nat.mod_eq_of_lt Ω]
 have m:a ||| b<2 ^ 62:=Nat.or_lt_two_pow f h;have hw:X2.wrap ((a ||| b:Nat):Int)=((a ||| b:Nat):Int):=wrap_i64 Ω Ω;have j:(U5 X2.bits (a:Int) ||| U5 X2.bits (b:Int)).toNat=a ||| b:=e;simp only[aJ,eqGuard,binOp,Op.intBits,j,hw];rfl
theorem DE (j:a<2 ^ 62) (f:b<2 ^ 62):aa P (aJ .and t cx cy (Δ a) (Δ b)) w K=K (Δ ((a &&& b:Nat):Int)):=aa.of λw' _=>by
 have e:(U5 64 (a:Int) &&& U5 64 (b:Int)).toNat=a &&& b:=by
  rw[mo,mo,BitVec.toNat_and,BitVec.toNat_ofNat,BitVec.toNat_ofNat,Nat.mod_eq_of_lt Ω,Nat.mod_eq_of_lt Ω]
 have m:a &&& b<2 ^ 62:=Nat.and_lt_two_pow _ f;have hw:X2.wrap ((a &&& b:Nat):Int)=((a &&& b:Nat):Int):=wrap_i64 Ω Ω;have h:(U5 X2.bits (a:Int) &&& U5 X2.bits (b:Int)).toNat=a &&& b:=e;simp only[aJ,eqGuard,binOp,Op.intBits,h,hw];rfl
theorem Oq {k:o4} {n:Nat} (a:n<62):aa P (aJ .shl t cx cy (Δ 1) (.int k (n:Int))) w K=K (Δ ((2 ^ n:Nat):Int)):=by
 rw[zx Ω];have e:min ((n:Int).toNat) X2.bits=n:=Nat.min_eq_left (by show n<=64;omega);have f:2 ^ n<2 ^ 62:=Nat.pow_lt_pow_right Ω a;rw[e,Int.one_mul,show ((2:Int) ^ n)=((2 ^ n:Nat):Int) by simp];generalize 2 ^ n=q at f ⊢;rw[wrap_i64 Ω Ω]
end
theorem DF (a n:Nat):(a / 2 ^ n &&& 1=1)↔a.testBit n=true:=by
 rw[Nat.and_one_is_mod,Nat.testBit_eq_decide_div_mod_eq,decide_eq_true_eq]
theorem wO {b n:Nat} (m:lM b n):am x7 Gr [ja b n,Δ v] w λr w'=>r= .bool (decide (0<=v/\v<n)&&b.testBit v.toNat)/\Ext w w':=by
 refine az func70 ?_;refine bo λg U z e f=>?_;refine aV (λr V=>r= .bool (decide (0<=v/\v<n)&&b.testBit v.toNat)/\Ext w V) (λ_ _ h=>h) λay j=>?_;rw[bO b2.p b2.i rfl f.range];refine AL.mono ?_;rintro _ A _ ⟨rfl,a⟩;rw[al];refine⟨λh=>?_,λh=>j _ _ ⟨by rw[decide_eq_false h];rfl,e.trans a⟩⟩;obtain⟨q,B⟩:=m;obtain⟨s,rfl⟩:∃s:Nat,v=s:=⟨v.toNat,Ω⟩;have x:=f.ext a;have C:(2:Nat) ^ n<=2 ^ 32:=T7 Ω q;have y:b / 2 ^ s<2 ^ 64:=Nat.lt_of_le_of_lt (Nat.div_le_self _ _) Ω;rw[aT b2.p 0 x rfl,kR Ω,show (1:Int)=((1:Nat):Int) from rfl,u64_and y Ω,bh];refine j _ _ ⟨?_,e.trans a⟩;congr 1;rw[decide_eq_true h,U3,V5,decide_eq_true_eq,u6,<-DF];omega
theorem Ot (m v:Nat):dropped (m:Int) (v:Int)=m.testBit v:=by unfold dropped;rw[u6,u6]
def bx (w:x3) (ad ag:Nat) (A R:ak) (n:aR) (s:av) (t:aB):Prop:=StateM w ad ag A R n s t/\t.bP=s.cells/\mz t/\bq n.k n.sizes s/\jG n
theorem bx.ext {A R:ak} {n:aR} {s:av} {t:aB} (h:bx w ad ag A R n s t) (I:Ext w w'):bx w' ad ag A R n s t:=⟨h.1.ext I,h.2⟩
theorem StateM.parts {A R:ak} {n:aR} {s:av} {t:aB} (h:StateM w ad ag A R n s t):∃a e f j a6 m L p,af w ad cE [Γ a,Γ ag,e,f,j]/\fU w a n/\dt w ag p t/\au .i64 ai w a6 e (h7 s)/\bg lT 3 ed w m f L/\ki R w L s:=by
 obtain⟨a,e,f,j,_,a6,m,ge,L,E,p,w0,q,⟨r,x,F⟩,⟨y,G,H,I⟩,z,⟨B,C⟩,J,K⟩:=h;exact⟨a,e,f,j,a6,m,L,p,q,r.ext x,y,z,B,C⟩
theorem ti {s:av} {i:Nat} (h:i<s.vars.length):(h7 s)[i]? =σ (fG s i:Int):=by
 unfold h7;rw[x8,List.getElem?_range h];rfl
theorem pk {s:av} {t:aB} (ac:t.bP=s.cells) (J:mz t):s.cells.length<=100000000:=by
 rw[<-ac];unfold aB.bP;rw[u7];exact J.1
theorem tj {s:av} {i:Nat} {x:br} (h:s.vars[i]? =σ x):fG s i+x.un.length+2<=s.cells.length:=by
 have h1:=qH h (j:=x.un.length+1) Ω;have a:(fV x)[x.un.length+1]? ≠ν:=by
  rw[Ne,List.getElem?_eq_none_iff];show ¬(x.un.length+1+1<=x.un.length+1);omega
 rw[<-h1] at a;have:=(x4.1 (Option.ne_none_iff_exists'.1 a).choose_spec).1;omega
theorem wP {s:av} {f:cz} (h:s.funs[j]? =σ f):eI s j+f.cs.length+1<=s.cells.length:=by
 have h1:=wp h (j:=f.cs.length) Ω;have a:(fi f)[f.cs.length]? ≠ν:=by
  rw[Ne,List.getElem?_eq_none_iff];show ¬(f.cs.length+1<=f.cs.length);omega
 rw[<-h1] at a;have:=(x4.1 (Option.ne_none_iff_exists'.1 a).choose_spec).1;omega
section
variable {w:x3} {ad ag:Nat} {A R:ak} {n:aR} {s:av} {t:aB}
theorem DG (h:bx w ad ag A R n s t):am x7 GX [Γ ad] w λv w'=>(∃a,v=Γ a/\fU w' a n)/\Ext w w':=by
 obtain⟨a,j,m,q,a6,r,L,x,e,f,y,z,B,C⟩:=h.1.parts;refine az func120 ?_;rw[c5 dy.u];simp only[b9,aY];rw[aO cE.p 0 e rfl];exact⟨⟨a,rfl,f⟩,Ext.refl _⟩
theorem wQ (h:bx w ad ag A R n s t):am x7 Gj [Γ ad] w λv w'=>v=Δ (n.sizes.length:Int)/\Ext w w':=by
 refine az func60 ?_;refine (DG h).mono ?_;rintro _ U _ ⟨⟨j,rfl,a⟩,e⟩;refine (wq a).mono ?_;rintro _ V _ ⟨rfl,f⟩;exact⟨rfl,e.trans f⟩
theorem jL (h:bx w ad ag A R n s t):am x7 y3 [Γ ad] w λv w'=>v=Δ n.k/\Ext w w':=by
 refine az func43 ?_;refine (DG h).mono ?_;rintro _ U _ ⟨⟨j,rfl,a⟩,e⟩;refine (Nn a).mono ?_;rintro _ V _ ⟨rfl,f⟩;exact⟨rfl,e.trans f⟩
theorem wR {i:Int} (h:bx w ad ag A R n s t):am x7 G4 [Γ ad,Δ i] w λv w'=>v= .bool (decide (0<=i/\i<n.sizes.length))/\Ext w w':=by
 refine az func128 ?_;refine aV (λv U=>v= .bool (decide (0<=i/\i<n.sizes.length))/\Ext w U) (λ_ _ h=>h) λay a=>?_;rw[cO,al];refine⟨λe=>?_,λe=>a _ _ ⟨by rw[decide_eq_false Ω],Ext.refl _⟩⟩;refine (wQ h).mono ?_;rintro _ U _ ⟨rfl,f⟩;rw[aN];refine a _ _ ⟨?_,f⟩;congr 1;exact decide_eq_decide.2 ⟨λh=>⟨e,h⟩,λh=>h.2⟩
theorem qO (h:bx w ad ag A R n s t):am x7 Gn [Γ ad] w λv w'=>v=Δ s.zero/\Ext w w':=by
 obtain⟨j,m,q,r,a6,x,L,y,a,z,e,B,C,E⟩:=h.1.parts;refine az func64 ?_;rw[c5 dy.u];simp only[b9,aY];rw[aO cE.p 1 a rfl];refine (nN (i:=0) e rfl (show t.bP[0]? =σ s.zero by rw[h.2.1];exact Nh s)).mono ?_;rintro _ U _ ⟨rfl,f⟩;exact⟨rfl,f⟩
theorem tk (h:bx w ad ag A R n s t):am x7 GW [Γ ad] w λv w'=>v=Δ (s.funs.length:Int)/\Ext w w':=by
 obtain⟨j,m,q,r,a6,x,L,y,a,z,B,C,e,f⟩:=h.1.parts;refine az func119 ?_;rw[c5 dy.u];simp only[b9,aY];rw[aO cE.p 3 a rfl,e9 e5.u e];exact⟨by rw[f.1],Ext.refl _⟩
def iG (s:av) (i:Nat):Bool:=match s.vars[i]? with
 |some x=>decide (x.gone≠0)
 |none=>false
theorem tm {i:Int} (h:bx w ad ag A R n s t):am x7 Gk [Γ ad,Δ i] w λv w'=>v= .bool (decide (0<=i)&&iG s i.toNat)/\Ext w w':=by
 refine az func61 ?_;refine aV (λv U=>v= .bool (decide (0<=i)&&iG s i.toNat)/\Ext w U) (λ_ _ h=>h) λay a=>?_;intro V e _ _;refine (wR (h.ext e)).mono ?_;rintro _ G _ ⟨rfl,m⟩;have I:=e.trans m;have H:=h.2.2.2.1.vars;rw[al];refine⟨λq=>?_,λJ=>a _ _ ⟨?_,I⟩⟩
 .obtain⟨K,M,N,O,a6,P,L,Q,f,S,r,z,W,X⟩:=(h.ext I).1.parts;obtain⟨x,j⟩:=aH (l:=s.vars) (i:=i.toNat) Ω;rw[aO cE.p 1 f rfl,aO cE.p 2 f rfl,fx (y:=i) (i:=i.toNat) Ω an.u ai.i Ψ z.ls (ti Ω)];have B:t.bP[fG s i.toNat+0]? =σ x.gone:=by rw[h.2.1,qH j Ω];rfl
  refine (nN (i:=fG s i.toNat) r rfl B).mono ?_;rintro _ Y _ ⟨rfl,C⟩;rw[bz];refine a _ _ ⟨?_,I.trans C⟩;rw[decide_eq_true q.1,U3];unfold iG;rw[j]
 .by_cases E:0<=i
  .unfold iG;rw[Z6 Ω,Bool.and_false]
  .rw[decide_eq_false E];rfl
def eL (n:aR) (i v:Int):Prop:=0<=i/\i<n.sizes.length/\0<=v/\v<n.sizes.getD i.toNat 0
instance (n:aR) (i v:Int):Decidable (eL n i v):=inferInstanceAs (Decidable (_/\_))
theorem eL.var {i:Int} (ac:eL n i v) (a:bq n.k n.sizes s):∃x,s.vars[i.toNat]? =σ x/\v.toNat<x.un.length/\x.un.length<=32/\n.sizes.getD i.toNat 0=x.un.length:=by
 obtain⟨h1,h,j,f⟩:=ac;have m:=a.vars;obtain⟨x,I⟩:=aH (l:=s.vars) (i:=i.toNat) Ω;obtain⟨z,e⟩:=aH (l:=n.sizes) (i:=i.toNat) Ω;have p:=a.fk.2.2 z (x5 e);have q:=(a.var i.toNat x z I e).1;rw[v8,e,V1] at f ⊢;exact⟨x,I,Ω,Ω,Ω⟩
theorem wS {i:Int} (h:bx w ad ag A R n s t):am x7 Gp [Γ ad,Δ i,Δ v] w λr w'=>r=Δ (if eL n i v then ((fG s i.toNat+2+v.toNat:Nat):Int) else-1)/\Ext w w':=by
 have Y:=h.2.2.2.1.vars;refine az func65 ?_;refine aV (λr U=>r= .bool (decide (¬eL n i v))/\Ext w U) ?_ ?_
 .rintro _ U ⟨rfl,m⟩;rw[al];refine⟨λE=>⟨by rw[if_neg E],m⟩,λf=>?_⟩;have f:=Z9.1 f;obtain⟨x,G,Z,aa,_⟩:=f.var h.2.2.2.1;obtain⟨H,I,J,K,a6,M,L,N,a,z,O,B,P,Q⟩:=(h.ext m).1.parts;have C:=tj G;have ab:=pk h.2.1 h.2.2.1;obtain⟨h1,ae,af,ah⟩:=id f;rw[aO cE.p 2 a rfl,fx (y:=i) (i:=i.toNat) Ω an.u ai.i Ψ B.ls (ti Ω),aM,wrap_i64 Ω Ω,aM,wrap_i64 Ω Ω,if_pos f];refine⟨?_,m⟩;congr 1;omega
 .intro ay q;refine (wR h).mono ?_;rintro _ V _ ⟨rfl,j⟩;rw[bI,cb];refine⟨λa=>?_,λa=>?_⟩
  .have a:¬(0<=i/\i<n.sizes.length):=λS=>by rw[decide_eq_true S] at a;cases a
   exact q _ _ ⟨by rw[decide_eq_true];exact λe=>a ⟨e.1,e.2.1⟩,j⟩
  have a:0<=i/\i<n.sizes.length:=by simpa using a
  rw[aN,al];refine⟨λac=>q _ _ ⟨by rw[decide_eq_true];exact λe=>by have:=e.2.2.1;omega,j⟩,λac=>?_⟩;obtain⟨H,I,J,K,a6,M,L,N,W,z,O,B,P,Q⟩:=(h.ext j).1.parts;rw[aO cE.p 0 W rfl];refine (CX z h.2.2.2.2).mono ?_;rintro _ aj _ ⟨X,rfl⟩;rw[if_pos a.1,cO];refine q _ _ ⟨?_,j.trans X⟩;congr 1;refine decide_eq_decide.2 ⟨λh e=>?_,λh=>?_⟩
  .have:=e.2.2.2;omega
  .refine Int.not_lt.1 λC=>h ⟨a.1,a.2,Ω,C⟩
def gM (s:av) (i v:Nat):Int:=match s.vars[i]? with
 |some x=>x.un.getD v 0
 |none=>0
theorem nW {i:Int} (h:bx w ad ag A R n s t):am x7 y9 [Γ ad,Δ i,Δ v] w λr w'=>r=(if eL n i v then .tuple #[Δ (gM s i.toNat v.toNat),Δ 0] else .tuple #[Δ 0,Δ 1])/\Ext w w':=by
 refine az func69 ?_;rw[c5 dy.u];simp only[b9,aY];refine (wS h).mono ?_;rintro _ U _ ⟨rfl,e⟩;by_cases a:eL n i v
 .rw[if_pos a,if_pos a];refine cm Ω ?_;obtain⟨x,f,j,B,_⟩:=a.var h.2.2.2.1;obtain⟨C,E,G,H,a6,I,L,J,m,K,q,M,N,O⟩:=(h.ext e).1.parts;rw[aO cE.p 1 m rfl];have y:t.bP[fG s i.toNat+2+v.toNat]? =σ (x.un.getD v.toNat 0):=by
   rw[h.2.1,S9,qH f Ω,show 2+v.toNat=v.toNat+1+1 by omega];show x.un[v.toNat]? =_;rw[v8,x6 j];rfl
  refine (nN (i:=fG s i.toNat+2+v.toNat) q rfl y).mono ?_;rintro _ V _ ⟨rfl,z⟩;refine⟨?_,e.trans z⟩;unfold gM;rw[f]
 .rw[if_neg a,if_neg a,aN,al];exact⟨λ_=>⟨rfl,e⟩,λh=>Ω⟩
def e3 (s:av) (j:Nat):Bool:=match s.funs[j]? with
 |some f=>decide (f.live≠0)
 |none=>false
theorem qP {j:Int} (h:bx w ad ag A R n s t):am x7 Gs [Γ ad,Δ j] w λv w'=>v= .bool (decide (0<=j)&&e3 s j.toNat)/\Ext w w':=by
 refine az func72 ?_;refine aV (λv U=>v= .bool (decide (0<=j)&&e3 s j.toNat)/\Ext w U) (λ_ _ h=>h) λay a=>?_;intro V e _ _;rw[cO,al];refine⟨λm=>?_,λm=>a _ _ ⟨by rw[decide_eq_false m];rfl,e⟩⟩;refine (tk (h.ext e)).mono ?_;rintro _ J _ ⟨rfl,B⟩;have I:=e.trans B;rw[aN,al];refine⟨λK=>?_,λM=>a _ _ ⟨?_,I⟩⟩
 .obtain⟨N,O,P,Q,a6,S,L,W,r,X,C,Y,x,q⟩:=(h.ext I).1.parts;obtain⟨f,ae⟩:=aH (l:=s.funs) (i:=j.toNat) Ω;obtain⟨y,z⟩:∃y,L[j.toNat]? =σ y:=⟨_,x6 (by rw[q.1];omega)⟩;obtain⟨_,_,E⟩:=q.2 j.toNat y f z ae;rw[aO cE.p 1 r rfl,aO cE.p 3 r rfl,dr (i:=j.toNat) Ω e5.u ed.i x (by rw[q.1];omega),aW ed.p rfl,aA (v:=Δ (y.at_:Int)) Ψ (x.range z 2 _ rfl)];have G:t.bP[eI s j.toNat+0]? =σ f.live:=by rw[h.2.1,wp ae Ω];rfl
  refine (nN (i:=eI s j.toNat) C (by rw[E]) G).mono ?_;rintro _ Z _ ⟨rfl,H⟩;rw[bz];refine a _ _ ⟨?_,I.trans H⟩;rw[decide_eq_true m,U3];unfold e3;rw[ae]
 .unfold e3;rw[Z6 Ω,Bool.and_false]
end
def tn (s:av) (n:aR) (i:Int) (b m:Nat):Prop:=lM b m/\(¬(0<=i/\i<n.sizes.length)->b=0/\m=0)/\ ∀x,0<=i->s.vars[i.toNat]? =σ x->m=x.un.length/\ ∀j:Nat,b.testBit j=(decide (j<x.un.length)&& !dropped x.mask (j:Int))
section
variable {w:x3} {ad ag:Nat} {A R:ak} {n:aR} {s:av} {t:aB}
theorem kr {i:Int} (h:bx w ad ag A R n s t):am x7 Gl [Γ ad,Δ i] w λv w'=>(∃b m,v=ja b m/\tn s n i b m)/\Ext w w':=by
 have bp:=h.2.2.2.1.vars;refine az func62 ?_;refine bG b2.i λf U bq ao P=>?_;have P:af U f b2 [.int .u64 0,Δ 0]:=P;refine (wR (h.ext ao)).mono ?_;rintro _ V _ ⟨rfl,ap⟩;have Q:=P.ext ap;have S:=ao.trans ap;rw[bI,cb];refine⟨λa=>?_,λa=>?_⟩
 .have a:¬(0<=i/\i<n.sizes.length):=λaP=>by rw[decide_eq_true aP] at a;cases a
  rw[dn (cs:=#[.int .u64 0,Δ 0]) Ψ];refine ck (vs:=[.int .u64 0,Δ 0]) b2.i rfl rfl (by intro u hu;simp at hu;rcases hu with rfl|rfl<;>rfl) Q λbr aQ bt aR=>?_;rw[fO b2.p b2.i rfl aR.range];refine⟨⟨0,0,rfl,⟨Ω,Ξ⟩,λ_=>⟨rfl,rfl⟩,λx aq I=>?_⟩,S.put aQ Ω⟩;have:=(x4.1 I).1;exact absurd ⟨aq,Ω⟩ a
 have a:0<=i/\i<n.sizes.length:=by simpa using a
 obtain⟨x,E⟩:=aH (l:=s.vars) (i:=i.toNat) Ω;obtain⟨z,W⟩:=aH (l:=n.sizes) (i:=i.toNat) Ω;have aS:=h.2.2.2.1.fk.2.2 z (x5 W);obtain⟨bu,_,bw,bz⟩:=h.2.2.2.1.var i.toNat x z E W;obtain⟨aT,aU,aV,aW,a6,aX,L,aY,G,au,_⟩:=(h.ext S).1.parts;rw[aO cE.p 0 G rfl];refine (CX au h.2.2.2.2).mono ?_;rintro _ bA _ ⟨X,rfl⟩;rw[if_pos a.1,v8,W,V1];refine JN.mono ?_;rintro _ bB _ ⟨Y,rfl⟩;rw[if_pos aS];obtain⟨m,rfl⟩:∃m:Nat,z=m:=⟨z.toNat,Ω⟩;rw[bi,bj,u6];have av:=(S.trans X).trans Y;refine bG b2.i λe bC bD aw aZ=>?_;refine ck (vs:=[.int .u64 ((2 ^ m-1:Nat):Int),Δ (m:Int)]) b2.i rfl rfl (by intro u hu;simp at hu;rcases hu with rfl|rfl<;>rfl) aZ λax aA bF a1=>?_;have z5:=av.size;have aB:Ext w ax:=(av.trans aw).put aA Ω;have bH:=(((Q.ext X).ext Y)).lt;have a2:af ax f b2 [.int .u64 0,Δ 0]:=(((Q.ext X).ext Y).ext aw).ab aA λhe=>by have he:f=e:=he;omega
 intro bJ Z _ _;have aC:=aB.trans Z;obtain⟨aT,aU,aV,aW,a6,aX,L,aY,G,au,a7,a8,_⟩:=(h.ext aC).1.parts;have bK:=tj E;have bL:=pk h.2.1 h.2.2.1;rw[aO cE.p 1 G rfl,aO cE.p 2 G rfl,fx (y:=i) (i:=i.toNat) Ω an.u ai.i Ψ a8.ls (ti Ω),aM,wrap_i64 Ω Ω];have ba:t.bP[fG s i.toNat+1]? =σ x.mask:=by rw[h.2.1,qH E Ω];rfl
 refine (nN (i:=fG s i.toNat+1) a7 Ω ba).mono ?_;rintro _ bb _ ⟨rfl,aa⟩;have aD:=(a1.ext Z).ext aa;have bc:=(a2.ext Z).ext aa;obtain⟨mk,aE⟩:∃mk:Nat,x.mask=mk:=⟨x.mask.toNat,Ω⟩;rw[bO b2.p b2.i rfl (show bb.rangeAt e 0 [.int .u64 ((2 ^ m-1:Nat):Int),Δ (m:Int)] from aD.range)];refine (vp (b:=2 ^ m-1) (n:=m)).mono ?_;rintro _ bM _ ⟨rfl,ac⟩;have bd:=aC.trans aa;have be:f≠e:=Ω
 have bN:=aB.size;have bQ:w.heap.size<=e:=Ω
 have bR:w.heap.size<=f:=Ω
 refine ch.range m (λq B=>Ext w B/\af B f b2 [.int .u64 0,Δ 0]/\ ∃b:Nat,af B e b2 [.int .u64 (b:Int),Δ (m:Int)]/\lM b m/\ ∀j:Nat,b.testBit j=(decide (j<m)&& !(decide (j<q)&&mk.testBit j))) Ω
  ⟨bd.trans ac,bc.ext ac,_,aD.ext ac,⟨Ω,by have:=Nat.two_pow_pos m;omega⟩,λj=>by rw[AK];simp⟩ ?_ ?_
 .rintro q B bf bS ⟨H,J,b,C,K,M⟩ bg;refine bE Ω ?_;refine dh (λN=>Ext w N/\af N f b2 [.int .u64 0,Δ 0]/\ ∃b:Nat,af N e b2 [.int .u64 (b:Int),Δ (m:Int)]/\lM b m/\ ∀j:Nat,b.testBit j=(decide (j<m)&& !(decide (j<q+1)&&mk.testBit j))) ?_ ?_
  .rintro N bk;rw[aM];exact bg _ bk
  intro ay aF;have bl:mk / 2 ^ q<2 ^ 62:=Nat.lt_of_le_of_lt (Nat.div_le_self _ _) Ω;rw[aE,BL Ω,show (1:Int)=((1:Nat):Int) from rfl,DE bl Ω,bh,al];have aG:(((mk / 2 ^ q &&& 1:Nat):Int)=((1:Nat):Int))↔mk.testBit q=true:=by rw[<-DF];omega
  refine⟨λah=>?_,λae=>?_⟩
  .have ah:=aG.1 ah;rw[bO b2.p b2.i rfl (show B.rangeAt e 0 [.int .u64 (b:Int),Δ (m:Int)] from C.range)];refine (JP (v:=(q:Int)) K).mono ?_;rintro _ bT _ ⟨rfl,aj⟩;rw[if_pos ⟨Ω,Ω⟩,u6];refine ck (vs:=[.int .u64 ((jy b (2 ^ q):Nat):Int),Δ (m:Int)]) b2.i rfl rfl (by intro u hu;simp at hu;rcases hu with rfl|rfl<;>rfl) (C.ext aj) λbU aI bV bm=>?_;have aJ:∀j:Nat,(jy b (2 ^ q)).testBit j=(decide (j<m)&& !(decide (j<q+1)&&mk.testBit j)):=λj=>by
    rw[AC,M,Nat.testBit_two_pow];by_cases aK:j<m
    .by_cases O:j=q
     .subst O;simp[ah]
     .have ak:decide (j<q+1)=decide (j<q):=decide_eq_decide.2 ⟨λh=>Ω,λh=>Ω⟩;rw[ak,decide_eq_true aK,decide_eq_true (show j<64 by omega),decide_eq_false (show ¬q=j from λh=>O h.symm)];simp
    .simp[aK]
   refine aF _ ⟨(H.trans aj).then aI λr bW he=>by have he:r=e:=he;omega,(J.ext aj).ab aI λhe=>be he,_,bm,⟨Ω,JG λj aL=>by rw[aJ,decide_eq_false Ω];rfl⟩,aJ⟩
  .have ae:mk.testBit q=false:=by simpa using λh=>ae (aG.2 h)
   refine aF _ ⟨H,J,b,C,K,λj=>?_⟩;rw[M];by_cases O:j=q
   .subst O;simp[ae]
   .have ak:decide (j<q+1)=decide (j<q):=decide_eq_decide.2 ⟨λh=>Ω,λh=>Ω⟩;rw[ak]
 .rintro B bf ⟨H,J,b,C,K,M⟩;refine cm Ω ?_;rw[bO b2.p b2.i rfl (show B.rangeAt e 0 [.int .u64 (b:Int),Δ (m:Int)] from C.range)];refine ck (vs:=[.int .u64 (b:Int),Δ (m:Int)]) b2.i rfl rfl (by intro u hu;simp at hu;rcases hu with rfl|rfl<;>rfl) J λbX bn bY bo=>?_;rw[fO b2.p b2.i rfl bo.range];refine⟨⟨b,m,rfl,K,λh=>absurd a h,λy aq aN=>?_⟩,H.put bn Ω⟩;rw[E] at aN;cases aN;refine⟨Ω,λj=>?_⟩;rw[M,aE,Ot,show x.un.length=m by omega];by_cases aL:j<m<;>simp[aL]
theorem DH {f:cz} (e:bq k sizes s) (ae:f∈s.funs):b1 f.aj/\f.cs.length=(aK f.aj).toNat/\aK f.aj<=4096:=by
 obtain⟨a,J,_⟩:=e.funs f ae;rw[J];refine⟨⟨?_,pb e.fk.2.2 λv ac=>⟨(a.scope.1 v ac).1,a.vars v ac⟩⟩,a.len,a.small⟩;have:=a.scope.2;simp[bV];exact this
def fK (s:av) (j:Nat) (tl:Λ):Option Nat:=match s.funs[j]? with
 |some f=>if f.live≠0 then (cJ f.aj tl 0).map λm=>eI s j+1+m.toNat else ν
 |none=>ν
def hb (s:av) (j:Nat) (tl:Λ):Int:=match s.funs[j]? with
 |some f=>bn f.aj f.cs tl
 |none=>0
theorem DI (h:bx w ad ag A R n s t) (J:aF .i64 w aL tl):am x7 GZ [Γ ad,Δ (j:Int),aL] w λv w'=>v=Δ (match fK s j tl with|some p=>(p:Int)|none=>-1)/\Ext w w':=by
 refine az func122 ?_;refine (qP h).mono ?_;rintro _ U _ ⟨rfl,z⟩;rw[decide_eq_true Ω,U3,u6,bI,cb];refine⟨λa=>⟨?_,z⟩,λa=>?_⟩
 .have a:e3 s j=false:=by simpa using a
  have:fK s j tl=ν:=by
   unfold fK;unfold e3 at a;cases ae:s.funs[j]? with
   |none=>rfl
   |some f=>
    rw[ae] at a;have a:f.live=0:=by simpa using a
    simp[a]
  rw[this]
 have a:e3 s j=true:=by simpa using a
 obtain⟨f,ae,K⟩:∃f,s.funs[j]? =σ f/\f.live≠0:=by
  unfold e3 at a;cases ae:s.funs[j]? with
  |none=>rw[ae] at a;cases a
  |some f=>rw[ae] at a;exact⟨f,rfl,by simpa using a⟩
 obtain⟨G,ab,af⟩:=DH h.2.2.2.1 (x5 ae);obtain⟨M,N,O,P,a6,H,L,Q,B,S,W,X,r,x⟩:=(h.ext z).1.parts;obtain⟨y,e⟩:∃y,L[j]? =σ y:=⟨_,x6 (by rw[x.1];exact (x4.1 ae).1)⟩;have C:=(x4.1 e).1;obtain⟨_,Y,I⟩:=x.2 j y f e ae;have Z:U.rangeAt H (j*3+1) [y.szv]:=λq v ac=>by
  match q,ac with
  |0,ac=>cases ac;exact r.range e 1 _ rfl
 rw[aO cE.p 3 B rfl,dr rfl e5.u ed.i r C,aW ed.p rfl,bO (cs:=[y.szv]) bB.p bB.i rfl Z];refine (zV Y.ls (J.ext z) G).mono ?_;rintro _ V _ ⟨rfl,aa⟩;have E:=z.trans aa;unfold kO fK;rw[ae];simp only[if_pos K];cases hi:cJ f.aj tl 0 with
 |none=>
  simp only[Option.map_none];rw[bi,bj,bz,al];exact⟨λ_=>⟨trivial,E⟩,λh=>absurd (show (3:Int)≠0 by decide) h⟩
 |some m=>
  simp only[Z3];rw[bi,bj,bz,al];refine⟨λh=>absurd rfl h,λ_=>?_⟩;have ah:=nq G.2 hi;have ai:=wP ae;have ak:=pk h.2.1 h.2.2.1;obtain⟨M,N,O,P,a6,H,L,Q,B,S,W,X,r,x⟩:=(h.ext E).1.parts;obtain⟨y,e⟩:∃y,L[j]? =σ y:=⟨_,x6 (by rw[x.1];exact (x4.1 ae).1)⟩;have C:=(x4.1 e).1;obtain⟨_,_,I⟩:=x.2 j y f e ae;rw[aO cE.p 3 B rfl,dr rfl e5.u ed.i r C,aW ed.p rfl,aA (v:=Δ (y.at_:Int)) Ψ (r.range e 2 _ rfl),I,aM,wrap_i64 Ω Ω,aM,wrap_i64 Ω Ω];refine⟨?_,E⟩;congr 1;omega
theorem tp {p:Nat} (a:bq k sizes s) (h:fK s j tl=σ p):s.cells[p]? =σ (hb s j tl)/\ ∃f,s.funs[j]? =σ f/\f.live≠0/\ ∃m:Nat,cJ f.aj tl 0=σ (m:Int)/\m<f.cs.length/\p=eI s j+(m+1):=by
 unfold fK at h;cases ae:s.funs[j]? with
 |none=>rw[ae] at h;cases h
 |some f=>
  rw[ae] at h;simp only at h;split at h
  .rename_i e;obtain⟨m,hm,rfl⟩:=Y5.1 h;obtain⟨r,w,x⟩:=DH a (x5 ae);have y:=nq r.2 hm;obtain⟨q,rfl⟩:∃q:Nat,m=q:=⟨m.toNat,Ω⟩;refine⟨?_,f,rfl,e,q,hm,Ω,Ω⟩;rw[show eI s j+1+(q:Int).toNat=eI s j+(q+1) by omega,wp ae Ω];unfold hb bn;rw[ae];simp only[hm];show f.cs[q]? =_;rw[u6,v8,x6 Ω];rfl
  .cases h
theorem tq (h:bx w ad ag A R n s t) (e:aF .i64 w aL tl):am x7 y4 [Γ ad,Δ (j:Int),aL] w λv w'=>v=(if (fK s j tl).isSome then .tuple #[Δ (hb s j tl),Δ 0] else .tuple #[Δ 0,Δ 1])/\Ext w w':=by
 refine az func46 ?_;rw[c5 dy.u];simp only[b9,aY];refine (DI h e).mono ?_;rintro _ U _ ⟨rfl,a⟩;cases f:fK s j tl with
 |none=>
  simp only;rw[aN,al];exact⟨λ_=>⟨rfl,a⟩,λh=>Ω⟩
 |some p=>
  simp only;refine cm Ω ?_;obtain⟨x,y,z,B,a6,C,L,E,m,G,q,H,I,J⟩:=(h.ext a).1.parts;rw[aO cE.p 1 m rfl];refine (nN (i:=p) q rfl (by rw[h.2.1];exact (tp h.2.2.2.1 f).1)).mono ?_;rintro _ V _ ⟨rfl,r⟩;exact⟨rfl,a.trans r⟩
end
theorem eK.parts {a:Nat} {e f p:x1} {A R:ak} {n:aR} {s:av} {t:aB} (h:eK w ad ag a e f p A R n s t):∃a6 j L m,af w ad cE [Γ a,Γ ag,e,f,p]/\fU w a n/\dt w ag m t/\au .i64 ai w a6 e (h7 s)/\bg lT 3 ed w j f L/\ki R w L s:=by
 obtain⟨_,a6,j,ge,L,E,m,w0,q,⟨r,x,F⟩,⟨y,G,H,I⟩,z,⟨B,C⟩,J,K⟩:=h;exact⟨a6,j,L,m,q,r.ext x,y,z,B,C⟩
theorem wT {b:Int} (e:0<=a/\a<=k) (f:0<=b/\b<=k) (hk:1<=k/\k<=2147483648):am x7 uL [Δ a,Δ b,Δ k] w λv w'=>v= .tuple #[Δ (min (a+b) k),Δ 0]/\Ext w w':=by
 refine vC.mono ?_;rintro _ U _ ⟨rfl,I⟩;refine⟨?_,I⟩;unfold nB;rw[if_pos ⟨⟨hk,e.1,e.2⟩,hk,f.1,f.2⟩]
theorem Ou {s:av} {p:Nat} (a:bq k sizes s) (h:fK s j tl=σ p):0<=hb s j tl/\hb s j tl<=k:=by
 obtain⟨_,f,ae,_,m,hm,e,_⟩:=tp a h;obtain⟨q,_,_⟩:=a.funs f (x5 ae);unfold hb bn;rw[ae];simp only[hm];rw[u6,v8,x6 e,V1];exact q.hv _ (T9 e)
theorem Ov {A R:ak} {n:aR} {s:av} {t:aB} {ba:x1} {a:Λ} (h:bx w ad ag A R n s t) (X:aF .i64 w ba a):am x7 FU [Γ ad,ba] w λv w'=>((h6 s a->v= .tuple #[Δ (fj n.k s a),Δ 0])/\(¬h6 s a->v= .tuple #[Δ 0,Δ 3]))/\Ext w w':=by
 have K:=h.2.2.2.1;have cZ:=K.vars;have hk:=K.eh;refine az func24 ?_;rw[c5 dy.u];simp only[b9,aY];rw[aU an.u X];refine (wQ h).mono ?_;rintro _ U _ ⟨rfl,aJ⟩;rw[bz,al];refine⟨λc0=>⟨⟨λQ=>absurd Q.1 Ω,λ_=>by trivial⟩,aJ⟩,λc1=>?_⟩;have bV:a.length=s.vars.length:=Ω
 refine (qO (h.ext aJ)).mono ?_;rintro _ V _ ⟨rfl,bW⟩;have bh:=aJ.trans bW;rw[aU an.u (X.ext bh)];obtain⟨C,ao⟩:∃C,C=s.vars.zip a:=⟨_,rfl⟩;have c2:C.length=a.length:=by rw[ao,List.length_zip];omega
 refine oh.range a.length (λi t4 t5 H ap M=>Ext w M/\ ∃B:Int,H=Δ B/\B=(C.take i).foldl (kg n.k) s.zero/\(0<=B/\B<=n.k)/\ap= .bool ((C.take i).all eJ)/\ ∀p<i,∀x v,s.vars[p]? =σ x->a[p]? =σ v->x.gone≠0\/(0<=v/\v<x.un.length)) X.le
  ⟨bh,s.zero,rfl,rfl,K.zero,rfl,λp J=>Ω⟩ ?_ ?_
 .rintro i t4 t5 _ _ M bY hi ⟨G,B,rfl,aq,aw,rfl,aK⟩ bZ;obtain⟨x,N⟩:=aH (l:=s.vars) (i:=i) Ω;obtain⟨v,ac⟩:=aH (l:=a) hi;obtain⟨z,aL⟩:=aH (l:=n.sizes) (i:=i) Ω;have c3:=K.fk.2.2 z (x5 aL);obtain⟨c4,b0,_⟩:=K.var i x z N aL;have b1:C[i]? =σ (x,v):=by rw[ao,S1];exact⟨N,ac⟩
  have bk:C.take (i+1)=C.take i++[(x,v)]:=by rw[u9,b1];rfl
  have Y:(C.take (i+1)).foldl (kg n.k) s.zero=kg n.k B (x,v):=by rw[bk,U9,<-aq];rfl
  have aP:(C.take (i+1)).all eJ=((C.take i).all eJ&&eJ (x,v)):=by rw[bk,List.all_append];simp
  have bl:(x.gone≠0\/(0<=v/\v<x.un.length))-> ∀p<i+1,∀x v,s.vars[p]? =σ x->a[p]? =σ v->x.gone≠0\/(0<=v/\v<x.un.length):=λaG p J y u S hu=>by
   by_cases b2:p=i
   .subst b2;rw[N] at S;rw[ac] at hu;cases S;cases hu;exact aG
   .exact aK p Ω y u S hu
  refine bE Ω ?_;refine vf (λt4 t5 H ap M=>Ext w M/\ ∃B:Int,H=Δ B/\B=(C.take (i+1)).foldl (kg n.k) s.zero/\(0<=B/\B<=n.k)/\ap= .bool ((C.take (i+1)).all eJ)/\ ∀p<i+1,∀x v,s.vars[p]? =σ x->a[p]? =σ v->x.gone≠0\/(0<=v/\v<x.un.length)) ?_ ?_
  .rintro t4 t5 H ap c6 aQ;rw[aM];exact bZ _ _ _ _ _ aQ
  intro ay Z;rw[be an.u ai.i Ψ (X.ext G) ac];refine (tm (i:=(i:Int)) (h.ext G)).mono ?_;rintro _ c7 _ ⟨rfl,bm⟩;have b3:iG s i=decide (x.gone≠0):=by unfold iG;rw[N]
  rw[decide_eq_true Ω,U3,u6,b3,al];refine⟨λaS=>Z _ _ _ _ _ ⟨G.trans bm,B,rfl,?_,aw,?_,bl (.inl aS)⟩,λaW=>?_⟩
  .rw[Y];unfold kg;rw[if_pos aS]
  .rw[aP];unfold eJ;rw[decide_eq_true aS,Bool.true_or,Bool.and_true]
  have bo:=G.trans bm;refine (nW (i:=(i:Int)) (v:=v) (h.ext bo)).mono ?_;rintro _ c8 _ ⟨rfl,b4⟩;have ax:=bo.trans b4;have bp:n.sizes.getD (i:Int).toNat 0=z:=by rw[u6,v8,aL];rfl
  by_cases aA:eL n (i:Int) v
  .have bq:=id aA;unfold eL at bq;rw[bp] at bq;rw[if_pos aA,bi,bj,bz,al];refine⟨λh=>absurd rfl h,λ_=>?_⟩;have b5:gM s (i:Int).toNat v.toNat=x.un.getD v.toNat 0:=by unfold gM;rw[u6,N]
   have b6:0<=x.un.getD v.toNat 0/\x.un.getD v.toNat 0<=n.k:=by
    rw[v8,x6 (show v.toNat<x.un.length by omega),V1];exact b0 _ (T9 _)
   rw[b5];refine aV (λb7 br=>Ext w br/\b7= .bool ((C.take (i+1)).all eJ)) ?_ ?_
   .rintro _ br ⟨bt,rfl⟩;refine (jL (h.ext bt)).mono ?_;rintro _ c9 _ ⟨rfl,b8⟩;refine (wT aw b6 hk).mono ?_;rintro _ da _ ⟨rfl,ca⟩;rw[bi,bj];refine Z _ _ _ _ _ ⟨(bt.trans b8).trans ca,_,rfl,?_,⟨Ω,Ω⟩,rfl,bl (.inr ⟨Ω,Ω⟩)⟩;rw[Y];unfold kg;rw[if_neg aW]
   .intro db bu;rw[cb];have cc:eJ (x,v)= !dropped x.mask v:=by unfold eJ;rw[decide_eq_false aW,Bool.false_or]
    refine⟨λcd=>?_,λae=>bu _ _ ⟨ax,by rw[aP,ae];rfl⟩⟩;refine (kr (i:=(i:Int)) (h.ext ax)).mono ?_;rintro _ dc _ ⟨⟨b,m,rfl,ce,_,cg⟩,ci⟩;refine (wO ce).mono ?_;rintro _ dd _ ⟨rfl,cj⟩;refine bu _ _ ⟨(ax.trans ci).trans cj,?_⟩;obtain⟨hm,cl⟩:=cg x Ω (by rw[u6];exact N);rw[aP,cd,cc,U3,decide_eq_true (show 0<=v/\v<(m:Int) by omega),U3,cl,decide_eq_true Ω,U3];congr 2
  .rw[if_neg aA,bi,bj,bz,al];refine⟨λ_=>⟨⟨λQ=>?_,λ_=>by trivial⟩,ax⟩,λh=>absurd (show (1:Int)≠0 by decide) h⟩;rcases Q.2 i x v N ac with aX|aX
   .exact absurd aX aW
   .exact absurd ⟨Ω,Ω,aX.1,by rw[bp];omega⟩ aA
 rintro t4 t5 _ _ M bY ⟨G,B,rfl,aq,aw,rfl,aK⟩;have Q:h6 s a:=⟨bV,λi x v I ac=>aK i (x4.1 ac).1 x v I ac⟩;rw[j9 Ω] at aq;rw[j9 Ω];refine cm Ω ?_;rw[bI,cb];refine⟨λO=>?_,λO=>?_⟩
 .have O:C.all eJ=false:=by simpa using O
  refine (jL (h.ext G)).mono ?_;rintro _ de _ ⟨rfl,cn⟩;refine⟨⟨λ_=>?_,λaZ=>absurd Q aZ⟩,G.trans cn⟩;unfold fj;rw[<-ao,O];rfl
 have O:C.all eJ=true:=by simpa using O
 have cp:fj n.k s a=s.funs.foldl (je n.k a) B:=by
  unfold fj;rw[<-ao,O,if_pos rfl,<-aq]
 obtain⟨⟨df,dg,dh,di,cq⟩,dj⟩:=id h;have a1:∀ {w':x3},Ext w w'->bx w' ad ag A R n s t:=λI=>h.ext I;obtain⟨a6,dk,L,dl,cr,dm,dn,dp,a2,bw⟩:=(cq.ext G).parts;rw[aO cE.p 3 cr rfl,e9 e5.u a2];have dq:=bw.1;refine bX.range L.length (λj H af=>Ext M af/\ ∃E:Int,H=Δ E/\E=(s.funs.take j).foldl (je n.k a) B/\0<=E/\E<=n.k) a2.le
  ⟨Ext.refl _,B,rfl,rfl,aw⟩ ?_ ?_
 rotate_left
 .rintro _ af ct ⟨P,E,rfl,aC,_⟩;rw[j9 Ω] at aC;rw[aN,al];refine⟨λh=>Ω,λ_=>⟨⟨λ_=>by rw[cp,aC],λaZ=>absurd Q aZ⟩,G.trans P⟩⟩
 rintro j _ af ct bA ⟨P,E,rfl,aC,bB⟩ cu;obtain⟨y,S⟩:=aH (l:=L) bA;obtain⟨f,ae⟩:=aH (l:=s.funs) (i:=j) Ω;have cw:ki R af L s:=bw.ab (P.ab λ_=>False) λ_ _ _ h=>h;obtain⟨aD,a7,ds⟩:=cw.2 j y f S ae;have aD:=aD.ls;have a7:=a7.ls;obtain⟨a8,dt,du⟩:=K.funs f (x5 ae);have dv:f.sc.length<=6:=a8.scope.2;have Y:(s.funs.take (j+1)).foldl (je n.k a) B=je n.k a E f:=by
  rw[u9,ae,l7,U9,<-aC];rfl
 have cz:=G.trans P;have bC:=a2.ext P;refine bE Ω ?_;refine aV (λH bD=>Ext M bD/\ ∃E:Int,H=Δ E/\E=(s.funs.take (j+1)).foldl (je n.k a) B/\0<=E/\E<=n.k) ?_ ?_
 .rintro H bD aQ;rw[aM];exact cu _ _ aQ
 intro ay Z;rw[dr rfl e5.u ed.i bC bA,bO ed.p ed.i rfl (bC.range S)];refine bG ed.i λdw dx dz cA cB=>?_;refine ck (vs:=lT y) ed.i rfl rfl (λu hu=>?_) cB λcC cD dA cF=>?_
 .simp[lT] at hu;rcases hu with rfl|rfl|rfl
  .exact aD.cells.2
  .exact a7.cells.2
  .rfl
 have bF:Ext af cC:=cA.put cD Ω;have bH:=cz.trans bF;refine (qP (j:=(j:Int)) (a1 bH)).mono ?_;rintro _ cG _ ⟨rfl,bb⟩;have bJ:=bH.trans bb;have bc:=bF.trans bb;have cH:e3 s j=decide (f.live≠0):=by unfold e3;rw[ae]
 rw[decide_eq_true Ω,U3,u6,cH,al];refine⟨λbK=>?_,λcI=>Z _ _ ⟨P.trans bc,E,rfl,by rw[Y];unfold je;rw[if_neg cI],bB⟩⟩;have bL:=cF.ext bb;have bd:=aD.ext bc;rw[aT ed.p 0 bL rfl,aU an.u bd];refine iU (k:=.i64) an.u ai.i Ω Ω λah cJ dC bf cK=>?_;have cL:au .i64 ai cJ ah (.slice (σ ⟨ah,0,ν⟩) f.sc.length f.sc.length) (r9 f.sc.length 0):=au.of (bT.full (k:=1) (n:=f.sc.length) cK Ξ (by simp[maxLen];omega));rw[aT ed.p 0 (bL.ext bf) rfl,aU an.u (bd.ext bf)];have dD:(jd a f.sc).length=f.sc.length:=by unfold jd;rw[u7]
 refine ch.range f.sc.length (λq aE=>Ext cG aE/\au .i64 ai aE ah (.slice (σ ⟨ah,0,ν⟩) f.sc.length f.sc.length) ((jd a f.sc).take q++(r9 f.sc.length (0:Int)).drop q)) Ω
  ⟨bf,by simpa using cL⟩ ?_ ?_
 .rintro q aE cM bM ⟨W,aj⟩ cN;obtain⟨u,hu⟩:=aH (l:=f.sc) bM;have dE:=a8.vars u (x5 hu);have dF:=a8.scope.1 u (x5 hu);have cO:a[u.toNat]? =σ (a.getD u.toNat 0):=by rw[v8,x6 Ω];rfl
  have cP:(jd a f.sc)[q]? =σ (a.getD u.toNat 0):=by unfold jd;rw[x8,hu];rfl
  refine bE Ω ?_;rw[be an.u ai.i Ψ (bd.ext W) hu,fx (y:=u) (i:=u.toNat) Ω an.u ai.i Ψ (X.ext (bJ.trans W)) cO,hn rfl an.u ai.i aj (by rw[p9,l9,List.length_drop,List.length_replicate];omega)];refine ho ai.i aj (by rw[p9,l9,List.length_drop,List.length_replicate];omega) λdG cQ dH bN=>?_;rw[aM];refine cN _ ⟨W.then cQ λr dI he=>by have he:r=ah:=he;omega,?_⟩;rw[te (by rw[List.length_replicate];exact bM) cP] at bN;exact bN
 rintro aE cM ⟨W,aj⟩;rw[List.drop_of_length_le Ξ,U2,j9 Ω] at aj;refine cm Ω ?_;have bP:=bJ.trans W;refine (tq (j:=j) (a1 bP) aj.ls).mono ?_;rintro _ bg _ ⟨rfl,bQ⟩;have cR:je n.k a E f=min (E+hb s j (jd a f.sc)) n.k:=by
  unfold je hb;rw[if_pos bK,ae]
 have bR:∀c e:Int,(0<=c/\c<=n.k)->c=hb s j (jd a f.sc)->(aa x7 (Z4 (.tuple #[Δ c,Δ e]) 0) bg λcS=>
   aa x7 (Z4 (.tuple #[Δ c,Δ e]) 1) bg λdJ=>
   am x7 y3 [Γ ad] bg λcT bS=>
   am x7 uL [Δ E,cS,cT] bS λbU aI=>
   aa x7 (Z4 bU 0) aI λcU=>
   aa x7 (Z4 bU 1) aI λdK=>
   ay cU aI):=λc e cV cW=>by
  rw[bi,bj];refine (jL (a1 (bP.trans bQ))).mono ?_;rintro _ bS _ ⟨rfl,cX⟩;refine (wT bB cV hk).mono ?_;rintro _ aI _ ⟨rfl,cY⟩;rw[bi,bj];refine Z _ _ ⟨((((P.trans bc).trans W).trans bQ).trans cX).trans cY,_,rfl,by rw[Y,cR,cW],Ω,Ω⟩
 cases J:fK s j (jd a f.sc) with
 |some p=>exact bR _ _ (Ou K J) rfl
 |none=>
  refine bR 0 1 ⟨Ω,Ω⟩ ?_;unfold fK at J;rw[ae] at J;simp only[if_pos bK] at J;have J:=Option.map_eq_none_iff.1 J;unfold hb bn;rw[ae];simp only[J]
def Room (t:aB):Prop:=t.marks=[]\/t.olds.length<100000000
def cd (s:av) (i v:Nat):av:=match s.vars[i]? with
 |some x=>{s with vars:=s.vars.set i {x with mask:=((x.mask.toNat ||| 2 ^ v:Nat):Int)}}
 |none=>s
theorem bq.tr {s:av} {i:Nat} {x y:br} (h:bq k sizes s) (I:s.vars[i]? =σ x) (j:y.un.length=x.un.length) (m:∀c∈y.un,0<=c/\c<=k) (hm:0<=y.mask/\y.mask<4294967296):bq k sizes {s with vars:=s.vars.set i y}:=
 ⟨h.eh,h.fk,h.zero,by show (s.vars.set i y).length=_;rw[Z2];exact h.vars,λp z q a e=>by
  have a:(s.vars.set i y)[p]? =σ z:=a;rw[Y3] at a;by_cases f:i=p
  .subst f;rw[if_pos rfl,if_pos (x4.1 I).1] at a;cases a;exact⟨j.trans (h.var i x q I e).1,m,hm⟩
  .rw[if_neg f] at a;exact h.var p z q a e,h.funs⟩
theorem bq.DJ {s:av} {f g:cz} (h:bq k sizes s) (ae:s.funs[j]? =σ f) (h1:g.sc=f.sc) (a:g.aj=f.aj) (e:g.cs.length=f.cs.length) (m:∀c∈g.cs,0<=c/\c<=k):bq k sizes {s with funs:=s.funs.set j g}:=
 ⟨h.eh,h.fk,h.zero,h.vars,h.var,λx I=>by
  rcases X6 I with I|rfl
  .exact h.funs x I
  .obtain⟨⟨p,q,r,w,y,B⟩,z,A⟩:=h.funs f (x5 ae);refine⟨⟨?_,?_,?_,?_,?_,m⟩,?_,?_⟩
   .show jc x.sc;rw[h1];exact p
   .show x.sc.Pairwise _;rw[h1];exact q
   .show ∀v∈x.sc,_;rw[h1];exact r
   .show x.cs.length=(aK (bV sizes x.sc)).toNat;rw[h1,e];exact w
   .show aK (bV sizes x.sc)<=_;rw[h1];exact y
   .rw[h1,a];exact z
   .rw[h1];exact A⟩
theorem Ow {r:Nat} {c:List x1} (a:af w r e c) (he:¬(e=fu\/e=eD\/e=kI\/e=gh\/e=cE\/e=ed\/e=uX)):¬ev w r:=by
 rintro (⟨m,p,f,h⟩|j)
 .rw[fa a f] at he;exact he h
 .exact j _ a rfl
section
variable {w:x3} {ad ag:Nat} {A R:ak} {n:aR} {s:av} {t:aB}
theorem mz.set (h:mz t) (a:Room t) (p:Nat) (x:Int):mz (t.set p x):=by
 refine⟨by rw[aB.C2];exact h.1,?_,by rw[aB.wr];exact h.2.2⟩;rcases a with a|a
 .rw[aB.ws a];exact h.2.1
 .have:=aB.C3 t p x;omega
theorem DK {s':av} {p:Nat} {x:Int} (h:bx w ad ag A R n s t) (m:y=(p:Int)) (a:p<s.cells.length) (q:s.cells.set p x=s'.cells) (J:nO s s') (z:bq n.k n.sizes s') (B:Room t):
  am x7 y7 [Γ ag,Δ y,Δ x] w λr w'=>r=Δ 0/\ah (ev w) w w'/\ ∃aQ,Grow A w aQ w'/\bx w' ad ag aQ R n s' (t.set p x):=by
 obtain⟨C,ac,j,_,E⟩:=id h;obtain⟨G,H,I⟩:=C.qK;have K:p<t.cells.length:=by rw[<-ac] at a;unfold aB.bP at a;rw[u7] at a;exact a
 refine (s7 H.min m K j).mono ?_;rintro _ U _ ⟨rfl,L,e,M⟩;obtain⟨aQ,N,O⟩:=I (λr=>G r\/L r) U _ ⟨e.1.mono λr _ h=>h.1,λr f=>f.elim .inl λh=>(e.2.1 r h).imp (λh=>h.1) id,λr f=>.inl f⟩ (M.mono λr h=>.inr h);exact⟨rfl,e.1.mono λr _ h=>.inl h.2,aQ,N,O.same J,by rw[aB.p0,ac,q],j.set B p x,z,E⟩
theorem ts {i:Int} (h:bx w ad ag A R n s t) (I:Room t):am x7 FR [Γ ad,Δ i,Δ v] w λr w'=>(¬eL n i v->r=Δ 1/\Ext w w')/\
  (eL n i v->r=Δ 0/\ah (ev w) w w'/\ ∃aQ x,Grow A w aQ w'/\bx w' ad ag aQ R n (cd s i.toNat v.toNat) (t.set (fG s i.toNat+1) x)):=by
 refine az func21 ?_;rw[c5 dy.u];simp only[b9,aY];refine (wS h).mono ?_;rintro _ U _ ⟨rfl,f⟩;by_cases e:eL n i v
 rotate_left
 .rw[if_neg e,aN,al];exact⟨λ_=>⟨λ_=>⟨by trivial,f⟩,λh=>absurd h e⟩,λh=>Ω⟩
 rw[if_pos e];refine cm Ω ?_;obtain⟨x,a,J,aa,ab⟩:=e.var h.2.2.2.1;obtain⟨h1,ac,ae,af⟩:=id e;have aj:=h.2.2.2.1.vars;obtain⟨z,K⟩:=aH (l:=n.sizes) (i:=i.toNat) Ω;obtain⟨_,M,ak,ao⟩:=h.2.2.2.1.var i.toNat x z a K;have ap:=tj a;have aq:=pk h.2.1 h.2.2.1;obtain⟨au,av,aw,ax,N⟩:=(h.ext f).1;obtain⟨a6,ay,L,aA,C,aB,O,P,aC,aD⟩:=N.parts;rw[aO cE.p 2 C rfl,fx (y:=i) (i:=i.toNat) Ω an.u ai.i Ψ P.ls (ti Ω),aM,wrap_i64 Ω Ω];intro V j _ _;have Q:=f.trans j;have E:=C.ext j;have S:=O.ext j;obtain⟨q,rfl⟩:∃q:Nat,v=q:=⟨v.toNat,Ω⟩;obtain⟨mk,G⟩:∃mk:Nat,x.mask=mk:=⟨x.mask.toNat,Ω⟩;rw[u6] at J;rw[aO cE.p 1 E rfl,aO cE.p 1 E rfl,Oq Ω];have W:t.bP[fG s i.toNat+1]? =σ x.mask:=by rw[h.2.1,qH a Ω];rfl
 refine (nN (i:=fG s i.toNat+1) S Ω W).mono ?_;rintro _ aE _ ⟨rfl,H⟩;refine⟨.inl H,?_⟩;have aF:(2:Nat) ^ q<=2 ^ 31:=T7 Ω Ω;rw[G,Oo Ω Ω];have m:=Q.trans H;have aG:mk ||| 2 ^ q<2 ^ 32:=Nat.or_lt_two_pow Ω Ω;have B:cd s i.toNat (q:Int).toNat={s with vars:=s.vars.set i.toNat {x with mask:=((mk ||| 2 ^ q:Nat):Int)}}:=by
  unfold cd;rw[a];simp only[G,u6]
 refine (DK (p:=fG s i.toNat+1) (s':=cd s i.toNat (q:Int).toNat) (h.ext m) Ω Ω ?_ ?_ ?_ I).mono ?_
 .rw[B,CU a Ω];rfl
 .rw[B];exact C0 a rfl
 .rw[B];exact h.2.2.2.1.tr a rfl M ⟨by simp only;omega,by simp only;omega⟩
 rintro _ aI _ ⟨rfl,X,aQ,Y,Z⟩;exact⟨λh=>absurd e h,λ_=>⟨rfl,jI m X,aQ,_,(Grow.ext m).trans Y,Z⟩⟩
end
theorem wU {f:x1} (h:aF .i64 w f l):am x7 GL [f,Δ v] w λr w'=>r= .bool (decide (v∈l))/\Ext w w':=by
 refine az func107 ?_;rw[aU an.u h];refine bX.range l.length (λi _ U=>Ext w U/\v∉l.take i) h.le ⟨Ext.refl _,Ξ⟩ ?_ ?_
 .rintro i _ U k hi ⟨I,a⟩ hk;obtain⟨x,e⟩:=aH (l:=l) hi;refine bE Ω ?_;rw[be an.u ai.i Ψ (h.ext I) e,bh,al];refine⟨λhe=>⟨by rw[decide_eq_true];rw[<-he];exact x5 e,I⟩,λj=>?_⟩;rw[aM];refine hk _ _ ⟨I,λhm=>?_⟩;rw[u9,e,l7,o7,o9] at hm;rcases hm with hm|hm
  .exact a hm
  .exact j hm.symm
 .rintro _ U k ⟨I,a⟩;rw[o5] at a;rw[aN,al];exact⟨λh=>Ω,λ_=>⟨by rw[decide_eq_false a],I⟩⟩
theorem Ox {x:br} (h:0<=v/\v<x.un.length):v∈aE x↔dropped x.mask v=false:=by
 unfold aE;rw[T6,n9];constructor
 .rintro⟨_,a⟩;simpa using a
 .intro a;exact⟨⟨v.toNat,List.mem_range.2 Ω,Ω⟩,by simp[a]⟩
def dl (s:av):Prop:=∀f∈s.funs,f.live≠0-> ∀v∈f.sc,∀x,s.vars[v.toNat]? =σ x->x.gone=0
theorem fU.put {g s:Nat} {c:List x1} {n:aR} (h:fU w s n) (a:af w g bc c) (f:ah (λr=>r=g) w w'):fU w' s n:=by
 have m:=Dy a;have x:∀r,r=g-> ∃e c,af w r e c/\e≠hj/\e≠cX/\e≠ai/\e≠ap/\e≠ax:=λr j=>by
  subst j;exact⟨_,c,a,Φ,Φ,Φ,Φ,Φ⟩
 obtain⟨y,z,A,B,gr,aX,L,nm,szv,gz,fv2,h1,C,E,F,G,H,I⟩:=h;refine⟨y,z,A,B,gr,aX,L,nm,szv,gz,fv2,wL h1 f m Φ,wL C f m Φ,wK E f m Φ,F.ab f λr j=>?_,G,H.ab f λr j=>?_,I⟩
 .obtain⟨e,c,a,_,_,_,p,q⟩:=x r j;exact⟨e,c,a,p,q⟩
 .obtain⟨e,c,a,p,q,J,K,_⟩:=x r j;exact⟨e,c,a,p,q,J,K⟩
theorem StateM.put {g:Nat} {A R:ak} {n:aR} {s:av} {t:aB} {c:List x1} (h:StateM w ad ag A R n s t) (q:af w g bc c) (m:ah (λr=>r=g) w w') (Q:¬A g):∃R',(∀r,R' r->R r/\r≠g)/\StateM w' ad ag A R' n s t:=by
 obtain⟨S,U,V,W,⟨h1,X,Y,Z⟩,a6,aa,ge,L,E,ac,w0,ai,⟨H,B,aj⟩,⟨al,K,am,an⟩,ao,⟨ap,M⟩,aq,N⟩:=h;obtain⟨ct,O⟩:=CN;have z:=m.size;have p:=Dy q;have y:∀r,(w0.heap.setIfInBounds g ct)[r]? =if g=r then (if g<w0.heap.size then σ ct else ν) else w0.heap[r]?:=λr=>Array.getElem?_setIfInBounds;have au:∀r,A r->r≠g:=λr a he=>Q (he▸a);have int:∀ {v:x1} {l:Λ},iC R w v l->iC (λr=>R r/\r≠g) w' v l:=λ⟨⟨aw,hm⟩,ax⟩=>⟨⟨aw,wK hm m p Φ⟩,λr a=>⟨ax r a,b4 hm q Φ a⟩⟩;refine⟨λr=>R r/\r≠g,λr h=>h,S,U,V,W,⟨h1,λr a ay=>X r a ay.1,λr a=>by have:=Y r a.1;omega,λr a=>by have:=Z r a;omega⟩,a6,aa,ge,L,E,ac,{w0 with heap:=w0.heap.setIfInBounds g ct},wL ai m p Φ,⟨?_,?_,?_⟩,
  ⟨al.ab m λr a=>au r (K r a),K,am,an⟩,wK ao m p Φ,⟨Dx ap m p Φ,M.1,λj x f I ae=>?_⟩,Dx aq m p Φ,N.1,λj x e I he=>?_⟩
 .by_cases J:∃o,w0.heap[g]? =σ o/\fm o=true
  .obtain⟨o,P,az⟩:=J;have aA:af w0 g bc c:=by
    unfold af at q ⊢;have:=B.aZ g o P az;rw[q] at this;rw[P,this]
   refine H.put aA ⟨Ξ,λr o a J aC=>?_⟩;show (w0.heap.setIfInBounds g ct)[r]? =σ o;rw[y,if_neg λhe=>aC he.symm];exact a
  .refine H.ext ⟨Ξ,λr o a aD=>?_⟩;show (w0.heap.setIfInBounds g ct)[r]? =σ o;rw[y,if_neg λhe=>J ⟨o,by rw[he];exact a,aD⟩];exact a
 .refine⟨by show (w0.heap.setIfInBounds g ct).size<=_;rw[Array.size_setIfInBounds];exact Y9 B.size z,λr o a J=>?_⟩;have a:(w0.heap.setIfInBounds g ct)[r]? =σ o:=a;rw[y] at a;by_cases he:g=r
  .rw[if_pos he] at a;split at a
   .cases a;rw[O] at J;cases J
   .cases a
  .rw[if_neg he] at a;exact m.aZ r o (B.aZ r o a J) J λh=>he h.symm
 .intro r o a J;have a:(w0.heap.setIfInBounds g ct)[r]? =σ o:=a;rw[y] at a;by_cases he:g=r
  .rw[if_pos he] at a;split at a
   .cases a;rw[O] at J;cases J
   .cases a
  .rw[if_neg he] at a;exact⟨aj r o a J,λh=>he h.symm⟩
 .obtain⟨C,F,G⟩:=M.2 j x f I ae;exact⟨int C,int F,G⟩
 .obtain⟨C,F,G⟩:=N.2 j x e I he;exact⟨C,int F,int G⟩
theorem Oy {pl:Λ} {f:bZ} (j:pl.length<=60000) (h:gm pl=σ f):∃N,N<=60000/\e8 N f/\f.name≠[]/\ ∀b∈f.name,bJ b=true:=by
 unfold gm at h;rw[if_neg Ω] at h;cases a:hG ⟨(lex pl).1,0,false,[]⟩ with
 |none=>rw[a] at h;cases h
 |some q=>
  obtain⟨m,s⟩:=q;rw[a] at h;simp only at h;split at h
  .rename_i aG;cases h;obtain⟨h1,e⟩:=Bb rfl a aG.2.2;have p:=pY pl.length pl (p8 _);obtain⟨U,V,_⟩:=r1 pl.length pl (p8 _) f.name e;exact⟨_,by show (lex pl).1.length<=60000;omega,h1,U,V⟩
  .cases h
theorem Oz:am x7 y2 [.pointer ν] w λv w'=>v= .pointer ν/\Ext w w':=by
 refine az func29 ?_;rw[c5 me.u];simp only[Option.isNone_none,bQ];exact⟨by trivial,Ext.refl _⟩
theorem OA {v:x1} (h:aF .u8 w v l) (A:l.length<=100000):am x7 FV [v] w λf w'=>Ext w w'/\ ∃g,au .u8 cD w' g f l:=by
 have e:=h;obtain⟨B,b,o,base,cap,rfl,C,hm,p,q⟩:=h;refine az func25 ?_;rw[rT cM.u,cb];refine⟨λs=>⟨Ext.refl _,0,?_⟩,λ_=>?_⟩
 .have:l=[]:=by
   cases base with
   |none=>
        by_cases e:0<l.length
        .have:=p e;cases this
        .exact c8 Ω
   |some a=>cases s
  subst this;exact au.nil _ _ _ _
 .refine wM (k:=.u8) cM.u cD.i λE g1 U G j m=>?_;refine gX cM.u cD.i rfl m (e.ext j) Θ Θ λf x V y H z=>?_;exact⟨j.then z (λr q he=>by have:=(bM m he).1;omega),x,by simpa using y⟩
def OB (sv:x1):Prop:=∃cs:List x1,sv= .agg cs.toArray/\cs.length=8/\ ∀u∈cs,u.oneCell'=true
theorem DL:OB (.agg z12.toArray):=⟨z12,rfl,rfl,by intro u hu;simp[z12] at hu;rcases hu with rfl|rfl|rfl|rfl<;>rfl⟩
theorem wV {N:Nat} {f:bZ} (a:e8 N f):(cP f).funs.length<=256:=by
 have h1:=(qv a).2.length_eq;have h:=(kZ a).2.2;have j:=List.length_filter_le fB (ff f);have m:=a.kS;have e:=(pf f (fC f).length).2.2.2;rw[s5] at e;omega
theorem OC {n:aR} {t:aB} (e:jG n) (ae:n.funs.length<=256) (ac:t.bP=(cS n).cells) (a:Plain t):mz t:=by
 have h1:=tc e ae n.unary.length n.funs.length;rw[wz,<-ac] at h1;unfold aB.bP at h1;rw[u7] at h1;refine⟨Ω,?_,?_⟩
 .rw[a.2.1];exact X3 _
 .rw[a.1];exact X3 _
def tt (B:Nat) (w:x3) (a:x1) (cs:List x1) (f:bZ):Prop:=∃ad ag A R t N A9 aI,e8 N f/\a=Γ ad/\bx w ad ag A R (cP f) (cS (cP f)) t/\Plain t/\(∀r,A r->B<=r)/\
 h9 true A9 aI w cs (cP f).k (cP f).sizes (cS (cP f))/\(∀q r,A9 q r->¬A r/\¬R r/\B<=r)/\(∀r,aI r->¬ev w r/\r<w.heap.size/\B<=r)/\ ∀r,R r->B<=r
def OD (w:x3) (q:Λ) (v:x1) (w':x3):Prop:=Ext w w'/\ ∃a cs ok,v= .tuple #[a,.agg cs.toArray,.bool ok]/\(cs.length=8/\ ∀u∈cs,u.oneCell'=true)/\((ok=false/\a= .pointer ν)\/(ok=true/\ ∃f,gm q=σ f/\tt w.heap.size w' a cs f))/\ ∀f,gm q=σ f->lR f.funs<=16384->ok=true
section
variable {w:x3} {ad ag:Nat} {A R:ak} {n:aR} {s:av} {t:aB}
theorem DM {j:Int} (h:bx w ad ag A R n s t) (m:¬(0<=j/\j<s.funs.length)):am x7 pL [Γ ad,Δ j] w λr w'=>r= .slice ν 0 0/\Ext w w':=by
 refine az func42 ?_;refine aV (λv U=>v= .bool true/\Ext w U) ?_ ?_
 .rintro _ U ⟨rfl,e⟩;rw[bQ];exact⟨rfl,e⟩
 intro ay a;rw[aN,al];refine⟨λ_=>a _ _ ⟨rfl,Ext.refl _⟩,λp=>?_⟩;refine (tk h).mono ?_;rintro _ q _ ⟨rfl,f⟩;rw[cO];exact a _ _ ⟨by rw[decide_eq_true Ω],f⟩
end
section
variable {w:x3} {B:Nat} {sv:x1} {k:Int} {sizes:Λ} {s:av}
end
def ib:List (Λ)->List (Λ)
 |[]=>[[]]
 |d::a=>d.flatMap λv=>(ib a).map (v:: ·)
theorem qQ:∀ {e:List (Λ)} {t:Λ},t∈ib e↔t.length=e.length/\ ∀ (p:Nat) d v,e[p]? =σ d->t[p]? =σ v->v∈d
 |[],t=>by
  simp only[ib,o9];exact⟨λh=>by subst h;exact⟨rfl,λp d v h=>by simp at h⟩,λh=>c8 h.1⟩
 |d::e,t=>by
  simp only[ib,List.mem_flatMap,n9];constructor
  .rintro⟨v,ac,bw,m,rfl⟩;obtain⟨h1,f⟩:=qQ.1 m;refine⟨by simp[h1],λp j u a hu=>?_⟩;cases p with
   |zero=>simp at a hu;subst a hu;exact ac
   |succ p=>exact f p j u (by simpa using a) (by simpa using hu)
  .rintro⟨h1,f⟩;cases t with
   |nil=>simp at h1
   |cons v bw=>exact⟨v,f 0 d v rfl rfl,bw,qQ.2 ⟨by simpa using h1,λp j u a hu=>f (p+1) j u (by simpa using a) (by simpa using hu)⟩,rfl⟩
def mF:List (Int->Bool)->Λ->Bool
 |q::a,v::t=>q v&&mF a t
 |_,_=>true
theorem DN:∀ (j:List (Λ)) (a:List (Int->Bool)),a.length=j.length->ib ((j.zip a).map λp=>p.1.filter p.2)=(ib j).filter (mF a)
 |[],[],_=>rfl
 |d::j,q::a,h=>by
  have m:=DN j a (by simpa using h);simp only[List.zip_cons_cons,U6,ib];rw[m];clear m h;induction d with
  |nil=>rfl
  |cons v d r=>
   rw[X5,List.filter_append,<-r];have e:((ib j).map (v:: ·)).filter (mF (q::a))=if q v then ((ib j).filter (mF a)).map (v:: ·) else[]:=by
    rw[List.filter_map];by_cases f:q v=true
    .rw[if_pos f];congr 1;apply List.filter_congr;intro t _;show (q v&&mF a t)=_;rw[f,U3]
    .rw[if_neg f];rw[List.filter_eq_nil_iff.2 λt _=>by show ¬(q v&&mF a t)=true;simp[f]];rfl
   rw[e];by_cases f:q v=true
   .rw[if_pos f,List.filter_cons_of_pos f,X5]
   .rw[if_neg f,List.filter_cons_of_neg f];rfl
def hc (k:Int):Λ:=(Z8 k.toNat).map λv:Nat=>(v:Int)
theorem tu:∀ (s:Λ),bk s=ib (s.map hc)
 |[]=>rfl
 |k::s=>by
  simp only[bk,U6,ib,hc,List.flatMap_map,<-tu s]
theorem qR:v∈hc k↔0<=v/\v<k:=by
 unfold hc;rw[n9];constructor
 .rintro⟨n,a,rfl⟩;have:=List.mem_range.1 a;omega
 .intro h;exact⟨v.toNat,List.mem_range.2 Ω,Ω⟩
def dx (f:Int->Int) (L:List (Λ)) (aj cs:Λ):Λ:=((bk aj).zip cs).map λp=>if p.1∈L then f p.2 else p.2
theorem nX (f:Int->Int) (L:List (Λ)) (aj cs:Λ) (h:cs.length<=(bk aj).length):(dx f L aj cs).length=cs.length:=by
 unfold dx;rw[u7,List.length_zip];omega
theorem pm {f:Int->Int} {i:Nat} (a:(bk aj)[i]? =σ t) (e:cs[i]? =σ c):(dx f L aj cs)[i]? =σ (if t∈L then f c else c):=by
 unfold dx;have h:((bk aj).zip cs)[i]? =σ (t,c):=S1.2 ⟨a,e⟩;rw[x8,h];rfl
theorem OE {f:Int->Int} {i:Nat} (J:dO aj) (p:cs.length<=(bk aj).length) (m:(bk aj)[i]? =σ t) (q:cs[i]? =σ c) (w:t∉L):(dx f L aj cs)[i]? =σ c/\(dx f L aj cs).set i (f c)=dx f (L++[t]) aj cs:=by
 have h1:=pm (f:=f) (L:=L) m q;rw[if_neg w] at h1;refine⟨h1,?_⟩;apply Y6;intro j;rw[Y3];by_cases r:i=j
 .subst r;rw[if_pos rfl,if_pos (x4.1 h1).1,pm m q,if_pos Ξ]
 .rw[if_neg r];cases a:cs[j]? with
  |none=>
   have:=List.getElem?_eq_none_iff.1 a;rw[Z6 (by rw[nX _ _ _ _ p];exact this),Z6 (by rw[nX _ _ _ _ p];exact this)]
  |some z=>
   obtain⟨u,hu⟩:∃u,(bk aj)[j]? =σ u:=⟨_,x6 (by have:=(x4.1 a).1;omega)⟩;rw[pm hu a,pm hu a];have x:u≠t:=λhe=>by
    subst he;have y:=jA J m;have s:=jA J hu;rw[y] at s;have:=j6 s;omega
   have:u∈L++[t]↔u∈L:=by simp[x]
   by_cases e:u∈L
   .rw[if_pos e,if_pos (this.2 e)]
   .rw[if_neg e,if_neg λh=>e (this.1 h)]
def kp (s:av) (i v:Nat) (c:Int):av:=match s.vars[i]? with
 |some x=>{s with vars:=s.vars.set i {x with un:=x.un.set v c}}
 |none=>s
def kq (s:av) (j m:Nat) (c:Int):av:=match s.funs[j]? with
 |some f=>{s with funs:=s.funs.set j {f with cs:=f.cs.set m c}}
 |none=>s
theorem qS {i:Nat} (h:∀x∈l,0<=x/\x<=k) (a:0<=c/\c<=k):∀x∈l.set i c,0<=x/\x<=k:=λx I=>by
 rcases X6 I with I|rfl
 .exact h x I
 .exact a
def mG (w:x3) (ad ag:Nat) (A R:ak) (n:aR) (s':av) (t:aB) (v:x1) (w':x3):Prop:=v=Δ 0/\ah (ev w) w w'/\ ∃aQ p x,Grow A w aQ w'/\bx w' ad ag aQ R n s' (t.set p x)
theorem mG.ext {U:x3} {A R:ak} {n:aR} {s':av} {t:aB} {v:x1} (I:Ext w U) (h:mG U ad ag A R n s' t v w'):mG w ad ag A R n s' t v w':=by
 obtain⟨h1,a,aQ,p,x,e,f⟩:=h;exact⟨h1,jI I a,aQ,p,x,(Grow.ext I).trans e,f⟩
section
variable {w:x3} {ad ag:Nat} {A R:ak} {n:aR} {s:av} {t:aB}
theorem qT (h:bx w ad ag A R n s t) (f:y<0\/¬(0<=c/\c<=n.k)):am x7 zt [Γ ad,Δ y,Δ c] w λv w'=>v=Δ (if y<0 then 1 else 3)/\Ext w w':=by
 refine az func229 ?_;rw[c5 dy.u];simp only[b9,aY];rw[aN,al];refine⟨λe=>⟨by rw[if_pos e],Ext.refl _⟩,λe=>?_⟩;refine (jL h).mono ?_;rintro _ U _ ⟨rfl,j⟩;refine (jx (a:=c) (k:=n.k)).mono ?_;rintro _ V _ ⟨rfl,m⟩;have p:=f.resolve_left e;rw[decide_eq_false (λh=>p h.2),bI,W5,bQ,if_neg e];exact⟨rfl,j.trans m⟩
theorem wW {s':av} {p:Nat} (h:bx w ad ag A R n s t) (f:Room t) (j:y=(p:Int)) (m:p<s.cells.length) (q:s.cells.set p c=s'.cells) (J:nO s s') (r:bq n.k n.sizes s') (x:0<=c/\c<=n.k):
  am x7 zt [Γ ad,Δ y,Δ c] w (mG w ad ag A R n s' t):=by
 refine az func229 ?_;rw[c5 dy.u];simp only[b9,aY];refine cm Ω ?_;refine (jL h).mono ?_;rintro _ U _ ⟨rfl,z⟩;refine (jx (a:=c) (k:=n.k)).mono ?_;rintro _ V _ ⟨rfl,B⟩;have e:=z.trans B;rw[decide_eq_true (show cn c n.k from⟨h.2.2.2.1.eh,x⟩),bI,Y7,aY];obtain⟨I,K,M,N,a6,O,L,P,C,Q,S,W,X,Y⟩:=(h.ext e).1.parts;rw[aO cE.p 1 C rfl];refine (DK (h.ext e) j m q J r f).mono ?_;rintro _ Z _ ⟨rfl,E,aQ,G,H⟩;exact mG.ext e ⟨rfl,E,aQ,_,_,G,H⟩
theorem OF (h:bx w ad ag A R n s t) (e:Room t):am x7 HL [Γ ad,Δ c] w λv w'=>(¬(0<=c/\c<=n.k)->v=Δ 3/\Ext w w')/\((0<=c/\c<=n.k)->mG w ad ag A R n {s with zero:=c} t v w'):=by
 refine az func183 ?_;by_cases a:0<=c/\c<=n.k
 .refine (wW (p:=0) h e rfl (by unfold av.cells iB;simp) (Ni s c) (CZ s c) ⟨h.2.2.2.1.eh,h.2.2.2.1.fk,a,h.2.2.2.1.vars,h.2.2.2.1.var,h.2.2.2.1.funs⟩ a).mono ?_;rintro v U _ f;exact⟨λh=>absurd a h,λ_=>f⟩
 .refine (qT h (.inr a)).mono ?_;rintro v U _ ⟨rfl,j⟩;exact⟨λ_=>⟨rfl,j⟩,λh=>absurd h a⟩
theorem DO {i:Int} (h:bx w ad ag A R n s t) (y:Room t):am x7 HI [Γ ad,Δ i,Δ v,Δ c] w λr w'=>
  (¬eL n i v->r=Δ 1/\Ext w w')/\(eL n i v->¬(0<=c/\c<=n.k)->r=Δ 3/\Ext w w')/\(eL n i v->(0<=c/\c<=n.k)->mG w ad ag A R n (kp s i.toNat v.toNat c) t r w'):=by
 refine az func179 ?_;refine (wS h).mono ?_;rintro _ U _ ⟨rfl,e⟩;by_cases a:eL n i v
 .rw[if_pos a];by_cases j:0<=c/\c<=n.k
  .obtain⟨x,f,G,H,_⟩:=a.var h.2.2.2.1;have I:=h.2.2.2.1.vars;obtain⟨z,B⟩:∃z,n.sizes[i.toNat]? =σ z:=⟨_,x6 (by have:=a.1;have:=a.2.1;omega)⟩;obtain⟨_,C,hm⟩:=h.2.2.2.1.var i.toNat x z f B;have J:=tj f;have m:kp s i.toNat v.toNat c={s with vars:=s.vars.set i.toNat {x with un:=x.un.set v.toNat c}}:=by unfold kp;rw[f]
   refine (wW (p:=fG s i.toNat+(2+v.toNat)) (s':=kp s i.toNat v.toNat c) (h.ext e) y Ω Ω ?_ ?_ ?_ j).mono ?_
   .rw[m];refine CU f Ω ?_;rw[show 2+v.toNat=v.toNat+1+1 by omega];rfl
   .rw[m];exact C0 f Ξ
   .rw[m];exact h.2.2.2.1.tr f Ξ (qS C j) hm
   .rintro r V _ E;exact⟨λh=>absurd a h,λ_ h=>absurd j h,λ_ _=>E.ext e⟩
  .refine (qT (h.ext e) (.inr j)).mono ?_;rintro r V _ ⟨rfl,q⟩;rw[if_neg Ω];exact⟨λh=>absurd a h,λ_ _=>⟨rfl,e.trans q⟩,λ_ h=>absurd h j⟩
 .rw[if_neg a];refine (qT (h.ext e) (.inl Ω)).mono ?_;rintro r V _ ⟨rfl,q⟩;rw[if_pos Ω];exact⟨λ_=>⟨rfl,e.trans q⟩,λh=>absurd h a,λh=>absurd h a⟩
theorem OG (h:bx w ad ag A R n s t) (B:Room t) (C:aF .i64 w aL tl):am x7 HH [Γ ad,Δ (j:Int),aL,Δ c] w λr w'=>
  (fK s j tl=ν->r=Δ 1/\Ext w w')/\((fK s j tl).isSome=true->¬(0<=c/\c<=n.k)->r=Δ 3/\Ext w w')/\
  ((fK s j tl).isSome=true->(0<=c/\c<=n.k)-> ∀f (m:Nat),s.funs[j]? =σ f->cJ f.aj tl 0=σ (m:Int)->mG w ad ag A R n (kq s j m c) t r w'):=by
 refine az func178 ?_;refine (DI h C).mono ?_;rintro _ U _ ⟨rfl,a⟩;cases E:fK s j tl with
 |none=>
  simp only;refine (qT (h.ext a) (.inl Ω)).mono ?_;rintro r V _ ⟨rfl,q⟩;rw[if_pos Ω];exact⟨λ_=>⟨rfl,a.trans q⟩,λh=>by simp at h,λh=>by simp at h⟩
 |some p=>
  simp only;by_cases e:0<=c/\c<=n.k
  .obtain⟨I,f,ae,J,m,hm,K,rfl⟩:=tp h.2.2.2.1 E;have L:=wP ae;have x:kq s j m c={s with funs:=s.funs.set j {f with cs:=f.cs.set m c}}:=by unfold kq;rw[ae]
   obtain⟨G,_⟩:=h.2.2.2.1.funs f (x5 ae);refine (wW (p:=eI s j+(m+1)) (s':=kq s j m c) (h.ext a) B rfl Ω ?_ ?_ ?_ e).mono ?_
   .rw[x];exact Nj ae Ω rfl
   .rw[x];exact Nt ae Ξ rfl rfl
   .rw[x];exact h.2.2.2.1.DJ ae rfl rfl Ξ (qS G.hv e)
   .rintro r V _ H;refine⟨(λh=>by cases h),λ_ h=>absurd e h,λ_ _ M ci y z=>?_⟩;rw[ae] at y;cases y;rw[hm] at z;have:ci=m:=by have:=j6 z;omega
    subst this;exact H.ext a
  .refine (qT (h.ext a) (.inr e)).mono ?_;rintro r V _ ⟨rfl,q⟩;rw[if_neg Ω];exact⟨(λh=>by cases h),λ_ _=>⟨rfl,a.trans q⟩,λ_ h=>absurd h e⟩
end
def fW (of:Int->Int) (p:Int×Int) (v:Int):Int×Int:=if p.2= -1\/of v<p.1 then (of v,v) else p
def cT (k:Int) (l:Λ) (of:Int->Int):Int×Int:=l.foldl (fW of) (k,-1)
theorem pn {s:av} {n:aR} {i:Int} {b:Nat} {x:br} (h:tn s n i b m) (e:0<=i) (I:s.vars[i.toNat]? =σ x):(gp b m).map (λv:Nat=>(v:Int))=aE x:=by
 obtain⟨_,_,f⟩:=h;obtain⟨rfl,j⟩:=f x e I;unfold gp aE;rw[List.filter_map];congr 1;refine List.filter_congr λq a=>?_;have a:=List.mem_range.1 a;rw[j,decide_eq_true a,U3];rfl
section
variable {w:x3} {ad ag:Nat} {A R:ak} {n:aR} {s:av} {t:aB}
theorem wX {b:Int} (h:bx w ad ag A R n s t) (f:0<=a/\a<=n.k) (j:0<=b/\b<=n.k):am x7 Gi [Γ ad,Δ a,Δ b] w λv w'=>v=Δ (min (a+b) n.k)/\Ext w w':=by
 refine az func59 ?_;refine (jL h).mono ?_;rintro _ U _ ⟨rfl,m⟩;refine (vC (a:=a) (b:=b) (k:=n.k)).mono ?_;rintro _ V _ ⟨rfl,p⟩;have hk:=h.2.2.2.1.eh;have e:nB a b n.k= .tuple #[Δ (min (a+b) n.k),Δ 0]:=by
  unfold nB;rw[if_pos (show cn a n.k/\cn b n.k from⟨⟨hk,f⟩,⟨hk,j⟩⟩)]
 rw[e,bi,bj];exact⟨rfl,m.trans p⟩
def eM (n:aR) (s:av) (i:Int):Bool:=decide (0<=i/\i<n.sizes.length)&& !iG s i.toNat
theorem DP {i:Int} (h:bx w ad ag A R n s t):am x7 Gd [Γ ad,Δ i] w λv w'=>v=Δ (if eM n s i=true then 0 else 1)/\Ext w w':=by
 refine az func52 ?_;rw[c5 dy.u];simp only[b9,aY];refine aV (λv U=>v= .bool (!eM n s i)/\Ext w U) ?_ ?_
 .rintro _ U ⟨rfl,a⟩;rw[cb];refine⟨λj=>⟨by rw[if_neg (by simpa using j)],a⟩,λj=>⟨by rw[if_pos (by simpa using j)],a⟩⟩
 intro ay p;refine (tm h).mono ?_;rintro _ U _ ⟨rfl,a⟩;rw[cb];refine⟨λe=>p _ _ ⟨?_,a⟩,λe=>?_⟩
 .rw[V0] at e;unfold eM;rw[e.2,Y7,Bool.and_false];rfl
 refine (kr (i:=i) (h.ext a)).mono ?_;rintro _ V _ ⟨⟨b,m,rfl,G,y,B⟩,C⟩;refine (vp (b:=b) (n:=m)).mono ?_;rintro _ H _ ⟨rfl,E⟩;rw[bh];refine p _ _ ⟨?_,(a.trans C).trans E⟩;congr 1;have I:=h.2.2.2.1.vars;unfold eM;by_cases f:0<=i/\i<n.sizes.length
 .obtain⟨x,q⟩:=aH (l:=s.vars) (i:=i.toNat) Ω;obtain⟨z,r⟩:=aH (l:=n.sizes) (i:=i.toNat) Ω;have h1:=(h.2.2.2.1.var i.toNat x z q r).1;have J:=h.2.2.2.1.fk.2.2 z (x5 r);have hm:=(B x f.1 q).1;rw[decide_eq_true f.1,U3] at e;rw[decide_eq_true f,e,decide_eq_false Ω];rfl
 .rw[decide_eq_false f,(y f).2];rfl
def po (w:x3) (a:Nat) (cap:Array x1) (l:Λ) (of:Int->Int):Prop:=∀ (w':x3) (v:Int),Ext w w'->v∈l->am x7 a (Δ v::cap.toList) w' λr e=>r=Δ (of v)/\Ext w' e
theorem wY {i:Int} {x:br} {of:Int->Int} {cap:Array x1} (h:bx w ad ag A R n s t) (M:Laid w) (aO:0<=i) (I:s.vars[i.toNat]? =σ x) (aP:po w C cap (aE x) of):
  am x7 Ge [Γ ad,Δ i,.func (.func C) #[] cap] w λr w'=>Ext w w'/\r= .tuple #[Δ (cT n.k (aE x) of).1,Δ (cT n.k (aE x) of).2]:=by
 refine iQ func53 ?_;refine bo λaq U be N E=>?_;have E:af U aq ox [.func (.func C) #[] cap]:=E;refine (jL (h.ext N)).mono ?_;rintro _ V _ ⟨rfl,G⟩;refine bG ap.i λO bf bg au av=>?_;refine bG ai.i λga bi bj P aw=>?_;have bk:=(N.trans G).size;have z3:=au.size;have z4:=P.size;refine bt (v:=Δ n.k) ap.i rfl rfl (av.ext P) Φ λbl ax bm aQ=>?_;have bn:=av.lt;have bp:=aw.lt;refine bt (v:=Δ (-1)) ai.i rfl rfl (aw.ab ax Ω) Φ λaR az bq aS=>?_;have aT:=aQ.ab az Ω;have aB:Ext V aR:=((au.trans P).then ax λr a he=>by have he:r=O:=he;omega).put az Ω;have aC:=(N.trans G).trans aB;refine (kr (i:=i) (h.ext aC)).mono ?_;rintro _ bu _ ⟨⟨b,m,rfl,Q⟩,aD⟩;refine (p7 (b:=b) (n:=m)).mono ?_;rintro _ W _ ⟨aU,a6,rfl,bw,X⟩;have bz:=Q.1;have aF:=pn Q aO I;have z:=aD.trans aU;have q:=aC.trans z;have bA:=q.size;have bB:=z.size;have bC:=E.lt;have bD:=aD.size;have z12:=G.size;obtain⟨S,H⟩:∃S:ak,S=λr=>r=O\/r=ga:=⟨_,rfl⟩;have J:∀r,S r->w.heap.size<=r:=λr a=>by rw[H] at a;rcases a with rfl|rfl<;>omega
 have Y:∀r,S r->r≠aq/\r≠a6:=λr a=>by rw[H] at a;rcases a with rfl|rfl<;>omega
 let st:Nat->Int×Int:=λj=>((aE x).take j).foldl (fW of) (n.k,-1);have aW:=E.ext (G.trans (aB.trans z));refine ln.old ⟨_,false,jZ,#[Γ a6],_,_,_,_,λj w'=>ah S W w'/\af w' O ap [Δ (st j).1]/\af w' ga ai [Δ (st j).2],λ_ _ _=>False,rfl,(p6 (g:=a6) Q.1).s,?_,
  λ_ _ I h=>⟨h.1.ext I,h.2.ext I⟩,λ_ _ _ I h=>⟨h.1.trans (I.ab S),h.2.1.ext I,h.2.2.ext I⟩,λ_ _ _ _ _ h=>h,⟨X,M.ext q⟩,⟨ah.refl _ _,aT.ext z,aS.ext z⟩,?_,?_,λ_ _ h=>h.elim,λ_ _ _ h=>h.elim⟩
 .rintro _ _ _ _ ⟨_,_,_,_,rfl⟩;rfl
 .rintro _ j _ aX ⟨_,_⟩ ⟨bE,rfl,v,ac,aY⟩ ⟨y,K,L⟩;cases aY;intro Z f _ _;have aG:(aE x)[j]? =σ (v:Int):=by rw[<-aF,x8,ac];rfl
  have aH:st (j+1)=fW of (st j) v:=by
   show ((aE x).take (j+1)).foldl _ _=_;rw[u9,aG,U9];rfl
  have aZ:Ext w Z:=((q.then y λr a h=>by have:=J r h;omega)).trans f;have a1:=(aW.ab y λh=>(Y _ h).1 rfl).ext f;rw[aA (v:=.func (.func C) #[] cap) Ψ (a1.Qz rfl)];refine am.mono (aP Z v aZ (x5 aG)) ?_;rintro _ aI _ ⟨rfl,aa⟩;have ae:=f.trans aa;have aj:=K.ext ae;have an:=L.ext ae;refine aV (λr ao=>r= .bool (decide ((st j).2= -1\/of v<(st j).1))/\Ext aI ao) ?_ ?_
  .rintro _ ao ⟨rfl,B⟩;have aJ:=ae.trans B;rw[al];refine⟨λa2=>?_,λa7=>?_⟩
   .refine bt (v:=Δ (of v)) ap.i rfl rfl (aj.ext B) Ξ λbF aK bH a8=>?_;refine bt (v:=Δ (v:Int)) ai.i rfl rfl ((an.ext B).ab aK Ω) Ξ λba aL bI bb=>?_;have bc:=a8.ab aL Ω;have p:ah S W ba:=((y.trans (aJ.ab S)).trans (aK.mono λr _ h=>by rw[H];exact .inl h)).trans (aL.mono λr _ h=>by rw[H];exact .inr h);have e:st (j+1)=(of v,(v:Int)):=by rw[aH];unfold fW;rw[if_pos a2]
    refine⟨⟨X.ab p λh=>(Y _ h).2 rfl,(M.ext (q.then p λr a h=>by have:=J r h;omega))⟩,⟨p,?_,?_⟩,λh=>by cases h⟩
    .rw[e];exact bc
    .rw[e];exact bb
   .have e:st (j+1)=st j:=by rw[aH];unfold fW;rw[if_neg a7]
    have p:ah S W ao:=y.trans (aJ.ab S);refine⟨⟨X.ab p λh=>(Y _ h).2 rfl,(M.ext (q.then p λr a h=>by have:=J r h;omega))⟩,⟨p,?_,?_⟩,λh=>by cases h⟩
    .rw[e];exact aj.ext B
    .rw[e];exact an.ext B
  .intro ay aM;rw[aA (v:=Δ (st j).2) Ψ (an.Qz rfl),bh,al];refine⟨λh1=>aM _ _ ⟨by rw[decide_eq_true (.inl h1)],Ext.refl _⟩,λh1=>?_⟩;rw[aA (v:=Δ (st j).1) Ψ (aj.Qz rfl),aN];refine aM _ _ ⟨?_,Ext.refl _⟩;congr 1;exact decide_eq_decide.2 ⟨.inr,λh=>h.resolve_left h1⟩
 .rintro k aX rfl ⟨y,K,L⟩;intro Z f _ _;have bd:st (gp b m).length=cT n.k (aE x) of:=by
   show ((aE x).take _).foldl _ _=_;rw[j9 (by rw[<-aF,u7];exact p8 _)];rfl
  rw[bd] at K L;rw[aA (v:=Δ (cT n.k (aE x) of).1) Ψ ((K.ext f).Qz rfl),aA (v:=Δ (cT n.k (aE x) of).2) Ψ ((L.ext f).Qz rfl)];intro aI aa _;exact⟨((q.then y λr a h=>by have:=J r h;omega).trans f).trans aa,rfl⟩
end
theorem DQ {x:br} (h:v∈aE x):0<=v/\v<x.un.length:=by
 unfold aE at h;obtain⟨h,_⟩:=T6.1 h;obtain⟨q,a,rfl⟩:=n9.1 h;have:=List.mem_range.1 a;omega
theorem DR {s:av} {n:aR} {i:Int} {b:Nat} {x:br} (h:tn s n i b m) (e:0<=i) (I:s.vars[i.toNat]? =σ x):(decide (0<=v/\v<m)&&b.testBit v.toNat)=decide (v∈aE x):=by
 obtain⟨_,_,f⟩:=h;obtain⟨rfl,j⟩:=f x e I;by_cases ac:0<=v/\v<x.un.length
 .rw[decide_eq_true ac,U3,j,decide_eq_true (show v.toNat<x.un.length by omega),U3,show ((v.toNat:Nat):Int)=v by omega];have:=Ox ac;cases a:dropped x.mask v with
  |false=>rw[decide_eq_true (this.2 a)];rfl
  |true=>rw[decide_eq_false λh=>by rw[this.1 h] at a;cases a];rfl
 .rw[decide_eq_false ac,decide_eq_false λh=>ac (DQ h)];rfl
def lW (s:av) (j:Nat) (tl:Λ):Int:=if (fK s j tl).isSome then hb s j tl else 0
def ez (n:aR) (s:av) (i v:Int):Int:=if eL n i v then gM s i.toNat v.toNat else 0
theorem DS {s:av} (a:bq k sizes s):0<=lW s j tl/\lW s j tl<=k:=by
 have hk:=a.eh;unfold lW;cases q:fK s j tl with
 |none=>simp;omega
 |some p=>
  obtain⟨r,f,ae,w,m,hm,h,rfl⟩:=tp a q;rw[T8,if_pos rfl];have e:hb s j tl=f.cs.getD m 0:=by
   unfold hb bn;rw[ae];simp only;rw[hm];rfl
  rw[e,v8,x6 h];exact (a.funs f (x5 ae)).1.hv _ (T9 h)
theorem pp {n:aR} {s:av} {i:Int} (a:bq n.k n.sizes s):0<=ez n s i v/\ez n s i v<=n.k:=by
 have hk:=a.eh;have m:=a.vars;unfold ez;split
 .rename_i h;obtain⟨x,e,f,_⟩:=h.var a;obtain⟨z,j⟩:∃z,n.sizes[i.toNat]? =σ z:=⟨_,x6 (by have:=(x4.1 e).1;omega)⟩;have:=(a.var i.toNat x z e j).2.1;unfold gM;rw[e];simp only;rw[v8,x6 f];exact this _ (T9 f)
 .omega
section
variable {w:x3} {ad ag:Nat} {A R:ak} {n:aR} {s:av} {t:aB}
theorem OH (h:bx w ad ag A R n s t) (f:aF .i64 w aL tl) (m:∀e w',Ext w w'->K (.tuple #[Δ (lW s j tl),Δ e]) w'):am x7 y4 [Γ ad,Δ (j:Int),aL] w K:=by
 refine (tq h f).mono ?_;rintro _ U _ ⟨rfl,a⟩;have:=m;unfold lW at this;split
 .rename_i J;rw[if_pos J] at this;exact this 0 U a
 .rename_i J;rw[if_neg J] at this;exact this 1 U a
theorem DT {i:Int} (h:bx w ad ag A R n s t) (f:∀e w',Ext w w'->K (.tuple #[Δ (ez n s i v),Δ e]) w'):am x7 y9 [Γ ad,Δ i,Δ v] w K:=by
 refine (nW h).mono ?_;rintro _ U _ ⟨rfl,a⟩;have:=f;unfold ez at this;split
 .rename_i J;rw[if_pos J] at this;exact this 0 U a
 .rename_i J;rw[if_neg J] at this;exact this 1 U a
theorem DU {i:Int} (h:bx w ad ag A R n s t):am x7 Gf [Γ ad,Δ i] w λr w'=>Ext w w'/\ ∃cap,r= .func (.func rK) #[] cap/\ ∀l,po w' rK cap l (ez n s i):=by
 refine az func54 ?_;refine bo λg1 U z q a=>?_;refine bo λx V B m f=>?_;rw[iR];have p:=q.trans m;refine⟨p,_,rfl,λl w' v j _=>?_⟩;refine az func126 ?_;have a:af U g1 dy [Γ ad]:=a;have f:af V x ai [Δ i]:=f;rw[aA (v:=Γ ad) Ψ (((a.ext m).ext j).Qz rfl),aA (v:=Δ i) Ψ ((f.ext j).Qz rfl)];refine DT (h.ext (p.trans j)) λe C y=>?_;rw[bi,bj];exact⟨rfl,y⟩
theorem qU {i:Int} (f:bq n.k n.sizes s) (h:eM n s i=true):0<=i/\ ∃x,s.vars[i.toNat]? =σ x/\x.gone=0:=by
 unfold eM at h;rw[V0] at h;have h1:=of_decide_eq_true h.1;have j:=f.vars;obtain⟨x,e⟩:=aH (l:=s.vars) (i:=i.toNat) Ω;have a:=h.2;unfold iG at a;rw[e] at a;exact⟨h1.1,x,e,by simpa using a⟩
theorem DV {i:Int} (h:bx w ad ag A R n s t) (m:Laid w):am x7 y0 [Γ ad,Δ i] w λr w'=>Ext w w'/\(eM n s i=false->r= .tuple #[Δ 0,Δ (-1),Δ 1])/\
  ∀x,eM n s i=true->s.vars[i.toNat]? =σ x->r= .tuple #[Δ (cT n.k (aE x) (ez n s i)).1,Δ (cT n.k (aE x) (ez n s i)).2,Δ 0]:=by
 refine az func15 ?_;refine (DP h).mono ?_;rintro _ U _ ⟨rfl,a⟩;cases ac:eM n s i with
 |false=>
  rw[if_neg Φ,bz,al];exact⟨λ_=>⟨a,λ_=>rfl,λ_ h=>by cases h⟩,λh=>absurd Φ h⟩
 |true=>
  obtain⟨p,x,f,_⟩:=qU h.2.2.2.1 ac;rw[if_pos rfl,bz,al];refine⟨λh=>absurd rfl h,λ_=>?_⟩;refine (DU (i:=i) (h.ext a)).mono ?_;rintro _ V _ ⟨q,cap,rfl,y⟩;have e:=a.trans q;refine (wY (h.ext e) (m.ext e) p f (y _)).mono ?_;rintro _ B _ ⟨z,rfl⟩;rw[bi,bj];exact⟨e.trans z,(λh=>by cases h),λC _ j=>by rw[f] at j;cases j;rfl⟩
theorem lX {f:cz} (h:bx w ad ag A R n s t) (ae:s.funs[j]? =σ f):am x7 pL [Γ ad,Δ (j:Int)] w λr w'=>Ext w w'/\ ∃g,w.heap.size<=g/\au .i64 ai w' g r f.sc:=by
 have G:=(x4.1 ae).1;refine az func42 ?_;refine aV (λv U=>v= .bool false/\Ext w U) ?_ ?_
 .rintro _ U ⟨rfl,a⟩;rw[aY];obtain⟨H,I,J,K,a6,M,L,N,x,O,P,Q,m,e⟩:=(h.ext a).1.parts;obtain⟨y,q⟩:∃y,L[j]? =σ y:=⟨_,x6 (by rw[e.1];omega)⟩;obtain⟨z,_,_⟩:=e.2 j y f q ae;rw[aO cE.p 3 x rfl,dr rfl e5.u ed.i m (by rw[e.1];omega),aW ed.p rfl,aA (v:=y.aP) Ψ (m.range q 0 _ rfl)];have S:f.sc.length<=6:=(h.2.2.2.1.funs f (x5 ae)).1.scope.2;refine (kP z.ls Ω).mono ?_;rintro v V _ ⟨B,g,W,hm⟩;have:=a.size;exact⟨a.trans B,g,Ω,hm⟩
 intro ay C;rw[aN,al];refine⟨λX=>Ω,λ_=>?_⟩;refine (tk h).mono ?_;rintro _ Y _ ⟨rfl,E⟩;rw[cO];exact C _ _ ⟨by rw[decide_eq_false Ω],E⟩
structure lY (s:av) (j pos v:Int) (f:cz) (u:Int) (x:br):Prop where
 DW:0<=j
 ae:s.funs[j.toNat]? =σ f
 live:f.live≠0
 dT:0<=pos
 hu:f.sc[pos.toNat]? =σ u
 nV:0<=u
 I:s.vars[u.toNat]? =σ x
 ac:v∈aE x
theorem OI {j:Int} (h:bx w ad ag A R n s t):am x7 Ga [Γ ad,Δ j,Δ pos,Δ v] w λr w'=>Ext w w'/\ ∃e:Int,r=Δ e/\(e=0\/e=1)/\(e=0↔ ∃f u x,lY s j pos v f u x):=by
 have aq:=h.2.2.2.1.vars;refine az func41 ?_;rw[c5 dy.u];simp only[b9,aY];have key:∀ (K:x1->x3->Prop),(∀r w',Ext w w'->(∀f,0<=j->s.funs[j.toNat]? =σ f->aF .i64 w' r f.sc)->K r w')->am x7 pL [Γ ad,Δ j] w K:=λK M=>by
  by_cases N:0<=j/\j<s.funs.length
  .obtain⟨f,ae⟩:=aH (l:=s.funs) (i:=j.toNat) Ω;have:=lX h ae;rw[show ((j.toNat:Nat):Int)=j by omega] at this;refine this.mono ?_;rintro r U _ ⟨p,g,_,hm⟩;exact M r U p λq _ O=>by rw[ae] at O;cases O;exact hm.ls
  .refine (DM h N).mono ?_;rintro r U _ ⟨rfl,p⟩;exact M _ U p λf C ae=>absurd ⟨C,by have:=(x4.1 ae).1;omega⟩ N
 refine key _ λr U p ah=>?_;refine aV (λaj V=>∃b,aj= .bool b/\(b=false↔ ∃f u x,lY s j pos v f u x)/\Ext w V) ?_ ?_
 .rintro _ V ⟨b,rfl,E,P⟩;rw[cb];refine⟨λQ=>⟨P,1,rfl,.inr rfl,⟨(λh=>by cases h),λh=>by rw[E.2 h] at Q;cases Q⟩⟩,λae=>⟨P,0,rfl,.inl rfl,⟨λ_=>E.1 ae,λ_=>rfl⟩⟩⟩
 intro ay G;refine (qP (j:=j) (h.ext p)).mono ?_;rintro _ au _ ⟨rfl,S⟩;have z:=p.trans S;rw[bI,cb];refine⟨λH=>G _ _ ⟨true,rfl,⟨(λh=>by cases h),λ⟨f,u,x,a⟩=>?_⟩,z⟩,λJ=>?_⟩
 .rw[decide_eq_true a.DW,U3] at H;unfold e3 at H;rw[a.ae] at H;simp[a.live] at H
 have J:0<=j/\e3 s j.toNat=true:=by simpa using J
 obtain⟨C,B⟩:=J;obtain⟨f,ae,ak⟩:∃f,s.funs[j.toNat]? =σ f/\f.live≠0:=by
  unfold e3 at B;cases ae:s.funs[j.toNat]? with
  |none=>rw[ae] at B;cases B
  |some f=>rw[ae] at B;exact⟨f,rfl,by simpa using B⟩
 have W:=(ah f C ae).ext S;have X:=(h.2.2.2.1.funs f (x5 ae)).1;have same:∀ {q u x},lY s j pos v q u x->q=f:=λa=>by have:=a.ae;rw[ae] at this;cases this;rfl
 rw[aN,al];refine⟨λav=>G _ _ ⟨true,rfl,⟨(λh=>by cases h),λ⟨f,u,x,a⟩=>by have:=a.dT;omega⟩,z⟩,λaw=>?_⟩;rw[aU an.u W,cO,al];refine⟨λax=>G _ _ ⟨true,rfl,⟨(λh=>by cases h),λ⟨q,u,x,a⟩=>?_⟩,z⟩,λaA=>?_⟩
 .obtain rfl:=same a;have:=(x4.1 a.hu).1;omega
 obtain⟨u,hu⟩:=aH (l:=f.sc) (i:=pos.toNat) Ω;have Y:=x5 hu;have Z:=(X.scope.1 u Y).1;have aB:=X.vars u Y;obtain⟨x,L⟩:=aH (l:=s.vars) (i:=u.toNat) Ω;rw[fx (y:=pos) (i:=pos.toNat) Ω an.u ai.i Ψ W hu];refine (kr (i:=u) (h.ext z)).mono ?_;rintro _ aC _ ⟨⟨b,m,rfl,aa⟩,ao⟩;refine (wO (v:=v) aa.1).mono ?_;rintro _ aD _ ⟨rfl,ap⟩;rw[DR aa Z L,bI];refine G _ _ ⟨_,rfl,⟨λE=>⟨f,u,x,C,ae,ak,Ω,hu,Z,L,by simpa using E⟩,λ⟨q,u',aE,a⟩=>?_⟩,(z.trans ao).trans ap⟩;obtain rfl:=same a;have ab:=a.hu;rw[hu] at ab;cases ab;have af:=a.I;rw[L] at af;cases af;rw[decide_eq_true a.ac];rfl
end
def cq (s:av) (i:Int):Λ:=match s.vars[i.toNat]? with
 |some x=>aE x
 |none=>[]
section
variable {ad ag:Nat} {A R:ak} {n:aR} {s:av} {t:aB}
end
def jh (s:av) (pos:Nat) (v:Int):Λ->Nat->List (Λ)
 |[],_=>[]
 |u::sc,p=>(if p=pos then[v] else cq s u)::jh s pos v sc (p+1)
def ce (s:av) (sc:Λ) (pos:Nat) (v:Int):List (Λ):=ib (jh s pos v sc 0)
def nY (s:av) (pos:Nat) (v:Int):Λ->Nat->List (Int->Bool)
 |[],_=>[]
 |u::sc,p=>(λx=>(decide (p=pos->x=v))&&decide (x∈cq s u))::nY s pos v sc (p+1)
theorem OJ (h:0<=v/\v<k):(hc k).filter (λx=>decide (x=v))=[v]:=by
 have f:(hc k).Nodup:=by
  unfold hc;exact List.Pairwise.map _ (λa b q=>Ω) List.nodup_range
 have hm:v∈hc k:=qR.2 h;generalize hc k=l at f hm;induction l with
 |nil=>cases hm
 |cons a l m=>
  have j:=List.nodup_cons.1 f;by_cases e:a=v
  .subst e;rw[List.filter_cons_of_pos Ξ,List.filter_eq_nil_iff.2 λx I=>by simp;intro p;exact j.1 (p▸I)]
  .rw[List.filter_cons_of_neg (by simpa using e)];exact m j.2 ((W9.1 hm).resolve_left (Ne.symm e))
section
variable {k:Int} {sizes:Λ} {s:av} {v:Int} {pos:Nat}
theorem OK {u:Int} (a:bq k sizes s) (h:0<=u/\u<sizes.length):(hc (sizes.getD u.toNat 0)).filter (λx=>decide (x∈cq s u))=cq s u:=by
 have q:=a.vars;obtain⟨x,I⟩:=aH (l:=s.vars) (i:=u.toNat) Ω;obtain⟨z,f⟩:=aH (l:=sizes) (i:=u.toNat) Ω;have h1:=(a.var _ x z I f).1;have e:cq s u=aE x:=by unfold cq;rw[I]
 have j:sizes.getD u.toNat 0=z:=by rw[v8,f];rfl
 have r:=a.fk.2.2 z (x5 f);have m:aE x=(hc z).filter λv=>!dropped x.mask v:=by unfold aE hc;rw[h1]
 rw[e,j,m];refine List.filter_congr λy p=>?_;simp[T6,p]
theorem DX (m:bq k sizes s):∀ (sc:Λ) (p:Nat),(∀u∈sc,0<=u/\u<sizes.length)->(∀u,p<=pos->sc[pos-p]? =σ u->v∈cq s u)->
  jh s pos v sc p=(((bV sizes sc).map hc).zip (nY s pos v sc p)).map λq=>q.1.filter q.2
 |[],p,_,_=>rfl
 |u::sc,p,hu,ac=>by
  have r:=DX m sc (p+1) (λu h=>hu u (.tail _ h)) λu' a h=>ac u' Ω (by rw[show pos-p=(pos-(p+1))+1 by omega];exact h);have w:=hu u (.head _);have f:=OK (s:=s) m w;show (if p=pos then[v] else cq s u)::jh s pos v sc (p+1)=(hc (sizes.getD u.toNat 0)).filter (λx=>decide (p=pos->x=v)&&decide (x∈cq s u))::((((bV sizes sc).map hc).zip (nY s pos v sc (p+1))).map λq=>q.1.filter q.2);rw[<-r];congr 1;by_cases a:p=pos
  .rw[if_pos a];have j:v∈cq s u:=ac u Ω (by rw[a,V6];rfl);have y:v∈hc (sizes.getD u.toNat 0):=by rw[<-f] at j;exact (T6.1 j).1
   rw[<-OJ (qR.1 y)];refine List.filter_congr λx _=>?_;by_cases e:x=v
   .subst e;simp[j]
   .simp[e,a]
  .rw[if_neg a,<-f];refine (List.filter_congr λx I=>?_).symm;rw[f];simp[a]
theorem DY:∀ (sc:Λ) (p:Nat),(nY s pos v sc p).length=sc.length
 |[],_=>rfl
 |u::sc,p=>by unfold nY;rw[c7,DY sc (p+1),c7]
theorem wZ (a:bq k sizes s) (e:∀u∈sc,0<=u/\u<sizes.length) (ac:∀u,sc[pos]? =σ u->v∈cq s u):
  ce s sc pos v=(bk (bV sizes sc)).filter (mF (nY s pos v sc 0)):=by
 unfold ce;rw[DX a sc 0 e λu _ h=>ac u h,DN _ _ (by rw[DY,u7];unfold bV;rw[u7]),tu]
end
theorem tv {k:Int}:∀ (l:Λ) (z:Int),z<=k->(∀c∈l,0<=c)->l.foldl (λa c=>min (a+c) k) z=min (z+l.sum) k
 |[],z,h,_=>Θ
 |c::l,z,h,e=>by
  have J:∀ (l:Λ),(∀c∈l,0<=c)->0<=l.sum:=λl=>by
   induction l with
   |nil=>intro _;simp
   |cons a l f=>intro h;have:=f λc e=>h c (.tail _ e);have:=h a (.head _);rw[List.sum_cons];omega
  have h1:=e c (.head _);have j:=J l λc h=>e c (.tail _ h);rw[U7,tv l _ Ω λc h=>e c (.tail _ h),List.sum_cons];omega
def dd (p:br×Int):Int:=if p.1.gone≠0 then 0 else p.1.un.getD p.2.toNat 0
def fb (a:Λ) (f:cz):Int:=if f.live≠0 then bn f.aj f.cs (jd a f.sc) else 0
theorem foldl_map' {α β e:Type} (g:α->β) (h:e->β->e) (h':e->α->e) (P:e->Prop) (aG:∀c a,P c->h' c a=h c (g a)) (f:∀c a,P c->P (h' c a)):∀ (l:List α) (c:e),P c->l.foldl h' c=(l.map g).foldl h c
 |[],_,_=>rfl
 |a::l,c,j=>by
  rw[U7,U6,U7,<-aG c a j];exact foldl_map' g h h' P aG f l _ (f c a j)
theorem w1 {i:Nat} {x:Int} (h:l[i]? =σ x):(l.set i y).sum=l.sum-x+y:=by
 induction l generalizing i with
 |nil=>simp at h
 |cons a l e=>
  cases i with
  |zero=>simp at h;subst h;rw[List.set_cons_zero,List.sum_cons,List.sum_cons];omega
  |succ i=>
   rw[List.set_cons_succ,List.sum_cons,List.sum_cons,e (by simpa using h)];omega
def dG (k a c:Int):Int:=if a=k then k else a-c
def dH (k a c:Int):Int:=min (a+c) k
theorem tw {r g u:Int} (a:0<=r) (e:c<=g/\g<=k) (hu:0<=u/\u<=k) (f:0<=c):min (r+dG k g c+dH k u c) k=min (r+g+u) k:=by
 unfold dG dH;split<;>omega
theorem pq:∀ (l:Λ),(∀c∈l,0<=c)->0<=l.sum
 |[],_=>Ξ
 |a::l,h=>by have:=pq l λc e=>h c (.tail _ e);have:=h a (.head _);rw[List.sum_cons];omega
theorem qV:∀ {l:Λ} {i:Nat} {x:Int},(∀c∈l,0<=c)->l[i]? =σ x->x<=l.sum
 |[],_,_,_,h=>by simp at h
 |a::l,0,x,e,h=>by
  simp at h;subst h;have:=pq l λc h=>e c (.tail _ h);rw[List.sum_cons];omega
 |a::l,i+1,x,e,h=>by
  have:=qV (λc h=>e c (.tail _ h)) (show l[i]? =σ x by simpa using h);have:=e a (.head _);rw[List.sum_cons];omega
theorem DZ {i:Nat} (hk:0<=k) (h:∀c∈l,0<=c/\c<=k):0<=l.getD i 0/\l.getD i 0<=k:=by
 rw[v8];cases a:l[i]? with
 |none=>exact⟨T2 _,hk⟩
 |some c=>exact h c (x5 a)
theorem D0 {f:Int->Int} {m:Int} (J:dO aj) (h:cs.length=(bk aj).length) (hi:cJ aj t 0=σ m):bn aj (dx f L aj cs) t=if t∈L then f (bn aj cs t) else bn aj cs t:=by
 have a:=mp J hi;have j:=(x4.1 a).1;obtain⟨c,e⟩:=aH (l:=cs) (i:=m.toNat) Ω;have h1:=pm (f:=f) (L:=L) a e;unfold bn;rw[hi];simp only;rw[v8,h1,v8,e,V1,V1]
section
variable {k:Int} {sizes a:Λ} {s:av}
theorem D1 {i:Nat} {p:br×Int} (e:bq k sizes s) (h:(s.vars.zip a)[i]? =σ p):0<=dd p/\dd p<=k:=by
 have hk:=e.eh;obtain⟨h1,_⟩:=S1.1 h;have f:=(x4.1 h1).1;have j:=e.vars;have:=e.var i p.1 _ h1 (x6 Ω);unfold dd;split
 .omega
 .exact DZ Ω this.2.1
theorem OL {f:cz} (e:bq k sizes s) (h:f∈s.funs):0<=fb a f/\fb a f<=k:=by
 have hk:=e.eh;have:=(e.funs f h).1.hv;unfold fb;split
 .exact (sX e.eh λc j=>⟨e.eh,this c j⟩).2
 .omega
theorem tx (e:bq k sizes s):∀c∈(s.vars.zip a).map dd,0<=c:=λc f=>by
 obtain⟨p,h,rfl⟩:=n9.1 f;obtain⟨i,hi⟩:=X1.1 h;exact (D1 e hi).1
theorem pr (e:bq k sizes s):∀c∈s.funs.map (fb a),0<=c:=λc f=>by
 obtain⟨p,h,rfl⟩:=n9.1 f;exact (OL e h).1
theorem mH (e:bq k sizes s):fj k s a=if (s.vars.zip a).all eJ then min (s.zero+((s.vars.zip a).map dd).sum+(s.funs.map (fb a)).sum) k else k:=by
 have h1:(s.vars.zip a).foldl (kg k) s.zero=((s.vars.zip a).map dd).foldl (λx c=>min (x+c) k) s.zero:=by
  refine foldl_map' dd (λx c=>min (x+c) k) (kg k) (λc=>c<=k) (λc p f=>?_) (λc p f=>?_) _ _ e.zero.2
  .unfold kg dd;split
   .omega
   .rfl
  .unfold kg;split
   .exact f
   .omega
 have h:∀z,z<=k->s.funs.foldl (je k a) z=(s.funs.map (fb a)).foldl (λx c=>min (x+c) k) z:=λz j=>by
  refine foldl_map' (fb a) (λx c=>min (x+c) k) (je k a) (λc=>c<=k) (λc p f=>?_) (λc p f=>?_) _ _ j
  .unfold je fb;split
   .rfl
   .omega
  .unfold je;split
   .omega
   .exact f
 unfold fj;split
 .rw[h1,tv _ _ e.zero.2 (tx e),h _ Ω,tv _ _ Ω (pr e)];have:=pq _ (pr (a:=a) e);omega
 .rfl
theorem tz {α β:Type}:∀ {l:List α} {m:List β} {i:Nat} {x:α} {y:β},m[i]? =σ y->(l.set i x).zip m=(l.zip m).set i (x,y)
 |[],_,_,_,_,_=>Ξ
 |_::_,[],_,_,_,h=>by simp at h
 |a::l,b::m,0,x,y,h=>by simp at h;subst h;rfl
 |a::l,b::m,i+1,x,y,h=>by
  rw[List.set_cons_succ,List.zip_cons_cons,List.zip_cons_cons,List.set_cons_succ,tz (by simpa using h)]
theorem tA {α:Type} {q:α->Bool}:∀ {l:List α} {i:Nat} {x y:α},l[i]? =σ x->q y=q x->(l.set i y).all q=l.all q
 |[],_,_,_,h,_=>by simp at h
 |a::l,0,x,y,h,e=>by simp at h;subst h;rw[List.set_cons_zero,List.all_cons,List.all_cons,e]
 |a::l,i+1,x,y,h,e=>by rw[List.set_cons_succ,List.all_cons,List.all_cons,tA (by simpa using h) e]
def eA (s:av) (u:Nat) (x:br) (un:Λ):av:={s with vars:=s.vars.set u {x with un:=un}}
def dI (s:av) (j:Nat) (f:cz) (cs:Λ):av:={s with funs:=s.funs.set j {f with cs:=cs}}
theorem w2 {u:Nat} {x:br} {un:Λ} (a:bq k sizes s) (I:s.vars[u]? =σ x) (e:un.length=x.un.length) (f:∀c∈un,0<=c/\c<=k):bq k sizes (eA s u x un):=by
 have h:=(x4.1 I).1;have j:=a.vars;have h1:=a.var u x _ I (x6 Ω);exact a.tr I e f h1.2.2
theorem D2 {f:cz} (a:bq k sizes s) (ae:s.funs[j]? =σ f) (e:cs.length=f.cs.length) (h:∀c∈cs,0<=c/\c<=k):bq k sizes (dI s j f cs):=a.DJ ae rfl rfl e h
theorem OM {u:Nat} {x:br} {f:cz} {un:Λ} {ba:Int} (e:bq k sizes s) (I:s.vars[u]? =σ x) (ae:s.funs[j]? =σ f) (q:un.length=x.un.length) (w:∀c∈un,0<=c/\c<=k) (y:cs.length=f.cs.length) (z:∀c∈cs,0<=c/\c<=k) (p:a[u]? =σ ba)
  (h:(s.vars.zip a).all eJ=true-> ∀r,0<=r->min (r+fb a {f with cs:=cs}+dd ({x with un:=un},ba)) k=min (r+fb a f+dd (x,ba)) k):fj k (eA (dI s j f cs) u x un) a=fj k s a:=by
 have A:=D2 e ae y z;have B:bq k sizes (eA (dI s j f cs) u x un):=w2 A I q w;rw[mH B,mH e];have m:(s.vars.zip a)[u]? =σ (x,ba):=S1.2 ⟨I,p⟩;have C:((eA (dI s j f cs) u x un).vars.zip a)=(s.vars.zip a).set u ({x with un:=un},ba):=tz p;have E:((s.vars.zip a).set u ({x with un:=un},ba)).all eJ=(s.vars.zip a).all eJ:=tA m rfl;rw[C,E];split
 .rename_i F;have G:(((s.vars.zip a).set u ({x with un:=un},ba)).map dd).sum=((s.vars.zip a).map dd).sum-dd (x,ba)+dd ({x with un:=un},ba):=by
   rw[V7];exact w1 (by rw[x8,m];rfl)
  have H:((eA (dI s j f cs) u x un).funs.map (fb a)).sum=(s.funs.map (fb a)).sum-fb a f+fb a {f with cs:=cs}:=by
   show ((s.funs.set j {f with cs:=cs}).map (fb a)).sum=_;rw[V7];exact w1 (by rw[x8,ae];rfl)
  have h1:=qV (tx (a:=a) e) (i:=u) (x:=dd (x,ba)) (by rw[x8,m];rfl);have J:=qV (pr (a:=a) e) (i:=j) (x:=fb a f) (by rw[x8,ae];rfl);have K:=e.zero.1;have L:=h F (s.zero+(((s.vars.zip a).map dd).sum-dd (x,ba))+((s.funs.map (fb a)).sum-fb a f)) Ω;rw[G,H];show min (s.zero+_+_) k=_;omega
 .rfl
end
theorem w3 {s:av} {pos:Nat} {v:Int}:∀ (sc:Λ) (p q:Nat),(jh s pos v sc p)[q]? =(sc[q]?).map λu=>if p+q=pos then[v] else cq s u
 |[],_,q=>by simp[jh]
 |u::sc,p,0=>by simp[jh]
 |u::sc,p,q+1=>by
  unfold jh;rw[List.getElem?_cons_succ,List.getElem?_cons_succ,w3 sc (p+1) q,show p+1+q=p+(q+1) by omega]
theorem D3 {s:av} {pos:Nat} {v:Int}:∀ (sc:Λ) (p:Nat),(jh s pos v sc p).length=sc.length
 |[],_=>rfl
 |u::sc,p=>by unfold jh;rw[c7,D3 sc (p+1),c7]
theorem w4 {s:av} {pos:Nat}:t∈ce s sc pos v↔t.length=sc.length/\ ∀ (p:Nat) u w,sc[p]? =σ u->t[p]? =σ w->if p=pos then w=v else w∈cq s u:=by
 unfold ce;rw[qQ,D3];refine and_congr_right λ_=>⟨λh p u w hu hw=>?_,λh p d w a hw=>?_⟩
 .have:w∈if 0+p=pos then[v] else cq s u:=h p _ w (by rw[w3,hu];rfl) hw;rw[X0] at this;split
  .rename_i e;rw[if_pos e] at this;exact o9.1 this
  .rename_i e;rw[if_neg e] at this;exact this
 .rw[w3] at a;cases hu:sc[p]? with
  |none=>rw[hu] at a;cases a
  |some u=>
   rw[hu] at a;have a:(if 0+p=pos then[v] else cq s u)=d:=j6 a;subst a;have:=h p u w hu hw;rw[X0];split
   .rename_i e;rw[if_pos e] at this;exact o9.2 this
   .rename_i e;rw[if_neg e] at this;exact this
theorem fX {x:br}:v∈aE x↔(0<=v/\v<x.un.length)/\dropped x.mask v=false:=by
 unfold aE;rw[T6];refine and_congr ?_ Ξ;have:=qR (k:=(x.un.length:Int)) (v:=v);unfold hc at this;rw[u6] at this;exact this
theorem D4 {f:Int->Int} (J:dO aj) (m:∀c∈cs,0<=c/\c<=k) (ae:∀t∈L,0<=f (bn aj cs t)/\f (bn aj cs t)<=k):∀c∈dx f L aj cs,0<=c/\c<=k:=λc a=>by
 unfold dx at a;obtain⟨p,q,rfl⟩:=n9.1 a;obtain⟨i,hi⟩:=X1.1 q;obtain⟨h1,h⟩:=S1.1 hi;split
 .rename_i r;have j:=ae p.1 r;have e:bn aj cs p.1=p.2:=by
   unfold bn;rw[jA J h1];simp only;rw[u6,v8,h];rfl
  rw[e] at j;exact j
 .exact m _ (x5 h)
section
variable {k:Int} {sizes a:Λ} {s:av}
def iH (s:av) (j:Nat) (f:cz) (pos u:Nat) (x:br) (v:Int) (tup un:Int->Int):av:=
 eA (dI s j f (dx tup (ce s f.sc pos v) f.aj f.cs)) u x (x.un.set v.toNat (un (x.un.getD v.toNat 0)))
theorem k7 {f:cz} (e:bq k sizes s) (ae:f∈s.funs):dO f.aj/\f.cs.length=(bk f.aj).length:=by
 obtain⟨a,h,_⟩:=e.funs f ae;have j:dO f.aj:=by rw[h];exact pb e.fk.2.2 λv ac=>⟨(a.scope.1 v ac).1,a.vars v ac⟩
 refine⟨j,?_⟩;have h1:=a.len;rw[i7 j,h];exact h1
theorem D5 {pos u:Nat} {f:cz} {x:br} {tup un:Int->Int} (a:bq k sizes s) (ae:s.funs[j]? =σ f) (I:s.vars[u]? =σ x)
  (e:∀t∈ce s f.sc pos v,0<=tup (bn f.aj f.cs t)/\tup (bn f.aj f.cs t)<=k) (h:0<=un (x.un.getD v.toNat 0)/\un (x.un.getD v.toNat 0)<=k):bq k sizes (iH s j f pos u x v tup un):=by
 obtain⟨m,q⟩:=k7 a (x5 ae);have p:=(a.funs f (x5 ae)).1;have r:=(x4.1 I).1;have w:=a.vars;have h1:=a.var u x _ I (x6 Ω);exact w2 (D2 a ae (nX _ _ _ _ Ω) (D4 m p.hv e)) I (by rw[Z2]) (qS h1.2.1 h)
theorem D6 {pos u:Nat} {f:cz} {x:br} {tup un:Int->Int} (p:bq k sizes s) (P:h6 s a) (ae:s.funs[j]? =σ f) (Q:f.live≠0) (hu:f.sc[pos]? =σ (u:Int)) (I:s.vars[u]? =σ x) (ac:v∈aE x)
  (R:∀w∈f.sc,∀y,s.vars[w.toNat]? =σ y->y.gone=0) (X:∀t∈ce s f.sc pos v,0<=tup (bn f.aj f.cs t)/\tup (bn f.aj f.cs t)<=k) (Y:0<=un (x.un.getD v.toNat 0)/\un (x.un.getD v.toNat 0)<=k)
  (Z:∀t∈ce s f.sc pos v,∀r,0<=r->min (r+tup (bn f.aj f.cs t)+un (x.un.getD v.toNat 0)) k=min (r+bn f.aj f.cs t+x.un.getD v.toNat 0) k):
  fj k (iH s j f pos u x v tup un) a=fj k s a:=by
 obtain⟨F,aa⟩:=k7 p (x5 ae);obtain⟨G,S,_⟩:=p.funs f (x5 ae);have au:=(x4.1 I).1;have av:=p.vars;have h1:=p.var u x _ I (x6 Ω);have aw:=P.1;obtain⟨ba,T⟩:=aH (l:=a) (i:=u) Ω;refine OM p I ae (by rw[Z2]) (qS h1.2.1 Y) (nX _ _ _ _ Ω) (D4 F G.hv X) T λab r ad=>?_;have U:x.gone=0:=R u (x5 hu) x (by rw[u6];exact I);obtain⟨tl,B⟩:∃tl,tl=jd a f.sc:=⟨_,rfl⟩;have H:∀ (q:Nat) w,f.sc[q]? =σ w-> ∃y,s.vars[w.toNat]? =σ y/\tl[q]? =σ (a.getD w.toNat 0)/\a.getD w.toNat 0∈aE y/\f.aj[q]? =σ (y.un.length:Int):=λq w hw=>by
  have hm:=x5 hw;have ax:=(G.scope.1 w hm).1;have ay:=G.vars w hm;obtain⟨y,h⟩:=aH (l:=s.vars) (i:=w.toNat) Ω;obtain⟨z,J⟩:=aH (l:=sizes) (i:=w.toNat) Ω;obtain⟨K,L⟩:=aH (l:=a) (i:=w.toNat) Ω;have af:=R w hm y h;have az:=(p.var _ y z h J).1;have aA:=p.fk.2.2 z (x5 J);have e:a.getD w.toNat 0=K:=by rw[v8,L];rfl
  have V:=List.all_eq_true.1 ab (y,K) (x5 (S1.2 ⟨h,L⟩));have ag:=(P.2 _ y K h L).resolve_left Ω;refine⟨y,h,by rw[B];unfold jd;rw[x8,hw];rfl,?_,?_⟩
  .rw[e,fX];refine⟨ag,?_⟩;unfold eJ at V;simpa[af] using V
  .rw[S];unfold bV;rw[x8,hw,Z3,v8,J,V1];congr 1;omega
 have ah:tl.length=f.sc.length:=by rw[B];unfold jd;rw[u7]
 have aB:f.aj.length=f.sc.length:=by rw[S];unfold bV;rw[u7]
 obtain⟨m,hm⟩:∃m,cJ f.aj tl 0=σ m:=by
  have:tl∈bk f.aj:=by
   rw[tu,qQ];refine⟨by rw[u7];omega,λq d w W hw=>?_⟩;obtain⟨b,A⟩:=aH (l:=f.sc) (i:=q) (by have:=(x4.1 hw).1;omega);obtain⟨y,_,M,N,ai⟩:=H q b A;rw[x8,ai] at W;cases W;rw[M] at hw;cases hw;exact qR.2 (fX.1 N).1
  obtain⟨i,hi⟩:=X1.1 this;exact⟨_,jA F hi⟩
 have ak:fb a f=bn f.aj f.cs tl:=by unfold fb;rw[if_pos Q,B]
 have al:fb a {f with cs:=dx tup (ce s f.sc pos v) f.aj f.cs}=if tl∈ce s f.sc pos v then tup (bn f.aj f.cs tl) else bn f.aj f.cs tl:=by
  rw[<-D0 F aa hm,B];unfold fb;rw[if_pos Q]
 have am:dd (x,ba)=x.un.getD ba.toNat 0:=by unfold dd;rw[if_neg (by simp[U])]
 have an:dd ({x with un:=x.un.set v.toNat (un (x.un.getD v.toNat 0))},ba)=(x.un.set v.toNat (un (x.un.getD v.toNat 0))).getD ba.toNat 0:=by unfold dd;rw[if_neg (by simp[U])]
 obtain⟨y,h,C,O,_⟩:=H pos _ hu;rw[u6] at h C O;rw[I] at h;cases h;have ao:a.getD u 0=ba:=by rw[v8,T];rfl
 rw[ao] at C O;have aC:=(fX.1 ac).1;have aD:=(fX.1 O).1;rw[ak,al,am,an];by_cases he:ba=v
 .subst he;have E:tl∈ce s f.sc pos ba:=w4.2 ⟨ah,λq w b hw A=>by
   obtain⟨aF,ap,M,N,_⟩:=H q w hw;split
   .rename_i aq;subst aq;rw[C] at A;exact (j6 A).symm
   .rw[M] at A;cases A;unfold cq;rw[ap];exact N⟩
  rw[if_pos E,v8 (l:=x.un.set _ _),c9 Ω,V1];exact Z tl E r ad
 .have E:tl∉ce s f.sc pos v:=λhm=>by
   have:=(w4.1 hm).2 pos _ ba hu C;rw[if_pos rfl] at this;exact he this
  rw[if_neg E,v8 (l:=x.un.set _ _),Y2 Ω,<-v8]
end
def dZ (g:Int->Int) (un L:Λ):Λ:=L.foldl (λun v=>un.set v.toNat (g (un.getD v.toNat 0))) un
theorem tB {g:Int->Int}:∀ (L un:Λ),(dZ g un L).length=un.length
 |[],_=>rfl
 |v::L,un=>by
  unfold dZ;rw[U7];have:=tB (g:=g) L (un.set v.toNat (g (un.getD v.toNat 0)));unfold dZ at this;rw[this,Z2]
theorem tC {g:Int->Int}:∀ (L un:Λ) (w:Int),L.Nodup->(∀v∈L,0<=v/\v<un.length)->0<=w->(dZ g un L).getD w.toNat 0=if w∈L then g (un.getD w.toNat 0) else un.getD w.toNat 0
 |[],un,w,_,_,_=>by simp[dZ]
 |v::L,un,w,j,a,hw=>by
  obtain⟨h1,m⟩:=List.nodup_cons.1 j;have ac:=a v (.head _);have p:=tC (g:=g) L (un.set v.toNat (g (un.getD v.toNat 0))) w m (λu hu=>by rw[Z2];exact a u (.tail _ hu)) hw;have e:dZ g un (v::L)=dZ g (un.set v.toNat (g (un.getD v.toNat 0))) L:=rfl;rw[e,p];by_cases f:w=v
  .subst f;have J:(un.set w.toNat (g (un.getD w.toNat 0))).getD w.toNat 0=g (un.getD w.toNat 0):=by
    rw[v8 (l:=un.set _ _),c9 Ω];rfl
   rw[if_neg h1,if_pos (.head _),J]
  .have J:(un.set v.toNat (g (un.getD v.toNat 0))).getD w.toNat 0=un.getD w.toNat 0:=by
    rw[v8 (l:=un.set _ _),Y2 Ω,<-v8]
   rw[J];by_cases hm:w∈L
   .rw[if_pos hm,if_pos (.tail _ hm)]
   .rw[if_neg hm,if_neg λh=>(W9.1 h).elim f hm]
theorem qW (x:br):(aE x).Nodup:=by
 unfold aE;refine List.Nodup.sublist List.filter_sublist ?_;exact List.Pairwise.map _ (λa b e=>Ω) List.nodup_range
theorem D7 {k:Int} {g:Int->Int}:∀ (L un:Λ),(∀c∈un,0<=c/\c<=k)->L.Nodup->(∀v∈L,0<=v/\v<un.length)->(∀v∈L,0<=g (un.getD v.toNat 0)/\g (un.getD v.toNat 0)<=k)-> ∀c∈dZ g un L,0<=c/\c<=k
 |[],un,h,_,_,_,c,a=>h c a
 |v::L,un,h,m,f,j,c,a=>by
  obtain⟨h1,p⟩:=List.nodup_cons.1 m;have ac:=f v (.head _);refine D7 (g:=g) L (un.set v.toNat (g (un.getD v.toNat 0))) (qS h (j v (.head _))) p (λu hu=>by rw[Z2];exact f u (.tail _ hu)) (λu hu=>?_) c a;have q:u≠v:=λe=>h1 (e▸hu);have r:=f u (.tail _ hu);rw[v8 (l:=un.set _ _),Y2 Ω,<-v8];exact j u (.tail _ hu)
section
variable {k:Int} {sizes a:Λ} {s:av}
def kt (s:av) (u:Nat) (x:br) (g z:Int->Int):av:={eA s u x (dZ g x.un (aE x)) with zero:=z s.zero}
theorem bq.ON (a:bq k sizes s) (h:0<=c/\c<=k):bq k sizes {s with zero:=c}:=⟨a.eh,a.fk,h,a.vars,a.var,a.funs⟩
theorem w5 {u:Nat} {x:br} {g z:Int->Int} (a:bq k sizes s) (I:s.vars[u]? =σ x) (e:∀v∈aE x,0<=g (x.un.getD v.toNat 0)/\g (x.un.getD v.toNat 0)<=k) (f:0<=z s.zero/\z s.zero<=k):bq k sizes (kt s u x g z):=by
 have h:=(x4.1 I).1;have j:=a.vars;have h1:=a.var u x _ I (x6 Ω);exact (w2 a I (tB _ _) (D7 _ _ h1.2.1 (qW x) (λv ac=>(fX.1 ac).1) e)).ON f
theorem D8 {u:Nat} {x:br} {g z:Int->Int} (e:bq k sizes s) (m:h6 s a) (I:s.vars[u]? =σ x) (h:x.gone=0) (A:∀v∈aE x,0<=g (x.un.getD v.toNat 0)/\g (x.un.getD v.toNat 0)<=k) (B:0<=z s.zero/\z s.zero<=k)
  (C:∀v∈aE x,∀r,0<=r->min (r+g (x.un.getD v.toNat 0)+z s.zero) k=min (r+x.un.getD v.toNat 0+s.zero) k):fj k (kt s u x g z) a=fj k s a:=by
 have E:=w5 e I A B;have M:=(x4.1 I).1;have N:=e.vars;have O:=m.1;obtain⟨ba,j⟩:=aH (l:=a) (i:=u) Ω;rw[mH E,mH e];have f:(s.vars.zip a)[u]? =σ (x,ba):=S1.2 ⟨I,j⟩;obtain⟨un,p⟩:∃un,un=dZ g x.un (aE x):=⟨_,rfl⟩;have F:((kt s u x g z).vars.zip a)=(s.vars.zip a).set u ({x with un:=un},ba):=by rw[p];exact tz j
 have G:((s.vars.zip a).set u ({x with un:=un},ba)).all eJ=(s.vars.zip a).all eJ:=tA f rfl;rw[F,G];split
 .rename_i H;have J:(((s.vars.zip a).set u ({x with un:=un},ba)).map dd).sum=((s.vars.zip a).map dd).sum-dd (x,ba)+dd ({x with un:=un},ba):=by
   rw[V7];exact w1 (by rw[x8,f];rfl)
  have h1:=qV (tx (a:=a) e) (i:=u) (x:=dd (x,ba)) (by rw[x8,f];rfl);have P:=pq _ (pr (a:=a) e);have q:=List.all_eq_true.1 H (x,ba) (x5 f);have w:=(m.2 _ x ba I j).resolve_left Ω;have y:ba∈aE x:=by
   rw[fX];refine⟨w,?_⟩;unfold eJ at q;simpa[h] using q
  have K:dd (x,ba)=x.un.getD ba.toNat 0:=by unfold dd;rw[if_neg (by simp[h])]
  have L:dd ({x with un:=un},ba)=g (x.un.getD ba.toNat 0):=by
   unfold dd;rw[if_neg (by simp[h])];show un.getD ba.toNat 0=_;rw[p,tC _ _ _ (qW x) (λv ac=>(fX.1 ac).1) w.1,if_pos y]
  rw[J,L];rw[K] at h1 ⊢;have Q:=C ba y (((s.vars.zip a).map dd).sum-x.un.getD ba.toNat 0+(s.funs.map (fb a)).sum) Ω;show min (z s.zero+_+(s.funs.map (fb a)).sum) k=_;omega
 .rfl
theorem D9 {w:Int} (ac:0<=v) (hw:0<=w):dropped ((m ||| 2 ^ v.toNat:Nat):Int) w=(dropped (m:Int) w||decide (w=v)):=by
 unfold dropped;rw[u6,u6,Nat.testBit_or,Nat.testBit_two_pow];congr 1;exact decide_eq_decide.2 ⟨λh=>Ω,λh=>Ω⟩
theorem gN {i:Nat} {x:br} (I:s.vars[i]? =σ x):cd s i v.toNat={s with vars:=s.vars.set i {x with mask:=((x.mask.toNat ||| 2 ^ v.toNat:Nat):Int)}}:=by
 unfold cd;rw[I]
theorem nZ {i:Nat} {x:br} (a:bq k sizes s) (I:s.vars[i]? =σ x) (ac:0<=v/\v<x.un.length):bq k sizes (cd s i v.toNat):=by
 rw[gN I];have h:=(x4.1 I).1;have j:=a.vars;have h1:=a.var i x _ I (x6 Ω);have m:=a.fk.2.2 _ (T9 (l:=sizes) (n:=i) Ω);refine a.tr I rfl h1.2.1 ⟨by simp only;omega,?_⟩;have e:x.mask.toNat<2 ^ 32:=by have:=h1.2.2;omega
 have f:2 ^ v.toNat<2 ^ 32:=Nat.pow_lt_pow_right Ω Ω;have:=Nat.or_lt_two_pow e f;simp only;omega
theorem Ea {i:Nat} {ba:Int} {x:br} (f:bq k sizes s) (z:h6 s a) (I:s.vars[i]? =σ x) (A:x.gone=0) (ac:0<=v/\v<x.un.length) (j:a[i]? =σ ba):fj k (cd s i v.toNat) a=if ba=v then k else fj k s a:=by
 have B:=nZ f I ac;rw[mH B,mH f];have m:(s.vars.zip a)[i]? =σ (x,ba):=S1.2 ⟨I,j⟩;have C:=(z.2 _ x ba I j).resolve_left Ω;obtain⟨y,p⟩:∃y:br,y={x with mask:=((x.mask.toNat ||| 2 ^ v.toNat:Nat):Int)}:=⟨_,rfl⟩;have E:((cd s i v.toNat).vars.zip a)=(s.vars.zip a).set i (y,ba):=by rw[gN I,p];exact tz j
 have r:(cd s i v.toNat).zero=s.zero/\(cd s i v.toNat).funs=s.funs:=by rw[gN I];exact⟨rfl,rfl⟩
 have w:eJ (y,ba)=(eJ (x,ba)&&decide (ba≠v)):=by
  unfold eJ;rw[p];simp only[A];rw[D9 ac.1 C.1];have hm:((x.mask.toNat:Nat):Int)=x.mask:=by
   have L:=(x4.1 I).1;have M:=f.vars;have h1:=f.var i x _ I (x6 Ω);omega
  rw[hm];by_cases e:ba=v
  .simp[e]
  .simp[e]
 rw[E,r.1,r.2];by_cases e:ba=v
 .rw[if_pos e,if_neg];intro F;have:=List.all_eq_true.1 F (y,ba) (x5 (c9 (x4.1 m).1));rw[w] at this;simp[e] at this
 .have G:((s.vars.zip a).set i (y,ba)).all eJ=(s.vars.zip a).all eJ:=tA m (by rw[w];simp[e]);have H:((s.vars.zip a).set i (y,ba)).map dd=(s.vars.zip a).map dd:=by
   rw[V7];have J:dd (y,ba)=dd (x,ba):=by rw[p];rfl
   rw[J];refine Y6 λq=>?_;rw[Y3];split
   .rename_i K;subst K;split
    .rw[x8,m];rfl
    .rename_i h;rw[Z6 Ω]
   .rfl
  rw[if_neg e,G,H]
theorem OO {i:Nat} {ba:Int} {x:br} (f:h6 s a) (I:s.vars[i]? =σ x) (h:x.gone=0) (e:a[i]? =σ ba) (j:ba∉aE x):fj k s a=k:=by
 have m:=(f.2 _ x ba I e).resolve_left Ω;unfold fj;rw[if_neg];intro p;have:=List.all_eq_true.1 p (x,ba) (x5 (S1.2 ⟨I,e⟩));unfold eJ at this;have q:dropped x.mask ba=false:=by simpa[h] using this
 exact j (fX.2 ⟨m,q⟩)
end
def mI (w:x3) (g:Nat) (k:Int) (sizes:Λ) (s:av):Prop:=∃szv a e f h j,af w g bc [Δ k,szv,Δ s.zero,a,e,f,h,j]/\aF .i64 w szv sizes/\Seen eX w [szv] sizes/\
 Seen eX w [a] (s.vars.map aE)/\Seen eX w [e] (s.vars.map λx=>decide (x.gone≠0))/\Seen eX w [f] (s.vars.map (·.un))/\Seen eX w [h] (s.funs.map h8)/\Seen eX w [j] (s.gW.map DB)
section
variable {w w':x3} {g:Nat} {v:x1} {k:Int} {sizes:Λ} {s:av}
theorem mI.ext (h:mI w g k sizes s) (I:Ext w w'):mI w' g k sizes s:=by
 obtain⟨szv,a,e,f,j,m,p,h1,q,r,x,y,z,A⟩:=h;exact⟨szv,a,e,f,j,m,p.ext I,h1.ext I,bW q I,bW r I,bW x I,bW y I,bW z I,bW A I⟩
theorem ko.box (h:ko w v k sizes s) (I:Ext w w') (f:af w' g bc v.cells.toList):mI w' g k sizes s:=by
 obtain⟨cs,rfl,szv,x,y,z,B,C,rfl,h1,j,m,p,q,r,_⟩:=h;obtain⟨_,_,_,E⟩:=dg (eE h1);have c:∀ {α:Type} [ao α] {v:x1} {l:List α} {A:ak},ao.rep false A eX w [v] l-> ∃a n c,v= .slice a n c:=λh=>by
  obtain⟨_,_,_,_,_,⟨_,b,o,base,cap,e,_⟩,_⟩:=iX h;exact⟨_,_,_,e⟩
 obtain⟨_,_,_,F⟩:=c j;obtain⟨_,_,_,G⟩:=c m;obtain⟨_,_,_,H⟩:=c p;obtain⟨_,_,_,J⟩:=c q;obtain⟨_,_,_,K⟩:=c r;refine⟨szv,x,y,z,B,C,?_,(eE h1).ext I,bW h1 I,bW j I,bW m I,bW p I,bW q I,bW r I⟩;rw[E,F,G,H,J,K] at f ⊢;exact f
theorem mI.load {K:x1->Prop} (h:mI w g k sizes s) (a:∀u,ko w u k sizes s->K u):aa x7 (u4 bc (Γ g)) w K:=by
 obtain⟨szv,e,f,j,m,q,r,h1,x,y,z,A,B,C⟩:=h;rw[bO bc.p bc.i rfl r.range];exact a _ ⟨_,rfl,szv,e,f,j,m,q,rfl,x,y,z,A,B,C,λh=>by cases h⟩
theorem OP {i:Int} (h:ko w v k sizes s):am x7 GK [v,Δ i] w λr w'=>r= .bool (decide (0<=i/\i<sizes.length))/\Ext w w':=by
 refine az func106 ?_;refine bo λg1 U q a e=>?_;obtain⟨szv,x,y,z,A,B,e,m,_⟩:=h.box a e;refine aV (λv V=>v= .bool (decide (0<=i/\i<sizes.length))/\Ext w V) (λ_ _ h=>h) λay f=>?_;rw[cO,al];refine⟨λj=>?_,λj=>f _ _ ⟨by rw[decide_eq_false];omega,a⟩⟩;rw[aT bc.p 1 e rfl,aU an.u m,aN];refine f _ _ ⟨?_,a⟩;congr 1;exact decide_eq_decide.2 ⟨λh=>⟨j,h⟩,λh=>h.2⟩
theorem ps {m:Bool} {S R:ak} {cs:List x1} {f:cz} (h:ao.rep (α:=jg) m S R w cs (h8 f)):∃aP szv a7,cs=[aP,szv,a7,.bool (decide (f.live≠0))]/\Seen eX w [aP] f.sc/\Seen eX w [szv] f.aj/\Seen eX w [a7] f.cs:=by
 obtain⟨C,p,A,B,rfl,_,_,_,⟨q,E,aQ,F,rfl,_,_,_,h1,r,s,G,x,rfl,_,_,_,a,e⟩,j⟩:=h;have one:∀ {α:Type} [ao α] {m:Bool} {S R:ak} {c:List x1} {l:List α},ao.rep m S R w c l-> ∃v,c=[v]:=λh=>by obtain⟨v,ac,_⟩:=h;exact⟨v,ac⟩
 have h1:Seen _ w q f.sc:=h1;have a:Seen _ w r f.aj:=a;have j:p=[.bool (decide (f.live≠0))]:=j;have e:ao.rep m x R w s f.cs:=e;obtain⟨y,rfl⟩:=one h1;obtain⟨z,rfl⟩:=one a;obtain⟨v3,rfl⟩:=one e;subst j;exact⟨y,z,v3,rfl,iV h1,iV a,iV e⟩
theorem OQ {j:Int} (h:ko w v k sizes s):am x7 Ie [v,Δ j] w λr w'=>r= .bool (decide (0<=j)&&e3 s j.toNat)/\Ext w w':=by
 refine az func226 ?_;refine bo λg1 U A a e=>?_;obtain⟨szv,B,C,E,G,H,e,I,_,_,_,_,x,_⟩:=h.box a e;refine aV (λv V=>v= .bool (decide (0<=j)&&e3 s j.toNat)/\Ext w V) (λ_ _ h=>h) λay m=>?_;rw[cO,al];refine⟨λq=>?_,λq=>m _ _ ⟨by rw[decide_eq_false q];rfl,a⟩⟩;rw[aT bc.p 6 e rfl,io gg.u x,aN,al,u7];refine⟨λJ=>?_,λK=>m _ _ ⟨by unfold e3;rw[Z6 Ω,Bool.and_false],a⟩⟩;obtain⟨f,ae⟩:=aH (l:=s.funs) (i:=j.toNat) Ω;rw[aT bc.p 6 e rfl];refine lJ (i:=j.toNat) Ω gg.u fq.i x (by rw[x8,ae];rfl) λb o cs y z=>?_;obtain⟨L,M,v3,rfl,_⟩:=ps z;rw[aW fq.p rfl,aA (v:=.bool (decide (f.live≠0))) Ψ (y 3 _ rfl)];exact m _ _ ⟨by unfold e3;rw[ae,decide_eq_true q,U3],a⟩
end
theorem w6 {T:Nat->Prop} (h:ah S w w') (k:ah T w w'):ah (λr=>S r/\T r) w w':=
 ⟨h.size,λr o a J f=>by
  by_cases e:S r
  .exact k.aZ r o a J λj=>f ⟨e,j⟩
  .exact h.aZ r o a J e⟩
theorem qX {A R:ak} {n:aR} {s:av} {t:aB} (h:bx w ad ag A R n s t):∀r,A r\/R r->r<w.heap.size:=λr a=>by
 obtain⟨j,m,p,q,⟨_,_,e,f⟩,_⟩:=h.1;exact a.elim (f r) (e r)
structure cr (w:x3) (ad ag aq:Nat) (A R:ak) (A9:Nat->ak) (aI:ak) (n:aR) (s u:av) (t:aB) (h:List aB) (cs:List x1):Prop where
 ey:bx w ad ag A R n s t
 hN:ee t h
 box:af w aq bc cs
 doc:h9 true A9 aI w cs n.k n.sizes u
 apart:∀q r,A9 q r->¬A r/\¬R r/\r≠aq
 read:∀r,aI r->¬ev w r/\r<w.heap.size/\r≠aq
 out:¬A aq/\¬R aq
section
variable {w w':x3} {ad ag aq:Nat} {A R:ak} {A9:Nat->ak} {aI:ak} {n:aR} {s u:av} {t:aB} {h:List aB} {cs:List x1}
theorem cr.ext (p:cr w ad ag aq A R A9 aI n s u t h cs) (I:Ext w w'):cr w' ad ag aq A R A9 aI n s u t h cs:=
 ⟨p.ey.ext I,p.hN,p.box.ext I,p.doc.ext I,p.apart,λr a=>⟨λh=>(p.read r a).1 (nP (λo e J _=>I.aZ r o e J) h),by have:=(p.read r a).2.1;have:=I.size;omega,(p.read r a).2.2⟩,p.out⟩
theorem cr.prog {aQ R':ak} {s':av} {bw:aB} {h':List aB} (p:cr w ad ag aq A R A9 aI n s u t h cs) (m:ah (ev w) w w') (f:Grow A w aQ w') (y:bx w' ad ag aQ R' n s' bw) (j:ee bw h') (x:∀r,R' r->R r\/B<=r) (C:∀q r,A9 q r->r<w.heap.size->r<B) (I:aq<B):
  cr w' ad ag aq aQ R' (λq r=>A9 q r/\r<w.heap.size) aI n s' u bw h' cs:=by
 have H:=p.box.lt;have z:=m.size;refine⟨y,j,p.box.ab f.1 p.out.1,cc.ab p.doc.old (w6 m f.1) λr e h j=>?_,λq r h=>⟨λa=>?_,λe=>(x r e).elim (p.apart q r h.1).2.1 λE=>by have:=C q r h.1 h.2;omega,(p.apart q r h.1).2.2⟩,λr e=>⟨λh=>?_,by have:=(p.read r e).2.1;omega,(p.read r e).2.2⟩,λa=>?_,λe=>(x aq e).elim p.out.2 λE=>Ω⟩
 .rcases h with⟨q,h⟩|h
  .exact (p.apart q r h.1).1 j.2
  .exact (p.read r h).1 j.1
 .rcases f.2.1 r a with a|a
  .exact (p.apart q r h.1).1 a
  .have:=h.2;omega
 .exact (p.read r e).1 (nP (λo F J G=>m.aZ r o F J G) h)
 .rcases f.2.1 aq a with a|a
  .exact p.out.1 a
  .omega
theorem cr.OR {S:ak} {cg:Nat->ak} {u':av} {b5:List x1} (p:cr w ad ag aq A R A9 aI n s u t h cs) (f:ah S w w') (x:∀r,r<w.heap.size->S r->(∃q,A9 q r)\/r=aq) (y:af w' aq bc b5) (B:h9 true cg aI w' b5 n.k n.sizes u') (C:∀q r,cg q r->(∃j,A9 j r)\/(¬A r/\¬R r/\r≠aq)):
  cr w' ad ag aq A R cg aI n s u' t h b5:=by
 have H:=p.box.lt;have z:=f.size;have E:∀q r,A9 q r->¬aI r:=by obtain⟨_,_,_,_,_,_,_,_,_,_,_,_,_,F⟩:=p.doc;exact (F rfl).2
 refine⟨⟨p.ey.1.ab f λr e h J=>?_,p.ey.2⟩,p.hN,y,B,λq r h=>?_,λr e=>⟨λh=>(p.read r e).1 (nP (λo G J _=>f.aZ r o G J λa=>?_) h),by have:=(p.read r e).2.1;omega,(p.read r e).2.2⟩,p.out⟩
 .rcases x r e J with⟨q,a⟩|a
  .exact h.elim (p.apart q r a).1 (p.apart q r a).2.1
  .subst a;exact h.elim p.out.1 p.out.2
 .rcases C q r h with⟨j,a⟩|a
  .exact p.apart j r a
  .exact a
 .rcases x r (p.read r e).2.1 a with⟨q,m⟩|m
  .exact E q r m e
  .exact (p.read r e).2.2 m
theorem cr.OS {S:ak} {cg:Nat->ak} {u':av} {b5:List x1} (p:cr w ad ag aq A R A9 aI n s u t h cs) (e:∀r,A r\/R r->r<B) (C:aq<B) (f:ah S w w') (j:∀r,r<w.heap.size->S r->(∃q,A9 q r)\/r=aq) (m:af w' aq bc b5) (x:h9 true cg aI w' b5 n.k n.sizes u') (y:∀q r,cg q r->(∃z,A9 z r)\/B<=r):
  cr w' ad ag aq A R cg aI n s u' t h b5:=
 p.OR f j m x λq r h=>(y q r h).imp id λE=>⟨λa=>by have:=e r (.inl a);omega,λa=>by have:=e r (.inr a);omega,Ω⟩
theorem cr.Eb {S:ak} {cg:Nat->ak} {u':av} {b5:List x1} (p:cr w ad ag aq A R A9 aI n s u t h cs) (a:ah S w w') (e:∀r,r<w.heap.size->S r->(∃q,A9 q r)\/r=aq) (f:af w' aq bc b5) (j:h9 true cg aI w' b5 n.k n.sizes u') (m:∀q r,cg q r->(∃x,A9 x r)\/w.heap.size<=r):
  cr w' ad ag aq A R cg aI n s u' t h b5:=p.OS (qX p.ey) p.box.lt a e f j m
theorem cr.look (p:cr w ad ag aq A R A9 aI n s u t h cs):mI w aq n.k n.sizes u:=by
 refine ko.box p.doc.Od (Ext.refl _) ?_;have:=p.box;exact this
theorem cr.n0 (p:cr w ad ag aq A R A9 aI n s u t h cs):∃szv a e f j m,cs=[Δ n.k,szv,Δ u.zero,a,e,f,j,m]/\aF .i64 w szv n.sizes:=by
 obtain⟨szv,a,e,f,j,m,h1,q,_⟩:=p.doc;exact⟨szv,a,e,f,j,m,h1,eE q⟩
end
end Go.Proofs.YtmgflbkdggdhoaaGreatDoor
namespace Go.Vc
open Go Go.RowKit
section
variable {P:W0} {w:x3} {α:Type} [ao α] {S R:ak}
theorem tD {v:x1} {l:List α} {i:Nat} {a:α} (h:bC S R w [v] l) (G:l[i]? =σ a) (Y:∀r,r<w.heap.size->S r->¬R r):∃g cap c F,v= .slice (σ ⟨g,0,ν⟩) l.length cap/\w.rangeAt g (i*ao.n α) c/\bC F R w c a/\(∀r,F r->S r)/\
  ∀ {w':x3} {a':α} {T y:ak},ah T w w'->(∀r,r<w.heap.size->T r->F r)->bC y R w' c a'->(∀r,y r->F r\/w.heap.size<=r)->bC (λr=>S r\/w.heap.size<=r) R w' [v] (l.set i a'):=by
 have an:=(x4.1 G).1;obtain⟨vs,g,F,p,he,J,hm⟩:=iX h;obtain⟨Z,H,K⟩:=hm rfl;obtain⟨ap,⟨rfl,aq⟩|⟨cap,full,rfl,L,au,av,ae,aw⟩⟩:=id K
 .omega
 have aa:vs.length=l.length:=he.1;have M:S g:=Z.resolve_left Ξ;obtain⟨c,A⟩:∃c,vs[i]? =σ c:=⟨_,x6 Ω⟩;have ac:=he.2 i c a A G;refine⟨g,cap,c,F i,rfl,?_,ac,λr m=>p.sub i r m,λ{w' a' T y} N O P B=>?_⟩
 .obtain⟨_,ax,o',ay,az,ad,_,_,af,_,ag⟩:=J;cases ad;cases af Ω;intro j u ai;have Q:=ag (i*ao.n α+j) u (by rw[<-List.flatMap_id];exact oZ (f:=id) (k:=ao.n α) (λx I=>he.len x I) A ai);rw[X0] at Q;exact Q
 have aj:¬T g:=λh=>p.top rfl i (O g L.lt h);have aA:=ao.len P;have aB:vs.set i c=vs:=by
  refine Y6 λq=>?_;rw[Y3];by_cases U:i=q
  .subst U;rw[if_pos rfl,if_pos Ω,A]
  .rw[if_neg U]
 have V:bT w' g H (ao.n α) (.slice (σ ⟨g,0,ν⟩) l.length cap) (l.set i a').length vs.flatten:=by
  rw[Z2];exact K.ab N λ_=>aj
 refine⟨_,rfl,vs,g,λj r=>if j=i then y r else F j r/\r<w.heap.size,⟨λj r m=>?_,λ_ j m=>?_,λ_ j q r al h1 s=>?_⟩,⟨by simp[aa],λj W X E C=>?_⟩,?_,λ_=>⟨.inr (.inl M),H,V⟩⟩
 .split at m
  .exact (B r m).imp (p.sub i r) id
  .exact .inl (p.sub j r m.1)
 .split at m
  .rcases B g m with h|h
   .exact p.top rfl i h
   .have:=L.lt;omega
  .exact p.top rfl j m.1
 .split at h1<;>split at s
  .omega
  .rcases B r h1 with h|h
   .rename_i e _;exact p.gF rfl i q r Ω h s.1
   .have:=s.2;omega
  .rcases B r s with h|h
   .exact p.gF rfl j i r Ω h1.1 h
   .have:=h1.2;omega
  .exact p.gF rfl j q r al h1.1 s.1
 .by_cases z:j=i
  .subst z;rw[A] at E;rw[c9 Ω] at C;cases E;cases C;exact ao.mono P (λr _ h=>by simpa using h) λ_ _ h=>h
  .rw[Y2 (Ne.symm z)] at C;have am:bC (λr=>if j=i then y r else F j r/\r<w.heap.size) R w W X:=ao.mono (he.2 j W X E C) (λr m h=>by rw[if_neg z];exact⟨h,m⟩) λ_ _ h=>h;refine ao.ab am N λr m h1 s=>?_;have s:=O r m s;rcases h1 with h1|h1
   .simp only[if_neg z] at h1;exact p.gF rfl j i r z h1.1 s
   .exact Y r m (p.sub i r s) h1
 .have:=oD (S:=λr=>(S r\/w.heap.size<=r)\/R r) V (.inr (.inl (.inl M)));exact this
theorem Ec {v:x1} {l:List α} {i:Nat} {a:α} (h:bC S R w [v] l) (N:l[i]? =σ a) (O:∀r,r<w.heap.size->S r->¬R r):∃g cap full y c F,v= .slice (σ ⟨g,0,ν⟩) l.length cap/\af w g y full/\S g/\i*ao.n α+ao.n α<=full.length/\(∀ (q:Nat) x,c[q]? =σ x->full[i*ao.n α+q]? =σ x)/\bC F R w c a/\(∀r,F r->S r)/\¬F g/\
  ∀ {w':x3} {a':α} {z:List x1} {T B:ak},ah T w w'->(∀r,r<w.heap.size->T r->F r\/r=g)->af w' g y (over full (i*ao.n α) z)->bC B R w' z a'->(∀r,B r->F r\/w.heap.size<=r)->bC (λr=>S r\/w.heap.size<=r) R w' [v] (l.set i a'):=by
 have ac:=(x4.1 N).1;obtain⟨vs,g,F,s,he,J,hm⟩:=iX h;obtain⟨ad,y,ag⟩:=hm rfl;obtain⟨ax,⟨rfl,ay⟩|⟨cap,full,rfl,P,Q,ai,ae,U⟩⟩:=id ag
 .omega
 have V:vs.length=l.length:=he.1;have E:S g:=ad.resolve_left Ξ;obtain⟨c,K⟩:∃c,vs[i]? =σ c:=⟨_,x6 Ω⟩;have aj:=he.2 i c a K N;have al:(i+1)*ao.n α<=l.length*ao.n α:=X4 _ ac;have am:l.length*ao.n α<=full.length:=by rw[ae];exact X4 _ Q
 rw[V9,Nat.one_mul] at al;refine⟨g,cap,full,y,c,F i,rfl,P,E,Ω,λq x W=>?_,aj,λr p=>s.sub i r p,s.top rfl i,λ{w' a' z T B} an ap aq X G=>?_⟩
 .have L:=oZ (f:=id) (k:=ao.n α) (λx I=>he.len x I) K W;rw[List.flatMap_id,<-U] at L;have az:=(x4.1 W).1;have M:=he.len c (x5 K);rw[Z7 Ω] at L;exact L
 have M:=ao.len X;have au:∀c∈vs.set i z,c.length=ao.n α:=λc A=>by
  rcases X6 A with m|rfl
  .exact he.len c m
  .exact M
 have Y:bT w' g y (ao.n α) (.slice (σ ⟨g,0,ν⟩) l.length cap) (l.set i a').length (vs.set i z).flatten:=by
  refine⟨by rw[pW au,Z2,Z2,V],.inr ⟨cap,_,by rw[Z2],aq,by rw[Z2];exact Q,ai,by rw[lH,ae],?_⟩⟩;rw[Z2,sy Ω am,U,Dz he.len M Ω]
 refine⟨_,rfl,vs.set i z,g,λj r=>if j=i then B r else F j r/\r<w.heap.size,⟨λj r p=>?_,λ_ j p=>?_,λ_ j q r av h1 m=>?_⟩,⟨by simp[V],λj Z aa A H=>?_⟩,?_,λ_=>⟨.inr (.inl E),y,Y⟩⟩
 .split at p
  .exact (G r p).imp (s.sub i r) id
  .exact .inl (s.sub j r p.1)
 .split at p
  .rcases G g p with h|h
   .exact s.top rfl i h
   .have:=P.lt;omega
  .exact s.top rfl j p.1
 .split at h1<;>split at m
  .omega
  .rcases G r h1 with h|h
   .rename_i e _;exact s.gF rfl i q r Ω h m.1
   .have:=m.2;omega
  .rcases G r m with h|h
   .exact s.gF rfl j i r Ω h1.1 h
   .have:=h1.2;omega
  .exact s.gF rfl j q r av h1.1 m.1
 .by_cases C:j=i
  .subst C;rw[c9 Ω] at A;rw[c9 Ω] at H;cases A;cases H;exact ao.mono X (λr _ h=>by simpa using h) λ_ _ h=>h
  .rw[Y2 (Ne.symm C)] at A H;have aw:bC (λr=>if j=i then B r else F j r/\r<w.heap.size) R w Z aa:=ao.mono (he.2 j Z aa A H) (λr p h=>by rw[if_neg C];exact⟨h,p⟩) λ_ _ h=>h;refine ao.ab aw an λr p h1 m=>?_;have m:=ap r p m;rcases h1 with h1|h1
   .simp only[if_neg C] at h1;rcases m with m|rfl
    .exact s.gF rfl j i r C h1.1 m
    .exact s.top rfl j h1.1
   .rcases m with m|rfl
    .exact O r p (s.sub i r m) h1
    .exact O r p E h1
 .have:=oD (S:=λr=>(S r\/w.heap.size<=r)\/R r) Y (.inr (.inl (.inl E)));exact this
end
end Go.Vc
namespace Go.Proofs.YtmgflbkdggdhoaaGreatDoor
open Go Go.Vc Go.RowKit Go.Proofs Go.Proofs.Tryz
set_option maxRecDepth 100000
section
variable {w0 w:x3} {ad ag aq ga:Nat} {A R:ak} {A9 cg:Nat->ak} {aI:ak} {n:aR} {s u:av} {t:aB} {h:List aB} {cs b5:List x1} {aL aP k8:x1} {Q:x1->x3->Prop}
theorem cr.olds (p:cr w0 ad ag aq A R A9 aI n s u t h cs):cr w0 ad ag aq A R (λq r=>A9 q r/\r<w0.heap.size) aI n s u t h cs:=
 ⟨p.ey,p.hN,p.box,p.doc.old,λq r a=>p.apart q r a.1,p.read,p.out⟩
end
theorem pt {α β:Type} {l:List α} {i:Nat} {a b:α} {f:α->β} (h:l[i]? =σ a) (ae:f b=f a):(l.set i b).map f=l.map f:=by
 rw[V7,ae];refine Y6 λq=>?_;rw[Y3];by_cases e:i=q
 .subst e;rw[if_pos rfl,x8,h,if_pos (by rw[u7];exact (x4.1 h).1)];rfl
 .rw[if_neg e]
theorem w7 {T:Nat->Prop} (h:ah T w w'):ah (λr=>T r/\r<w.heap.size) w w':=⟨h.size,λr o a J e=>h.aZ r o a J λf=>e ⟨f,(o8.1 a).1⟩⟩
section
variable {w0 w w':x3} {ad ag aq ga:Nat} {A R:ak} {A9:Nat->ak} {aI:ak} {n:aR} {s u u':av} {t:aB} {h:List aB} {cs:List x1} {aL aP k8 v:x1} {Q:x1->x3->Prop}
theorem cc.qb {m:Bool} {zero:Int} {D:List (Λ)} {G:List Bool} {aX:List (Λ)} {H:List jg} {E:List nU} {i:Nat} (ac:cs[i]? =σ v) (h:cc m A9 aI w (cs.set i v) k sizes zero D G aX H E):cc m A9 aI w cs k sizes zero D G aX H E:=by
 have:cs.set i v=cs:=by
  refine Y6 λq=>?_;rw[Y3];by_cases a:i=q
  .subst a;have:=(x4.1 ac).1;rw[if_pos rfl,if_pos this,ac]
  .rw[if_neg a]
 rw[this] at h;exact h
theorem cr.row {T:ak} {cg:Nat->ak} {q:Nat} (p:cr w ad ag aq A R A9 aI n s u t h cs) (a:ah T w w') (e:∀r,r<w.heap.size->T r->A9 q r) (f:h9 true cg aI w' cs n.k n.sizes u') (j:∀q r,cg q r->(∃m,A9 m r)\/w.heap.size<=r):
  cr w' ad ag aq A R cg aI n s u' t h cs:=
 p.Eb a (λr x h=>.inl ⟨q,e r x h⟩) (p.box.ab a λh=>(p.apart q aq (e aq p.box.lt h)).2.2 rfl) f j
theorem w8 {q:Nat} {B:ak} (a:∀r,B r->A9 q r\/w.heap.size<=r):∀j r,ia A9 q B j r->(∃e,A9 e r)\/w.heap.size<=r:=λj r h=>by
 unfold ia at h;split at h
 .exact (a r h).imp (λh=>⟨q,h⟩) id
 .exact .inl ⟨j,h⟩
end
def ic (n:aR) (s:av) (j:Nat) (pos v o u:Int):Int:=min (lW s j (if pos=1 then[u,v] else[v,u])+ez n s o u) n.k
section
variable {w:x3} {ad ag:Nat} {A R:ak} {n:aR} {s:av} {t:aB}
theorem OT {o:Int} {g1 E G H:Nat} (h:bx w ad ag A R n s t) (h1:af w g1 ai [Δ v]) (K:af w C ai [Δ pos]) (p:af w E dy [Γ ad]) (L:af w G ai [Δ (j:Int)]) (M:af w H ai [Δ o]) (l:Λ):
  po w G0 #[Γ g1,Γ C,Γ E,Γ G,Γ H] l (ic n s j pos v o):=λw' u f _=>by
 have h:=h.ext f;refine az func123 ?_;rw[aA (v:=Δ v) Ψ ((h1.ext f).Qz rfl)];refine r5 (l:=[v,u]) an.u ai.i Ξ rfl Ψ λW ga U X q N=>?_;have I:=f.trans q;refine aV (λr V=>Ext w' V/\aF .i64 V r (if pos=1 then[u,v] else[v,u])) ?_ ?_
 .rintro aL V ⟨a,O⟩;have x:=f.trans a;rw[aA (v:=Γ ad) Ψ ((p.ext x).Qz rfl),aA (v:=Δ (j:Int)) Ψ ((L.ext x).Qz rfl)];refine OH (h.ext a) O λe Y m=>?_;have y:=x.trans m;rw[bi,bj,aA (v:=Γ ad) Ψ ((p.ext y).Qz rfl),aA (v:=Δ o) Ψ ((M.ext y).Qz rfl)];refine DT (h.ext (a.trans m)) λZ aa z=>?_;have P:=y.trans z;rw[bi,bj,aA (v:=Γ ad) Ψ ((p.ext P).Qz rfl)];refine (wX (h.ext ((a.trans m).trans z)) (DS h.2.2.2.1) (pp h.2.2.2.1)).mono ?_;rintro _ ab _ ⟨rfl,Q⟩;exact⟨rfl,((a.trans m).trans z).trans Q⟩
 intro ay J;rw[aA (v:=Δ pos) Ψ ((K.ext I).Qz rfl),bh,al];refine⟨λB=>?_,λB=>J _ _ ⟨q,by rw[if_neg B];exact N.ls⟩⟩;rw[aA (v:=Δ v) Ψ ((h1.ext I).Qz rfl)];refine r5 (l:=[u,v]) an.u ai.i Ξ rfl Ψ λac ae V ah a S=>?_;exact J _ _ ⟨q.trans a,by rw[if_pos B];exact S.ls⟩
theorem Ed {o:Int} {f:cz} {x:br} (h:bx w ad ag A R n s t) (ab:Laid w) (ae:s.funs[j]? =σ f) (aH:0<=pos/\pos<=1) (aI:f.sc.length=2) (M:f.sc[(1-pos).toNat]? =σ o) (I:s.vars[o.toNat]? =σ x):
  am x7 Gc [Γ ad,Δ (j:Int),Δ pos,Δ v] w λr w'=>Ext w w'/\r= .tuple #[Δ (cT n.k (aE x) (ic n s j pos v o)).1,Δ (cT n.k (aE x) (ic n s j pos v o)).2]:=by
 have ac:=((h.2.2.2.1.funs f (x5 ae)).1.scope.1 o (x5 M)).1;have aJ:j<4611686018427387904:=by
  have h1:=pk h.2.1 h.2.2.1;have aK:=wP ae;have aL:=(x4.1 ae).1;have aM:j<=eI s j:=by
   unfold eI;have:j<=((s.funs.take j).flatMap fi).length:=by
    have ah:∀ (L:List cz),L.length<=(L.flatMap fi).length:=λL=>by
     induction L with
     |nil=>exact p8 _
     |cons a L aN=>rw[X5,p9,c7];have:(fi a).length=a.cs.length+1:=rfl;omega
    have aj:=ah (s.funs.take j);rw[l9] at aj;omega
   omega
  omega
 refine az func50 ?_;refine bo λak U aO al C=>?_;refine bo λao V aP X G=>?_;refine bo λap aQ aR N H=>?_;refine bo λg1 E aS J O=>?_;have Y:=((al.trans X).trans N).trans J;have C:af E ak dy [Γ ad]:=((C.ext X).ext N).ext J;have G:af E ao ai [Δ (j:Int)]:=(G.ext N).ext J;have H:af E ap ai [Δ pos]:=H.ext J;have O:af E g1 ai [Δ v]:=O;refine aV (λr P=>Ext E P/\ ∃e,r=Γ e/\af P e ai [Δ o]) ?_ ?_
 .rintro _ P ⟨z,e,rfl,B⟩;have K:=Y.trans z;rw[aA (v:=Γ ad) Ψ ((C.ext z).Qz rfl),aA (v:=Δ o) Ψ (B.Qz rfl),iR];refine (wY (h.ext K) (ab.ext K) ac I (OT (h.ext K) (O.ext z) (H.ext z) (C.ext z) (G.ext z) B _)).mono ?_;rintro _ aT _ ⟨aq,rfl⟩;rw[bi,bj];exact⟨K.trans aq,rfl⟩
 intro ay Z aU m _ _;have aa:=Y.trans m;rw[aA (v:=Γ ad) Ψ ((C.ext m).Qz rfl),aA (v:=Δ (j:Int)) Ψ ((G.ext m).Qz rfl),aA (v:=Δ pos) Ψ ((H.ext m).Qz rfl),dJ,wrap_i64 Ω Ω];refine⟨?_,?_⟩
 .refine (lX (h.ext aa) ae).mono ?_;rintro r au _ ⟨p,av,aw,Q⟩;refine⟨.inl p,?_⟩;refine p1 (y:=1-pos) (i:=(1-pos).toNat) Ω an.u ai.i Q.ls M λaW co ax=>?_;rw[aA (v:=Δ o) Ψ ax];refine bG ai.i λe aB aC q B=>?_;refine⟨.inl q,.inl (p.trans q),?_⟩;have z9:=((m.trans p).trans q).size;refine bt (v:=Δ o) ai.i rfl rfl B Φ λaD S aF W=>?_;have aX:=(m.trans p).size;exact Z _ _ ⟨((m.trans p).trans q).then S λr aG he=>by have he:r=e:=he;omega,e,rfl,W⟩
 .refine bG ai.i λe aB aC q B=>?_;refine⟨.inl q,?_⟩;refine (lX (h.ext (aa.trans q)) ae).mono ?_;rintro r au _ ⟨p,av,aw,Q⟩;refine⟨.inl (q.trans p),?_⟩;rw[fx (y:=1-pos) (i:=(1-pos).toNat) Ω an.u ai.i Ψ Q.ls M];have aY:=m.size;refine bt (v:=Δ o) ai.i rfl rfl (B.ext p) Φ λaD S aF W=>?_;exact Z _ _ ⟨((m.trans q).trans p).then S λr aG he=>by have he:r=e:=he;omega,e,rfl,W⟩
def OU (n:aR) (s:av) (j pos v:Int) (r:x1):Prop:=((¬∃f u x,lY s j pos v f u x)->r= .tuple #[Δ 0,Δ (-1),Δ 1])/\ ∀f u x,lY s j pos v f u x->(f.sc.length≠2->r= .tuple #[Δ 0,Δ (-1),Δ 1])/\
 (f.sc.length=2-> ∀o y,f.sc[(1-pos).toNat]? =σ o->s.vars[o.toNat]? =σ y->r= .tuple #[Δ (cT n.k (aE y) (ic n s j.toNat pos v o)).1,Δ (cT n.k (aE y) (ic n s j.toNat pos v o)).2,Δ 0])
theorem lY.same {j:Int} {f a:cz} {u u':Int} {x e:br} (h:lY s j pos v f u x) (k:lY s j pos v a u' e):a=f/\u'=u/\e=x:=by
 have m:=h.ae;rw[k.ae] at m;cases m;have p:=h.hu;rw[k.hu] at p;cases p;have q:=h.I;rw[k.I] at q;cases q;exact⟨rfl,rfl,rfl⟩
theorem OV {j:Int} (h:bx w ad ag A R n s t) (M:Laid w):am x7 FO [Γ ad,Δ j,Δ pos,Δ v] w λr w'=>Ext w w'/\OU n s j pos v r:=by
 refine az func13 ?_;refine (OI h).mono ?_;rintro _ U _ ⟨B,e,rfl,he,E⟩;rw[bz,al];refine⟨λm=>⟨B,λ_=>by rw[he.resolve_left m],λf u x a=>absurd (E.2 ⟨f,u,x,a⟩) m⟩,λN=>?_⟩;obtain⟨f,u,x,a⟩:=E.1 (Z9.1 N);have G:=lX (h.ext B) a.ae;have Y:=a.DW;rw[show ((j.toNat:Nat):Int)=j by omega] at G;refine G.mono ?_;rintro r V _ ⟨O,Z,_,P⟩;have p:=B.trans O;rw[aU an.u P.ls,bz,al];refine⟨λm=>⟨p,λ_=>rfl,λQ u' S C=>⟨λ_=>rfl,λq=>?_⟩⟩,λq=>?_⟩
 .obtain⟨rfl,_⟩:=a.same C;omega
 have q:f.sc.length=2:=Ω
 have aa:=(x4.1 a.hu).1;have ab:=a.dT;obtain⟨o,z⟩:=aH (l:=f.sc) (i:=(1-pos).toNat) Ω;have H:=(h.2.2.2.1.funs f (x5 a.ae)).1;have ac:=h.2.2.2.1.vars;have af:=H.vars o (x5 z);have ah:=(H.scope.1 o (x5 z)).1;obtain⟨y,I⟩:=aH (l:=s.vars) (i:=o.toNat) Ω;have J:=Ed (v:=v) (h.ext p) (M.ext p) a.ae ⟨a.dT,Ω⟩ q z I;rw[show ((j.toNat:Nat):Int)=j by omega] at J;refine J.mono ?_;rintro _ ai _ ⟨W,rfl⟩;rw[bi,bj];refine⟨p.trans W,λX=>absurd ⟨f,u,x,a⟩ X,λQ u' S C=>?_⟩;obtain⟨rfl,_⟩:=a.same C;refine⟨λm=>absurd q m,λ_ o' aj K L=>?_⟩;rw[z] at K;cases K;rw[I] at L;cases L;rfl
end
theorem OW {x:Int} (h:aF .i64 w sv l):am x7 uK [sv,Δ x] w λv w'=>Ext w w'/\ ∃r:Int,v=Δ r/\(x∉l->r= -1)/\(x∈l->0<=r/\l[r.toNat]? =σ x):=by
 refine az func58 ?_;rw[aU an.u h];refine bX.range l.length (λi _ U=>Ext w U/\x∉l.take i) h.le ⟨Ext.refl _,Ξ⟩ ?_ ?_
 .rintro i _ U k hi ⟨a,e⟩ hk;refine bE Ω ?_;obtain⟨y,f⟩:=aH (l:=l) hi;rw[be an.u ai.i Ψ (h.ext a) f,bh,al];refine⟨λhe=>⟨a,i,rfl,λhm=>absurd (he▸x5 f) hm,λ_=>⟨Ω,by rw[he,u6];exact f⟩⟩,λhe=>?_⟩;rw[aM];refine hk _ _ ⟨a,λhm=>?_⟩;rw[u9,f] at hm;rcases o7.1 hm with hm|hm
  .exact e hm
  .simp at hm;exact he hm
 .rintro _ U k ⟨a,e⟩;rw[o5] at e;rw[aN,al];exact⟨λh=>Ω,λ_=>⟨a,-1,rfl,λ_=>rfl,λh=>absurd h e⟩⟩
theorem OX {x:Int} (h:aF .i64 w sv l):am x7 G3 [sv,Δ x] w λv w'=>v= .bool (decide (x∈l))/\Ext w w':=by
 refine az func127 ?_;refine (OW h).mono ?_;rintro _ U _ ⟨I,r,rfl,a,e⟩;rw[cO];refine⟨?_,I⟩;congr 1;refine decide_eq_decide.2 ⟨λj=>?_,λhm=>(e hm).1⟩;exact Z9.1 λf=>by have:=a f;omega
theorem OY {cap:Array x1} {p:Int->Bool} (h:aF .i64 w sv l)
  (q:∀w' x,Ext w w'->x∈l->am x7 j (Δ x::cap.toList) w' λr s=>r= .bool (p x)/\Ext w' s):
  am x7 uO [sv,.func (.func j) #[] cap] w λv w'=>Ext w w'/\((v=Δ (-1)/\ ∀x∈l,p x=false)\/ ∃i:Nat,v=Δ (i:Int)/\i<l.length/\(∀x∈l.take i,p x=false)/\ ∀x,l[i]? =σ x->p x=true):=by
 refine az func102 ?_;rw[aU an.u h];refine bX.range l.length (λi _ U=>Ext w U/\ ∀x∈l.take i,p x=false) h.le ⟨Ext.refl _,Ξ⟩ ?_ ?_
 .rintro i _ U k hi ⟨a,e⟩ hk;refine bE Ω ?_;obtain⟨y,f⟩:=aH (l:=l) hi;rw[be an.u ai.i Ψ (h.ext a) f];refine am.mono (q U y a (x5 f)) ?_;rintro _ V _ ⟨rfl,m⟩;rw[cb];refine⟨λz=>⟨a.trans m,.inr ⟨i,rfl,hi,e,λx I=>by rw[f] at I;cases I;exact z⟩⟩,λae=>?_⟩;rw[aM];refine hk _ _ ⟨a.trans m,λx I=>?_⟩;rw[u9,f] at I;rcases o7.1 I with I|I
  .exact e x I
  .simp at I;subst I;exact ae
 .rintro _ U k ⟨a,e⟩;rw[o5] at e;rw[aN,al];exact⟨λh=>Ω,λ_=>⟨a,.inl ⟨rfl,e⟩⟩⟩
theorem Ee {g Q:Nat} {cap:Array x1} {p:Int->Bool} (h:au .i64 e w g sv l) (aJ:l.length<=100000000)
  (R:∀w' x,ah (λr=>leads sv r) w w'->x∈l->am x7 Q (Δ x::cap.toList) w' λr Z=>r= .bool (p x)/\Ext w' Z):
  am x7 F3 [sv,.func (.func Q) #[] cap] w λv w'=>ah (λr=>leads sv r) w w'/\au .i64 e w' g v (l.filter λx=>!p x)/\ ∀r,leads v r->leads sv r:=by
 refine az func32 ?_;refine (OY h.ls λw' x I=>R w' x (I.ab _)).mono ?_;rintro _ U _ ⟨B,⟨rfl,K⟩|⟨i,rfl,hi,K,aa⟩⟩
 .rw[bh,al];refine⟨λ_=>⟨B.ab _,?_⟩,λh=>absurd rfl h⟩;rw[List.filter_eq_self.2 λx I=>by rw[K x I];rfl];exact⟨h.ext B,λ_ h=>h⟩
 rw[bh,al];refine⟨λh=>Ω,λ_=>?_⟩;rw[aM,wrap_i64 Ω Ω];obtain⟨n,L⟩:∃n,l.length=n:=⟨_,rfl⟩;obtain⟨s,rfl⟩:∃s,sv= .slice (σ ⟨g,0,ν⟩) n s:=by
  obtain⟨_,⟨_,h1⟩|⟨s,cs,h1,_⟩⟩:=id h
  .omega
  .exact⟨s,by rw[h1,L]⟩
 obtain⟨_,_,_,_,aK,ac,_⟩:=qA h Ω;have S:∀r,r=g->leads (.slice (σ ⟨g,0,ν⟩) n s) r:=λr M=>⟨_,_,_,rfl,M.symm⟩;have ad:(l.take (i+1)).filter (λx=>!p x)=l.take i:=by
  obtain⟨y,z⟩:=aH (l:=l) hi;rw[u9,z,List.filter_append,List.filter_eq_self.2 λx I=>by rw[K x I];rfl];simp[aa y z]
 refine⟨λN O C=>∃ (q j:Nat) (f:Λ),N=Δ (q:Int)/\O=Δ (j:Int)/\q<j/\j<=n/\ah (λr=>r=g) w C/\au .i64 e C g (.slice (σ ⟨g,0,ν⟩) n s) f/\f.length=n/\f.take q=(l.take j).filter (λx=>!p x)/\ ∀k,j<=k->f[k]? =l[k]?,
  λ_ O _=>n-(bU O).toNat,⟨i,i+1,l,rfl,rfl,Ω,Ω,B.ab _,h.ext B,L,ad.symm,λ_ _=>rfl⟩,?_⟩
 rintro _ _ C ⟨q,j,f,rfl,rfl,aL,aO,E,G,V,A,P⟩;have aP:q=((l.take j).filter λx=>!p x).length:=by rw[<-A,l9];omega
 rw[hE an.u,aN,al];refine⟨λaf=>?_,λaQ=>?_⟩
 .have af:j<n:=Ω
  obtain⟨y,z⟩:=aH (l:=l) (i:=j) Ω;have ag:f[j]? =σ y:=by rw[P j (p8 _),z]
  refine aV (λN H=>∃ (q:Nat) (f:Λ),N=Δ (q:Int)/\q<j+1/\ah (λr=>r=g) w H/\au .i64 e H g (.slice (σ ⟨g,0,ν⟩) n s) f/\f.length=n/\f.take q=(l.take (j+1)).filter (λx=>!p x)/\ ∀k,j+1<=k->f[k]? =l[k]?) ?_ ?_
  .rintro _ H ⟨q,f,rfl,h1,aj,ak,ao,ap,aq⟩;rw[aM,wrap_i64 Ω Ω];exact⟨⟨q,j+1,f,rfl,rfl,h1,Ω,aj,ak,ao,ap,aq⟩,by simp only[bU];omega⟩
  intro ay W;rw[be an.u ai.i Ψ G.ls ag];refine am.mono (R C y (E.mono λr _=>S r) (x5 z)) ?_;rintro _ H _ ⟨rfl,J⟩;have X:(l.take (j+1)).filter (λx=>!p x)=(l.take j).filter (λx=>!p x)++[y].filter (λx=>!p x):=by rw[u9,z,List.filter_append];rfl
  rw[bI,cb];refine⟨λav=>?_,λae=>?_⟩
  .have Y:=G.ext J;rw[hn rfl an.u ai.i Y Ω];refine ho ai.i Y Ω λaR aw aS ax=>?_;rw[aM,wrap_i64 Ω Ω];refine W _ _ ⟨q+1,_,rfl,Ω,(E.trans (J.ab _)).trans aw,ax,by simpa using V,?_,λk hk=>?_⟩
   .rw[X,u9,c9 Ω,List.take_set_of_le (p8 _),A];simp only[l7];rw[show[y].filter (λx=>!p x)=[y] by simpa using av]
   .rw[Y2 Ω];exact P k Ω
  .refine W _ _ ⟨q,f,rfl,Ω,E.trans (J.ab _),G.ext J,V,?_,λk hk=>P k Ω⟩;rw[X,show[y].filter (λx=>!p x)=[] by simpa using ae,U2];exact A
 .have aA:j=n:=Ω
  subst aA;rw[<-L,o5] at A;obtain⟨_,_,cs,aB,_,_,aT,aC⟩:=qA G Ω;simp only[maxLen] at ac;rw[hF an.u ai.i (l:=q) (h:=j) (m:=s) pS jv fw Ω Ω Ω,if_neg Ω];have aD:V4 (λx:Addr=>x.add (q*1)) (σ ⟨g,0,ν⟩)=σ ⟨g,q,ν⟩:=by simp[T1]
  rw[aD];refine Ac an.u ai.i rfl rfl aB Ω Ω λaU aE aW aF=>?_;rw[hF an.u ai.i (l:=0) (h:=q) (m:=s) ju pT fw Ω Ω Ω,if_neg Ω];have aG:V4 (λx:Addr=>x.add (0*1)) (σ ⟨g,0,ν⟩)=σ ⟨g,0,ν⟩:=by simp[T1]
  rw[aG];refine⟨(E.trans aE).mono λr _=>S r,?_⟩;have aX:(l.filter λx=>!p x).length=q:=by rw[<-A,l9];omega
  rw[<-A,Nat.sub_zero];refine⟨?_,λr M=>by obtain⟨a,_,_,e,aI⟩:=M;cases e;exact⟨_,_,_,rfl,aI⟩⟩;refine au.of (n:=q) ⟨Θ,.inr ⟨s,_,Ξ,aF,Ω,by simp only[maxLen];omega,by rw[lH];omega,?_⟩⟩;rw[V8];apply Y6;intro k;by_cases hk:k<q
  .rw[Z7 hk,ni _ _ _ Θ,if_neg Ω,ints,x8,Z7 hk];have:(cs.take j)[k]? =(ints .i64 f)[k]?:=by rw[aC]
   rw[Z7 Ω,ints,x8] at this;exact this
  .rw[Z6 Θ,Z6 Θ]
def jM (s:av) (i:Int) (j:Nat):Bool:=match s.funs[j]? with
 |some f=>decide (f.live≠0)&&decide (i∈f.sc)
 |none=>false
def hP (s:av) (i:Int) (m:Nat):Λ:=((Z8 m).filter (jM s i)).map λj:Nat=>(j:Int)
theorem OZ {A R:ak} {n:aR} {s:av} {t:aB} {i:Int} (h:bx w ad ag A R n s t):am x7 Gg [Γ ad,Δ i] w λv w'=>Ext w w'/\ ∃g,au .i64 ai w' g v (hP s i s.funs.length)/\ ∀r,leads v r->w.heap.size<=r:=by
 have aC:=pk h.2.1 h.2.2.1;have aD:s.funs.length<=100000000:=by
  have h1:=qI s;have N:∀ (L:List cz),L.length<=(L.flatMap fi).length:=λL=>by
   induction L with
   |nil=>exact p8 _
   |cons a L aE=>rw[X5,p9,c7];have:(fi a).length=a.cs.length+1:=rfl;omega
  have aF:=N s.funs;omega
 refine az func55 ?_;refine (tk h).mono ?_;rintro _ U _ ⟨rfl,O⟩;refine bX.range s.funs.length (λj out V=>Ext w V/\ ∃g,au .i64 ai V g out (hP s i j)/\ ∀r,leads out r->w.heap.size<=r) Ω ⟨O,0,au.nil _ _ _ _,λr C=>by obtain⟨a,n,c,P,aG⟩:=C;cases P⟩ ?_ ?_
 .rintro j out V Q S ⟨m,g,hm,z⟩ W;obtain⟨f,ae⟩:=aH (l:=s.funs) S;have H:hP s i (j+1)=if jM s i j=true then hP s i j++[(j:Int)] else hP s i j:=by
   unfold hP;rw[List.range_succ,List.filter_append];cases X:jM s i j<;>simp[X]
  refine bE Ω ?_;refine aV (λout q=>Ext w q/\ ∃g,au .i64 ai q g out (hP s i (j+1))/\ ∀r,leads out r->w.heap.size<=r) ?_ ?_
  .rintro out q Y;rw[aM];exact W _ _ Y
  intro ay I;refine aV (λr q=>r= .bool (jM s i j)/\Ext V q) ?_ ?_
  .rintro _ q ⟨rfl,e⟩;rw[cb];refine⟨λZ=>?_,λae=>I _ _ ⟨m.trans e,g,by rw[H,if_neg (by rw[ae];decide)];exact hm.ext e,z⟩⟩;refine eo (k:=.i64) an.u ai.i rfl λv4 aI aa aJ B ab=>?_;have aK:(hP s i j).length<=j:=by unfold hP;rw[u7];have:=List.length_filter_le (jM s i) (Z8 j);rw[List.length_range] at this;exact this
   refine gX an.u ai.i rfl ((hm.ext e).ext B) ab.ls Θ Θ λv5 ac af ah aj ao=>?_;have z3:=m.size;have ap:Ext w af:=((m.trans e).trans B).then ao λr C he=>by have:=z r he;omega
   have z4:=((m.trans e).trans B).size;exact I _ _ ⟨ap,ac,by rw[H,if_pos Z];exact ah,λr C=>(aj r C).elim (z r) λh=>Ω⟩
  intro aL J;refine (qP (j:=(j:Int)) (h.ext m)).mono ?_;rintro _ q _ ⟨rfl,e⟩;rw[decide_eq_true Ω,U3,u6];have aq:e3 s j=decide (f.live≠0):=by unfold e3;rw[ae]
  rw[aq,al];refine⟨λE=>?_,λE=>J _ _ ⟨by unfold jM;rw[ae];simp only;rw[decide_eq_false E];rfl,e⟩⟩;obtain⟨aQ,aS,aT,aU,a6,aX,L,aY,aw,aZ,a1,a2,K,G⟩:=(h.ext (m.trans e)).1.parts;obtain⟨y,M⟩:∃y,L[j]? =σ y:=⟨_,x6 (by rw[G.1];omega)⟩;obtain⟨ax,_,_⟩:=G.2 j y f M ae;rw[aO cE.p 3 aw rfl,dr rfl e5.u ed.i K (by rw[G.1];omega),aW ed.p rfl,aA (v:=y.aP) Ψ (K.range M 0 _ rfl)];refine (OX (x:=i) ax.ls).mono ?_;rintro _ aa _ ⟨rfl,B⟩;exact J _ _ ⟨by unfold jM;rw[ae];simp only;rw[decide_eq_true E,U3],e.trans B⟩
 .rintro out V Q ⟨m,g,hm,z⟩;rw[aN,al];exact⟨λh=>Ω,λ_=>⟨m,g,hm,z⟩⟩
theorem Ef {full c:List x1} {o q:Nat} {x:x1} (f:∀ (k:Nat) y,c[k]? =σ y->full[o+k]? =σ y) (h:o+c.length<=full.length) (j:q<c.length):full.set (o+q) x=over full o (c.set q x):=by
 refine Y6 λk=>?_;rw[ni _ _ _ (by rw[Z2];exact h),Y3,Z2];by_cases h1:o<=k/\k<o+c.length
 .rw[if_pos h1,Y3];by_cases a:o+q=k
  .rw[if_pos a,if_pos Ω,if_pos Ω,if_pos Ω]
  .rw[if_neg a,if_neg Ω];have e:k-o<c.length:=Ω
   have:=f (k-o) c[k-o] (x6 e);rw[x6 e,<-this];congr 1;omega
 .rw[if_neg h1,if_neg Ω]
section
variable {w0 w w':x3} {ad ag aq ga:Nat} {A R:ak} {A9:Nat->ak} {aI:ak} {n:aR} {s u u':av} {t:aB} {h:List aB} {cs:List x1} {aL aP k8 v:x1} {Q:x1->x3->Prop}
theorem cr.gF (p:cr w ad ag aq A R A9 aI n s u t h cs):(∀i j r,i≠j->A9 i r->¬A9 j r)/\ ∀i r,A9 i r->¬aI r:=by
 obtain⟨_,_,_,_,_,_,_,_,_,_,_,_,_,a⟩:=p.doc;exact a rfl
theorem cr.O0 {T:ak} (p:cr w ad ag aq A R A9 aI n s u t h cs) (x:∀q r,A9 q r->r<w.heap.size) (ac:cs[6]? =σ v) (e:ah T w w') (f:∀r,r<w.heap.size->T r->A9 3 r) (y:bC (λr=>A9 3 r\/w.heap.size<=r) aI w' [v] (u'.funs.map h8))
  (z:u'.zero=u.zero) (C:u'.vars=u.vars) (E:u'.gW=u.gW):∃cg,cr w' ad ag aq A R cg aI n s u' t h cs/\ ∀q r,cg q r->(∃F,A9 F r)\/w.heap.size<=r:=by
 have G:=cc.kq p.doc (w7 e) (λr a=>.inl (f r a.2 a.1)) y (λj r H a=>?_) (λr a=>?_)
 .have m:=w8 (w:=w) (A9:=A9) (q:=3) (B:=λr=>A9 3 r\/w.heap.size<=r) λr h=>h;refine⟨_,p.row e f ?_ m,m⟩;have:=cc.qb ac G;unfold h9;rw[z,C,E];exact this
 .rcases a with a|a
  .exact p.gF.1 3 j r (Ne.symm H) a
  .exact λh=>by have:=x j r h;omega
 .rcases a with a|a
  .exact p.gF.2 3 r a
  .exact λh=>by have:=(p.read r h).2.1;omega
end
theorem O1 {m:Int} {w:Int} (ac:0<=v) (hw:0<=w):dropped (((m.toNat ||| 2 ^ v.toNat:Nat):Int)) w=(dropped m w||decide (w=v)):=by
 unfold dropped;rw[u6,Nat.testBit_or,Nat.testBit_two_pow];congr 1;exact decide_eq_decide.2 ⟨λh=>Ω,λh=>Ω⟩
theorem w9 {x:br} (ac:0<=v):aE {x with mask:=((x.mask.toNat ||| 2 ^ v.toNat:Nat):Int)}=(aE x).filter λy=>!decide (y=v):=by
 unfold aE;rw[List.filter_filter];refine List.filter_congr λy a=>?_;obtain⟨q,_,rfl⟩:=n9.1 a;rw[O1 ac Ω];cases dropped x.mask (q:Int)<;>simp
section
variable {w0 w w':x3} {ad ag aq ga:Nat} {A R:ak} {A9:Nat->ak} {aI:ak} {n:aR} {s u u':av} {t:aB} {h:List aB} {cs:List x1} {aL aP k8 v:x1} {Q:x1->x3->Prop}
theorem cr.n1 {T:ak} (p:cr w ad ag aq A R A9 aI n s u t h cs) (y:∀q r,A9 q r->r<w.heap.size) (ac:cs[3]? =σ v) (e:ah T w w') (f:∀r,r<w.heap.size->T r->A9 0 r) (z:bC (λr=>A9 0 r\/w.heap.size<=r) aI w' [v] (u'.vars.map aE))
  (C:u'.zero=u.zero) (E:u'.vars.map (·.un)=u.vars.map (·.un)) (F:(u'.vars.map λx=>decide (x.gone≠0))=u.vars.map λx=>decide (x.gone≠0)) (G:u'.funs=u.funs) (H:u'.gW=u.gW):
  ∃cg,cr w' ad ag aq A R cg aI n s u' t h cs/\ ∀q r,cg q r->(∃I,A9 I r)\/w.heap.size<=r:=by
 have J:=cc.DC p.doc (w7 e) (λr a=>.inl (f r a.2 a.1)) z (λj r K a=>?_) (λr a=>?_)
 .have m:=w8 (w:=w) (A9:=A9) (q:=0) (B:=λr=>A9 0 r\/w.heap.size<=r) λr h=>h;refine⟨_,p.row e f ?_ m,m⟩;have:=cc.qb ac J;unfold h9;rw[C,E,F,G,H];exact this
 .rcases a with a|a
  .exact p.gF.1 0 j r (Ne.symm K) a
  .exact λh=>by have:=y j r h;omega
 .rcases a with a|a
  .exact p.gF.2 0 r a
  .exact λh=>by have:=(p.read r h).2.1;omega
end
section
variable {w0 w w':x3} {ad ag aq ga:Nat} {A R:ak} {A9:Nat->ak} {aI:ak} {n:aR} {s u u':av} {t:aB} {h:List aB} {cs:List x1} {aL aP k8 v:x1} {Q:x1->x3->Prop}
theorem O2 {F:ak} {c:List x1} {f:cz} (h:bC (α:=jg) F R w c (h8 f)) (y:∀r,F r->¬R r):∃aP szv a7 e,c=[aP,szv,a7,.bool (decide (f.live≠0))]/\bC e R w [a7] f.cs/\(∀r,e r->F r)/\
  ∀ {w':x3} {b5:Λ},ah e w w'->bC e R w' [a7] b5->bC (α:=jg) F R w' c (h8 {f with cs:=b5}):=by
 obtain⟨Z,L,A,B,rfl,z,M,N,h1,m⟩:=h;obtain⟨O,aa,aQ,P,rfl,Q,C,E,G,S⟩:=h1;obtain⟨T,U,V,p,rfl,W,q,H,I,J⟩:=S;have m:L=[.bool (decide (f.live≠0))]:=m;subst m;obtain⟨s,rfl⟩:=W3.1 (show O.length=1 from ao.len G);obtain⟨j,rfl⟩:=W3.1 (show T.length=1 from ao.len I);obtain⟨v3,rfl⟩:=W3.1 (show U.length=1 from ao.len J);have x:∀r,p r->F r:=λr h=>z r (C r (q r h));refine⟨s,j,v3,p,rfl,J,x,λ{w' b5} K X=>?_⟩;refine⟨[s,j,v3],[.bool (decide (f.live≠0))],A,B,rfl,z,M,N,⟨[s],[j,v3],aQ,P,rfl,Q,C,E,ao.ab G K λr Y a he=>?_,[j],[v3],V,p,rfl,W,q,H,ao.ab I K λr Y a he=>?_,X⟩,rfl⟩
 .exact a.elim (λa=>E rfl r a (q r he)) (y r (x r he))
 .exact a.elim (λa=>H rfl r a he) (y r (x r he))
end
theorem dl.vars {s:av} {i:Nat} {x y:br} (h:dl s) (I:s.vars[i]? =σ x) (m:y.gone=x.gone):dl {s with vars:=s.vars.set i y}:=λf ae j v ac z a=>by
 have a:(s.vars.set i y)[v.toNat]? =σ z:=a;rw[Y3] at a;split at a
 .rename_i e;split at a
  .cases a;subst e;rw[m];exact h f ae j v ac x I
  .cases a
 .exact h f ae j v ac z a
theorem dl.funs {s:av} {f g:cz} (h:dl s) (ae:s.funs[j]? =σ f) (J:g.sc=f.sc) (m:g.live≠0->f.live≠0):dl {s with funs:=s.funs.set j g}:=λx I a v ac z e=>by
 rcases X6 I with I|rfl
 .exact h x I a v ac z e
 .exact h f (x5 ae) (m a) v (by rw[<-J];exact ac) z e
structure hy where
 kind:Nat
 i:Int
 pos:Int
 v:Int
 c:Int
def ei (s:av) (i v:Int):Option br:=if 0<=i then match s.vars[i.toNat]? with
 |some x=>if x.gone=0/\v∈aE x then σ x else ν
 |none=>ν else ν
def ej (s:av) (j pos v:Int):Option (cz×Int×br):=if 0<=j/\0<=pos then match s.funs[j.toNat]? with
 |some f=>if f.live≠0 then match f.sc[pos.toNat]? with
  |some u=>(ei s u v).map λx=>(f,u,x)
  |none=>ν
  else ν
 |none=>ν else ν
def lZ (k:Int) (s:av) (f:cz) (pos:Nat) (v:Int):Int:=((ce s f.sc pos v).map (bn f.aj f.cs)).foldl min k
def dm (k c most:Int):Int:=if ¬(0<=c/\c<=k) then 3 else if most<c then 7 else 0
def iI (x:br):Int:=match (aE x).map λv=>x.un.getD v.toNat 0 with
 |[]=>-1
 |c::l=>l.foldl min c
def fY (s:av) (i:Nat) (v:Int):Λ->av
 |[]=>s
 |w::L=>fY (if w≠v then cd s i w.toNat else s) i v L
def cA (k:Int) (s:av) (a:hy):av×Int:=
 if a.kind=0 then match ej s a.i a.pos a.v with
  |none=>(s,1)
  |some (f,u,x)=>if dm k a.c (lZ k s f a.pos.toNat a.v)≠0 then (s,dm k a.c (lZ k s f a.pos.toNat a.v)) else (iH s a.i.toNat f a.pos.toNat u.toNat x a.v (λg=>dG k g a.c) λg=>dH k g a.c,0)
 else if a.kind=1 then match ej s a.i a.pos a.v with
  |none=>(s,1)
  |some (f,u,x)=>if dm k a.c (x.un.getD a.v.toNat 0)≠0 then (s,dm k a.c (x.un.getD a.v.toNat 0)) else (iH s a.i.toNat f a.pos.toNat u.toNat x a.v (λg=>dH k g a.c) λg=>dG k g a.c,0)
 else if a.kind=2 then match (if 0<=a.i then s.vars[a.i.toNat]? else ν) with
  |none=>(s,1)
  |some x=>if x.gone≠0 then (s,1) else if dm k a.c (iI x)≠0 then (s,dm k a.c (iI x)) else (kt s a.i.toNat x (λg=>dG k g a.c) λg=>dH k g a.c,0)
 else if a.kind=3 then match (if 0<=a.i then s.vars[a.i.toNat]? else ν) with
  |none=>(s,1)
  |some x=>if x.gone≠0 then (s,1) else if dm k a.c (if aE x=[] then-1 else s.zero)≠0 then (s,dm k a.c (if aE x=[] then-1 else s.zero)) else (kt s a.i.toNat x (λg=>dH k g a.c) λg=>dG k g a.c,0)
 else if a.kind=4 then match ei s a.i a.v with
  |none=>(s,1)
  |some x=>if dH k s.zero (x.un.getD a.v.toNat 0)<k then (s,7) else (cd s a.i.toNat a.v.toNat,0)
 else match ei s a.i a.v with
  |none=>(s,1)
  |some x=>(fY s a.i.toNat a.v (aE x),0)
theorem pu:∀ (l:Λ) (z c:Int),c<=l.foldl min z↔c<=z/\ ∀x∈l,c<=x
 |[],z,c=>Ξ
 |a::l,z,c=>by
  rw[U7,pu l (min z a) c];rw[List.forall_mem_cons];exact⟨λ⟨h1,e⟩=>⟨Ω,Ω,e⟩,λ⟨h1,e,f⟩=>⟨Ω,f⟩⟩
theorem mJ {most:Int} (h:¬dm k c most≠0):(0<=c/\c<=k)/\c<=most:=by
 unfold dm at h;split at h
 .exact absurd Φ h
 .rename_i h1;split at h
  .exact absurd Φ h
  .exact⟨Z9.1 h1,Ω⟩
theorem ku {s:av} {i:Int} {x:br} (h:ei s i v=σ x):0<=i/\s.vars[i.toNat]? =σ x/\x.gone=0/\v∈aE x:=by
 unfold ei at h;split at h
 .rename_i e;split at h
  .rename_i y f;split at h
   .rename_i a;cases h;exact⟨e,f,a.1,a.2⟩
   .cases h
  .cases h
 .cases h
theorem mK {s:av} {j u:Int} {f:cz} {x:br} (h:ej s j pos v=σ (f,u,x)):0<=j/\0<=pos/\s.funs[j.toNat]? =σ f/\f.live≠0/\f.sc[pos.toNat]? =σ u/\ei s u v=σ x:=by
 unfold ej at h;split at h
 .rename_i a;split at h
  .rename_i g e;split at h
   .rename_i m;split at h
    .rename_i w hw;cases ac:ei s w v with
     |none=>rw[ac] at h;cases h
     |some y=>
      rw[ac] at h;cases h;exact⟨a.1,a.2,e,m,hw,ac⟩
    .cases h
   .cases h
  .cases h
 .cases h
section
variable {k:Int} {sizes a:Λ} {s:av}
theorem mL {g:Int} (a:0<=g/\g<=k) (e:0<=c/\c<=g):0<=dG k g c/\dG k g c<=k:=by
 unfold dG;split<;>omega
theorem mM {g:Int} (a:0<=g/\g<=k) (e:0<=c):0<=dH k g c/\dH k g c<=k:=by
 unfold dH;omega
theorem hQ {u:Nat} {v:Nat} {x:br} (a:bq k sizes s) (I:s.vars[u]? =σ x):0<=x.un.getD v 0/\x.un.getD v 0<=k:=by
 have hk:=a.eh;have e:=(x4.1 I).1;have f:=a.vars;exact DZ Ω (a.var u x _ I (x6 Ω)).2.1
theorem n2 {f:cz} (a:bq k sizes s) (ae:f∈s.funs):0<=bn f.aj f.cs t/\bn f.aj f.cs t<=k:=(sX a.eh λc e=>⟨a.eh,(a.funs f ae).1.hv c e⟩).2
theorem xa {x:br} (h:v∈aE x) (a:c<=iI x):c<=x.un.getD v.toNat 0:=by
 unfold iI at a;have hm:x.un.getD v.toNat 0∈(aE x).map λv=>x.un.getD v.toNat 0:=n9.2 ⟨v,h,rfl⟩;generalize (aE x).map (λv=>x.un.getD v.toNat 0)=l at a hm;cases l with
 |nil=>cases hm
 |cons b l=>
  have h1:=(pu l b c).1 a;rcases W9.1 hm with e|e
  .rw[e];exact h1.1
  .exact h1.2 _ e
theorem qY {i:Nat} {v:Int} {x:br}:∀ (L:Λ) (s:av),bq k sizes s->s.vars[i]? =σ x->(∀w∈L,0<=w/\w<x.un.length)->bq k sizes (fY s i v L)/\(dl s->dl (fY s i v L))/\
  ∀ba,h6 s a->x.gone=0->a[i]? =σ ba->fj k (fY s i v L) a=if ba∈L/\ba≠v then k else fj k s a
 |[],s,p,I,_=>⟨p,id,λba _ _ _=>by rw[if_neg Ξ];rfl⟩
 |w::L,s,p,I,A=>by
  unfold fY;by_cases hw:w≠v
  .rw[if_pos hw];have E:=A w (.head _);have H:=nZ p I E;have F:=(x4.1 I).1;have J:(cd s i w.toNat).vars[i]? =σ {x with mask:=((x.mask.toNat ||| 2 ^ w.toNat:Nat):Int)}:=by rw[gN I];exact c9 F
   obtain⟨h1,B,C⟩:=qY L (cd s i w.toNat) H J λu hu=>A u (.tail _ hu);refine⟨h1,λK=>B ?_,λba j r z=>?_⟩
   .rw[gN I];exact dl.vars K I rfl
   .have M:h6 (cd s i w.toNat) a:=by
     rw[gN I];refine⟨by show a.length=(s.vars.set _ _).length;rw[Z2];exact j.1,λq y b m G=>?_⟩;have m:(s.vars.set i {x with mask:=((x.mask.toNat ||| 2 ^ w.toNat:Nat):Int)})[q]? =σ y:=m;by_cases e:i=q
     .subst e;rw[c9 F] at m;cases m;exact j.2 i x b I G
     .rw[Y2 e] at m;exact j.2 q y b m G
    rw[C ba M r z,Ea p j I r E z];by_cases e:ba=w
    .subst e;rw[if_pos rfl,if_pos (show ba∈ba::L/\ba≠v from⟨.head _,hw⟩)];split<;>rfl
    .rw[if_neg e];by_cases f:ba∈L/\ba≠v
     .rw[if_pos f,if_pos ⟨.tail _ f.1,f.2⟩]
     .rw[if_neg f,if_neg λh=>f ⟨(W9.1 h.1).resolve_left e,h.2⟩]
  .rw[if_neg hw];obtain⟨h1,B,C⟩:=qY L s p I λu hu=>A u (.tail _ hu);refine⟨h1,B,λba j r z=>?_⟩;rw[C ba j r z];have hw:=Z9.1 hw;by_cases f:ba∈L/\ba≠v
   .rw[if_pos f,if_pos ⟨.tail _ f.1,f.2⟩]
   .rw[if_neg f,if_neg λh=>f ⟨(W9.1 h.1).resolve_left λe=>h.2 (e.trans hw),h.2⟩]
theorem dl.zero (h:dl s):dl {s with zero:=c}:=h
theorem Eh {pos u:Nat} {f:cz} {x:br} {tup un:Int->Int} (h:dl s) (ae:s.funs[j]? =σ f) (I:s.vars[u]? =σ x):dl (iH s j f pos u x v tup un):=
 dl.vars (s:=dI s j f (dx tup (ce s f.sc pos v) f.aj f.cs)) (dl.funs h ae rfl id) I rfl
theorem Ei {u:Nat} {x:br} {g z:Int->Int} (h:dl s) (I:s.vars[u]? =σ x):dl (kt s u x g z):=dl.zero (dl.vars h I rfl)
def pv (k:Int) (s:av) (m:hy) (s':av) (e:Int) (a:Λ):Prop:=fj k s' a=if 5<=m.kind/\e=0/\a[m.i.toNat]? ≠σ m.v then k else fj k s a
theorem O3 {m:hy} (j:bq k sizes s) (E:dl s):bq k sizes (cA k s m).1/\dl (cA k s m).1/\ ∀a,h6 s a->pv k s m (cA k s m).1 (cA k s m).2 a:=by
 have hk:=j.eh;have A:∀e:Int,e≠0->bq k sizes s/\dl s/\ ∀a,h6 s a->pv k s m s e a:=λe he=>⟨j,E,λa _=>by unfold pv;rw[if_neg λh=>he h.2.1]⟩;have low:∀ {s':av} {e:Int},m.kind<5->bq k sizes s'->dl s'->(∀a,h6 s a->fj k s' a=fj k s a)->bq k sizes s'/\dl s'/\ ∀a,h6 s a->pv k s m s' e a:=λhm h1 J S=>⟨h1,J,λa p=>by unfold pv;rw[if_neg λh=>Ω];exact S a p⟩;unfold cA;split
 .rename_i O;cases y:ej s m.i m.pos m.v with
  |none=>exact A 1 Φ
  |some q=>
   obtain⟨f,u,x⟩:=q;simp only;split
   .rename_i he;exact A _ he
   .rename_i he;obtain⟨z,hm⟩:=mJ he;simp only;obtain⟨_,_,ae,K,hu,ac⟩:=mK y;obtain⟨Z,I,C,P⟩:=ku ac;have F:=x5 ae;have T:∀t∈ce s f.sc m.pos.toNat m.v,m.c<=bn f.aj f.cs t:=λt B=>((pu _ _ _).1 hm).2 _ (n9.2 ⟨t,B,rfl⟩);have Q:f.sc[m.pos.toNat]? =σ ((u.toNat:Nat):Int):=by rw[hu];congr 1;omega
    have B:∀t∈ce s f.sc m.pos.toNat m.v,0<=dG k (bn f.aj f.cs t) m.c/\dG k (bn f.aj f.cs t) m.c<=k:=λt B=>mL (n2 j F) ⟨z.1,T t B⟩;have L:=mM (k:=k) (hQ (v:=m.v.toNat) j I) z.1;refine low Ω (D5 j ae I B L) (Eh E ae I) λa p=>D6 j p ae K Q I P (E f F K) B L λt B r G=>?_;have:=n2 (t:=t) j F;exact tw G ⟨T t B,this.2⟩ (hQ j I) z.1
 split
 .rename_i _ O;cases y:ej s m.i m.pos m.v with
  |none=>exact A 1 Φ
  |some q=>
   obtain⟨f,u,x⟩:=q;simp only;split
   .rename_i he;exact A _ he
   .rename_i he;obtain⟨z,hm⟩:=mJ he;simp only;obtain⟨_,_,ae,K,hu,ac⟩:=mK y;obtain⟨Z,I,C,P⟩:=ku ac;have F:=x5 ae;have Q:f.sc[m.pos.toNat]? =σ ((u.toNat:Nat):Int):=by rw[hu];congr 1;omega
    have B:∀t∈ce s f.sc m.pos.toNat m.v,0<=dH k (bn f.aj f.cs t) m.c/\dH k (bn f.aj f.cs t) m.c<=k:=λt B=>mM (n2 j F) z.1;have L:=mL (k:=k) (hQ (v:=m.v.toNat) j I) ⟨z.1,hm⟩;refine low Ω (D5 j ae I B L) (Eh E ae I) λa p=>D6 j p ae K Q I P (E f F K) B L λt B r G=>?_;have h1:=n2 (t:=t) j F;have J:=hQ (v:=m.v.toNat) j I;have:=tw (k:=k) G ⟨hm,J.2⟩ h1 z.1;omega
 split
 .rename_i _ _ O;cases y:(if 0<=m.i then s.vars[m.i.toNat]? else ν) with
  |none=>exact A 1 Φ
  |some x=>
   have I:s.vars[m.i.toNat]? =σ x:=by split at y;exact y;cases y
   simp only;split
   .exact A 1 Φ
   split
   .rename_i he;exact A _ he
   .rename_i C he;obtain⟨z,hm⟩:=mJ he;simp only;have U:∀v∈aE x,m.c<=x.un.getD v.toNat 0:=λv ac=>xa ac hm;have M:∀v∈aE x,0<=dG k (x.un.getD v.toNat 0) m.c/\dG k (x.un.getD v.toNat 0) m.c<=k:=λv ac=>mL (hQ j I) ⟨z.1,U v ac⟩;have N:=mM (k:=k) j.zero z.1;refine low Ω (w5 j I M N) (Ei E I) λa p=>D8 j p I (Z9.1 C) M N λv ac r G=>?_;exact tw G ⟨U v ac,(hQ j I).2⟩ j.zero z.1
 split
 .rename_i _ _ _ O;cases y:(if 0<=m.i then s.vars[m.i.toNat]? else ν) with
  |none=>exact A 1 Φ
  |some x=>
   have I:s.vars[m.i.toNat]? =σ x:=by split at y;exact y;cases y
   simp only;obtain⟨V,W⟩:∃V,V=(if aE x=[] then-1 else s.zero):=⟨_,rfl⟩;rw[<-W];split
   .exact A 1 Φ
   split
   .rename_i he;exact A _ he
   .rename_i C he;obtain⟨z,hm⟩:=mJ he;simp only;have X:m.c<=s.zero:=by
     rw[W] at hm;split at hm
     .omega
     .exact hm
    have M:∀v∈aE x,0<=dH k (x.un.getD v.toNat 0) m.c/\dH k (x.un.getD v.toNat 0) m.c<=k:=λv ac=>mM (hQ j I) z.1;have N:=mL (k:=k) j.zero ⟨z.1,X⟩;refine low Ω (w5 j I M N) (Ei E I) λa p=>D8 j p I (Z9.1 C) M N λv ac r G=>?_;have:=tw (k:=k) G ⟨X,j.zero.2⟩ (hQ (v:=v.toNat) j I) z.1;omega
 split
 .rename_i _ _ _ _ O;cases y:ei s m.i m.v with
  |none=>exact A 1 Φ
  |some x=>
   obtain⟨_,I,C,ac⟩:=ku y;simp only;split
   .exact A 7 Φ
   .rename_i he;have Y:=(fX.1 ac).1;simp only;refine low Ω (nZ j I Y) (by rw[gN I];exact dl.vars E I rfl) λa p=>?_;have aa:=(x4.1 I).1;have ab:=p.1;obtain⟨ba,H⟩:=aH (l:=a) (i:=m.i.toNat) Ω;rw[Ea j p I C Y H];split
    .rename_i e;subst e;rw[mH j];split
     .have ad:(s.vars.zip a)[m.i.toNat]? =σ (x,m.v):=S1.2 ⟨I,H⟩;have h1:=qV (tx (a:=a) j) (i:=m.i.toNat) (x:=dd (x,m.v)) (by rw[x8,ad];rfl);have J:=pq _ (pr (a:=a) j);have ag:dd (x,m.v)=x.un.getD m.v.toNat 0:=by unfold dd;rw[if_neg (by simp[C])]
      unfold dH at he;omega
     .rfl
    .rfl
 .rename_i h1 J S ah ai;cases y:ei s m.i m.v with
  |none=>exact A 1 Φ
  |some x=>
   obtain⟨_,I,C,ac⟩:=ku y;simp only;have R:∀w∈aE x,0<=w/\w<x.un.length:=λw hw=>(fX.1 hw).1;refine⟨(qY (a:=[]) (aE x) s j I R).1,(qY (a:=[]) (aE x) s j I R).2.1 E,λa p=>?_⟩;have aa:=(x4.1 I).1;have ab:=p.1;obtain⟨ba,H⟩:=aH (l:=a) (i:=m.i.toNat) Ω;unfold pv;rw[(qY (aE x) s j I R).2.2 ba p C H,H];by_cases e:ba=m.v
   .rw[if_neg λh=>h.2 e,if_neg λh=>h.2.2 (by rw[e])]
   .rw[if_pos (c:=5<=m.kind/\_) ⟨Ω,rfl,λh=>e (j6 h)⟩];split
    .rfl
    .rename_i af;exact OO p I C H λh=>af ⟨h,e⟩
end
theorem O4 {f:Int->Int} (J:dO aj) (p:cs.length<=(bk aj).length) (h:∀t∈L,f (bn aj cs t)=bn aj cs t):dx f L aj cs=cs:=by
 apply Y6;intro i;cases a:cs[i]? with
 |none=>
  have h1:=List.getElem?_eq_none_iff.1 a;rw[Z6 (by rw[nX]<;>omega)]
 |some c=>
  obtain⟨t,j⟩:=aH (l:=bk aj) (i:=i) (by have:=(x4.1 a).1;omega);rw[pm j a];split
  .rename_i m;have e:bn aj cs t=c:=by
    unfold bn;rw[jA J j];simp only;rw[u6,v8,a];rfl
   have:=h t m;rw[e] at this;rw[this]
  .rfl
section
variable {k:Int} {sizes:Λ} {s:av}
end
section
variable {k:Int} {sizes:Λ} {s:av}
theorem tE {f:cz} {pos:Nat} (a:bq k sizes s) (ae:f∈s.funs) (ac:∀u,f.sc[pos]? =σ u->v∈cq s u) (h:t∈ce s f.sc pos v):∃m:Nat,cJ f.aj t 0=σ (m:Int):=by
 obtain⟨e,j,_⟩:=a.funs f ae;obtain⟨p,_⟩:=k7 a ae;rw[wZ a (λu hu=>⟨(e.scope.1 u hu).1,e.vars u hu⟩) ac,<-j] at h;obtain⟨i,hi⟩:=X1.1 (T6.1 h).1;exact⟨i,jA p hi⟩
end
section
variable {k:Int} {sizes:Λ} {s:av}
theorem O5 {m:hy} (h:(cA k s m).2≠0):(cA k s m).1=s:=by
 generalize hm:cA k s m=r at h ⊢;unfold cA at hm
 repeat' split at hm
 all_goals (subst hm;first|rfl|exact absurd rfl h)
end
theorem O6 (J:dO aj):(bk aj).Nodup:=by
 rw[List.nodup_iff_pairwise_ne,V2];intro i j hi a f he;have h1:=jA J (x6 hi);have e:=jA J (x6 a);rw[he,e] at h1;have:=j6 h1;omega
section
variable {k:Int} {sizes:Λ} {s:av}
theorem Ej {f:cz} {pos:Nat} (a:bq k sizes s) (ae:f∈s.funs) (ac:∀u,f.sc[pos]? =σ u->v∈cq s u):(ce s f.sc pos v).Nodup:=by
 obtain⟨e,h,_⟩:=a.funs f ae;obtain⟨j,_⟩:=k7 a ae;rw[wZ a (λu hu=>⟨(e.scope.1 u hu).1,e.vars u hu⟩) ac,<-h];exact (O6 j).sublist List.filter_sublist
theorem xb {α:Type} {l:List α} {q:Nat} {a:α} (e:l.Nodup) (h:l[q]? =σ a):a∉l.take q:=λhm=>by
 obtain⟨i,hi⟩:=X1.1 hm;have f:i<q:=by have:=(x4.1 hi).1;rw[l9] at this;omega
 rw[Z7 f] at hi;have h1:=(x4.1 hi).1;have j:=(x4.1 h).1;have:=(List.getElem_inj e (h₀:=h1) (h₁:=j)).1 (by rw[(x4.1 hi).2,(x4.1 h).2]);omega
theorem Ek {q:Nat} {f:cz} {g:Int->Int} (x:bq k sizes s) (ae:s.funs[j]? =σ f) (y:L.Nodup) (p:L[q]? =σ t) (hi:cJ f.aj t 0=σ (m:Int)):
  bn f.aj (dx g (L.take q) f.aj f.cs) t=bn f.aj f.cs t/\kq (dI s j f (dx g (L.take q) f.aj f.cs)) j m (g (bn f.aj f.cs t))=dI s j f (dx g (L.take (q+1)) f.aj f.cs):=by
 obtain⟨a,z⟩:=k7 x (x5 ae);have r:=xb y p;refine⟨by rw[D0 a z hi,if_neg r],?_⟩;have h:=mp a hi;rw[u6] at h;have C:=(x4.1 h).1;obtain⟨c,w⟩:=aH (l:=f.cs) (i:=m) Ω;have e:bn f.aj f.cs t=c:=by
  unfold bn;rw[hi];simp only;rw[u6,v8,w];rfl
 have A:=(OE (f:=g) a Ω h w r).2;unfold kq;have B:(dI s j f (dx g (L.take q) f.aj f.cs)).funs[j]? =σ {f with cs:=dx g (L.take q) f.aj f.cs}:=c9 (x4.1 ae).1;rw[B,e];simp only;rw[A,u9,p];unfold dI;simp only[List.set_set];rfl
end
section
variable {w:x3} {ad ag:Nat} {A R:ak} {n:aR} {s:av} {t:aB}
theorem xc {i:Int} (h:bx w ad ag A R n s t):am x7 GV [Γ ad,Δ i,Δ v] w λr w'=>Ext w w'/\r=Δ (if (ei s i v).isSome=true then 0 else 1):=by
 have J:=h.2.2.2.1.vars;refine az func118 ?_;rw[c5 dy.u];simp only[b9,aY];refine aV (λr U=>r= .bool (!(ei s i v).isSome)/\Ext w U) ?_ ?_
 .rintro _ U ⟨rfl,z⟩;rw[cb];exact⟨λf=>⟨z,by rw[if_neg (by simpa using f)]⟩,λf=>⟨z,by rw[if_pos (by simpa using f)]⟩⟩
 intro ay B;refine (tm (i:=i) h).mono ?_;rintro _ V _ ⟨rfl,j⟩;rw[cb];refine⟨λa=>B _ _ ⟨?_,j⟩,λa=>?_⟩
 .rw[V0,decide_eq_true_eq] at a;have p:ei s i v=ν:=by
   unfold ei;rw[if_pos a.1];have q:=a.2;unfold iG at q;cases I:s.vars[i.toNat]? with
   |none=>rfl
   |some x=>
    rw[I] at q;simp only;rw[if_neg λh=>by simp[h.1] at q]
  rw[p];rfl
 refine (kr (i:=i) (h.ext j)).mono ?_;rintro _ K _ ⟨⟨b,m,rfl,y⟩,E⟩;refine (wO (v:=v) y.1).mono ?_;rintro _ L _ ⟨rfl,G⟩;rw[bI];refine B _ _ ⟨?_,(j.trans E).trans G⟩;congr 2;by_cases e:0<=i/\i<n.sizes.length
 .obtain⟨x,I⟩:=aH (l:=s.vars) (i:=i.toNat) Ω;rw[DR y e.1 I];unfold ei;rw[if_pos e.1,I];have H:x.gone=0:=by
   rw[decide_eq_true e.1,U3] at a;unfold iG at a;rw[I] at a;simpa using a
  simp only;by_cases ac:v∈aE x
  .rw[decide_eq_true ac,if_pos ⟨H,ac⟩];rfl
  .rw[decide_eq_false ac,if_neg λh=>ac h.2];rfl
 .obtain⟨rfl,rfl⟩:=y.2.1 e;have p:ei s i v=ν:=by
   unfold ei;by_cases C:0<=i
   .rw[if_pos C,Z6 Ω]
   .rw[if_neg C]
  rw[p,decide_eq_false Ω];rfl
def O7 (s:av) (j pos v:Int) (u e:Int):Prop:=(e=0/\ ∃f x,ej s j pos v=σ (f,u,x))\/(e=1/\ej s j pos v=ν)
theorem El {j:Int} (h:bx w ad ag A R n s t):am x7 GN [Γ ad,Δ j,Δ pos,Δ v] w λr w'=>Ext w w'/\ ∃u e,r= .tuple #[Δ u,Δ e]/\O7 s j pos v u e:=by
 refine az func109 ?_;rw[c5 dy.u];simp only[b9,aY];have key:∀ (K:x1->x3->Prop),(∀r w',Ext w w'->(∀f,0<=j->s.funs[j.toNat]? =σ f->aF .i64 w' r f.sc)->K r w')->am x7 pL [Γ ad,Δ j] w K:=λK Q=>by
  by_cases S:0<=j/\j<s.funs.length
  .obtain⟨f,ae⟩:=aH (l:=s.funs) (i:=j.toNat) Ω;have:=lX h ae;rw[show ((j.toNat:Nat):Int)=j by omega] at this;refine this.mono ?_;rintro r U _ ⟨z,g,_,hm⟩;exact Q r U z λE _ W=>by rw[ae] at W;cases W;exact hm.ls
  .refine (DM h S).mono ?_;rintro r U _ ⟨rfl,z⟩;exact Q _ U z λf B ae=>absurd ⟨B,by have:=(x4.1 ae).1;omega⟩ S
 refine key _ λr U z X=>?_;have I:∀ {P:Prop},(¬∃f u,0<=j/\0<=pos/\s.funs[j.toNat]? =σ f/\f.live≠0/\f.sc[pos.toNat]? =σ u)->(ej s j pos v=ν->P)->P:=λm aj=>aj (by
  cases G:ej s j pos v with
  |none=>rfl
  |some q=>
   obtain⟨f,u,x⟩:=q;obtain⟨J,L,a3,a4,a5,_⟩:=mK G;exact absurd ⟨f,u,J,L,a3,a4,a5⟩ m)
 refine aV (λY V=>Ext U V/\((Y= .bool true/\ej s j pos v=ν)\/(Y= .bool false/\ ∃f u,0<=j/\0<=pos/\s.funs[j.toNat]? =σ f/\f.live≠0/\f.sc[pos.toNat]? =σ u))) ?_ ?_
 .rintro _ V ⟨M,⟨rfl,m⟩|⟨rfl,f,u,B,Z,ae,ak,hu⟩⟩
  .rw[bQ];exact⟨z.trans M,0,1,rfl,.inr ⟨rfl,m⟩⟩
  .rw[aY];intro ao p _ _;have aa:=(X f B ae).ext (M.trans p);refine p1 (y:=pos) (i:=pos.toNat) Ω an.u ai.i aa hu λb o ap=>?_;rw[aA (v:=Δ u) Ψ ap,fx (y:=pos) (i:=pos.toNat) Ω an.u ai.i Ψ aa hu];have ab:=(z.trans M).trans p;refine (xc (i:=u) (v:=v) (h.ext ab)).mono ?_;rintro _ au _ ⟨af,rfl⟩;refine⟨.inl af,ab.trans af,u,_,rfl,?_⟩;have G:ej s j pos v=(ei s u v).map λx=>(f,u,x):=by
    unfold ej;rw[if_pos ⟨B,Z⟩,ae];simp only;rw[if_pos ak,hu]
   cases ac:ei s u v with
   |none=>exact .inr ⟨rfl,by rw[G,ac];rfl⟩
   |some x=>exact .inl ⟨rfl,f,x,by rw[G,ac];rfl⟩
 intro ay H;refine (qP (j:=j) (h.ext z)).mono ?_;rintro _ ao _ ⟨rfl,p⟩;have same:∀ {f E:cz},s.funs[j.toNat]? =σ f->s.funs[j.toNat]? =σ E->E=f:=λa b=>by rw[a] at b;exact (j6 b).symm
 rw[bI,cb];refine⟨λN=>I (λ⟨f,u,J,L,a3,a4,a5⟩=>?_) λm=>H _ _ ⟨p,.inl ⟨rfl,m⟩⟩,λO=>?_⟩
 .unfold e3 at N;rw[a3] at N;simp[J,a4] at N
 have O:0<=j/\e3 s j.toNat=true:=by simpa using O
 obtain⟨B,C⟩:=O;obtain⟨f,ae,aq⟩:∃f,s.funs[j.toNat]? =σ f/\f.live≠0:=by
  unfold e3 at C;cases ae:s.funs[j.toNat]? with
  |none=>rw[ae] at C;cases C
  |some f=>rw[ae] at C;exact⟨f,rfl,by simpa using C⟩
 rw[aN,al];refine⟨λav=>I (λ⟨_,_,_,L,_⟩=>Ω) λm=>H _ _ ⟨p,.inl ⟨rfl,m⟩⟩,λZ=>?_⟩;rw[aU an.u ((X f B ae).ext p),cO];by_cases ah:(f.sc.length:Int)<=pos
 .refine I (λ⟨E,u,_,_,a3,_,a5⟩=>?_) λm=>H _ _ ⟨p,.inl ⟨by rw[decide_eq_true ah],m⟩⟩;obtain rfl:=same ae a3;have:=(x4.1 a5).1;omega
 .obtain⟨u,hu⟩:=aH (l:=f.sc) (i:=pos.toNat) Ω;exact H _ _ ⟨p,.inr ⟨by rw[decide_eq_false ah],f,u,B,Ω,ae,aq,hu⟩⟩
theorem tF {most:Int} (h:bx w ad ag A R n s t):am x7 GO [Γ ad,Δ c,Δ most] w λr w'=>Ext w w'/\r=Δ (dm n.k c most):=by
 refine az func110 ?_;refine (jL h).mono ?_;rintro _ U _ ⟨rfl,a⟩;refine jx.mono ?_;rintro _ V _ ⟨rfl,e⟩;have hi:cn c n.k↔0<=c/\c<=n.k:=⟨λh=>h.2,λj=>⟨h.2.2.2.1.eh,j⟩⟩;unfold dm;rw[bI,cb];refine⟨λf=>⟨a.trans e,?_⟩,λf=>?_⟩
 .have:¬cn c n.k:=by simpa using f
  rw[if_pos λh=>this (hi.2 h)]
 .have:cn c n.k:=by simpa using f
  rw[if_neg λh=>h (hi.1 this),bR,al];exact⟨λh=>⟨a.trans e,by rw[if_pos h]⟩,λh=>⟨a.trans e,by rw[if_neg h]⟩⟩
theorem O8 {b:Int} (hk:right k) (f:0<=a/\a<=k) (j:0<=b/\b<=k) (q:a=k\/b<=a):am x7 HG [Δ a,Δ b,Δ k] w λv w'=>v= .tuple #[Δ (dG k a b),Δ 0]/\Ext w w':=by
 have s:1<=k/\k<=2147483648:=hk;refine az func177 ?_;refine aV (λr U=>r= .bool false/\Ext w U) ?_ ?_
 .rintro _ U ⟨rfl,e⟩;unfold dG;rw[aY,bh,al];refine⟨λh=>⟨by rw[if_pos h],e⟩,λh=>?_⟩;rw[if_neg h,bR,al];refine⟨λx=>Ω,λ_=>?_⟩;rw[dJ,wrap_i64 Ω Ω];exact⟨rfl,e⟩
 intro ay m;refine jx.mono ?_;rintro _ U _ ⟨rfl,e⟩;rw[decide_eq_true (show cn a k from⟨hk,f⟩),bI,Y7,aY];refine jx.mono ?_;rintro _ V _ ⟨rfl,p⟩;rw[decide_eq_true (show cn b k from⟨hk,j⟩),bI,Y7];exact m _ _ ⟨rfl,e.trans p⟩
theorem tG (h:bx w ad ag A R n s t) (e:0<=a/\a<=n.k) (f:0<=c/\c<=n.k) (j:a=n.k\/c<=a):am x7 m9 [Γ ad,Δ a,Δ c] w λr w'=>r=Δ (dG n.k a c)/\Ext w w':=by
 refine az func112 ?_;refine (jL h).mono ?_;rintro _ U _ ⟨rfl,m⟩;refine (O8 h.2.2.2.1.eh e f j).mono ?_;rintro _ V _ ⟨rfl,p⟩;rw[bi,bj];exact⟨rfl,m.trans p⟩
theorem qZ (h:bx w ad ag A R n s t) (e:0<=a/\a<=n.k) (f:0<=c/\c<=n.k):am x7 na [Γ ad,Δ a,Δ c] w λr w'=>r=Δ (dH n.k a c)/\Ext w w':=by
 refine az func113 ?_;refine (jL h).mono ?_;rintro _ U _ ⟨rfl,j⟩;refine (wT e f h.2.2.2.1.eh).mono ?_;rintro _ V _ ⟨rfl,m⟩;rw[bi,bj];exact⟨rfl,j.trans m⟩
end
theorem O9 {g n c:Nat} {cs:List x1} (a:af w g cD cs) (h:∀w',ah (λr=>r=g) w w'->(∀o vs,w.rangeAt g o vs->w'.rangeAt g o vs)->K (.slice (σ ⟨g,0,ν⟩) n c) w'):
  aC x7 (convert cM cM (.slice (σ ⟨g,0,ν⟩) n c)) w K:=by
 have f:∀r,(w.freeze ⟨g,cs.length,ν⟩ 1).heap[r]? =if g=r then (w.heap[r]?).map (λ| .cells c m (lo,hi)=>.cells c m (if lo == hi then (cs.length,cs.length+1) else (min lo cs.length,max hi (cs.length+1)))|o=>o) else w.heap[r]?:=λr=>by
  unfold x3.freeze;rw[if_neg Φ];exact Array.getElem?_modify
 have y:(w.freeze ⟨g,cs.length,ν⟩ 1).heap.size=w.heap.size:=by
  unfold x3.freeze;rw[if_neg Φ];exact Array.size_modify
 have p:w.shape? g=σ (cD,cs.length):=by
  unfold x3.shape?;unfold af at a;rw[a];simp
 have q:(convert cM cM (.slice (σ ⟨g,0,ν⟩) n c)).run x7 w= .ok (.slice (σ ⟨g,0,ν⟩) n c) (w.freeze ⟨g,cs.length,ν⟩ 1):=by
  simp[convert,run_underlying cM.u,run_underlying cD.u,markStringish,p]
 unfold af at a;refine .of q ⟨by unfold x3.freeze;rw[if_neg Φ],.jS (by unfold x3.freeze;rw[if_neg Φ]) (by unfold x3.freeze;rw[if_neg Φ]),by unfold x3.freeze;rw[if_neg Φ],Ω,λr o e J=>?_⟩ (h _ ⟨Ω,λr o e _ s=>?_⟩ λo vs ac j v x=>?_)
 .rw[f];by_cases he:g=r
  .subst he;rw[a] at e;cases e;cases J
  .rw[if_neg he];exact e
 .rw[f,if_neg λhe=>s he.symm];exact e
 .have h1:=ac j v x;unfold x3.cell? at h1 ⊢;rw[f,if_pos rfl];rw[a] at h1 ⊢;exact h1
def xd (s0 s:av):Prop:=s.zero=s0.zero/\s.funs=s0.funs/\s.vars.length=s0.vars.length/\ ∀ (i:Nat) x,s.vars[i]? =σ x-> ∃a,s0.vars[i]? =σ a/\x.un=a.un/\x.gone=0/\a.gone=0/\a.mask=0
theorem xd.new (n:aR):xd (cS n) (cS n):=⟨rfl,rfl,rfl,λi x I=>by
 refine⟨x,I,rfl,?_⟩;have I:(n.unary.map newVar)[i]? =σ x:=I;rw[x8] at I;obtain⟨u,_,rfl⟩:=Y5.1 I;exact⟨rfl,rfl,rfl⟩⟩
theorem Pa (n:aR):dl (cS n):=λf _ _ v _ x I=>by
 obtain⟨_,_,_,h,_⟩:=(xd.new n).2.2.2 _ x I;exact h
theorem Pb {V p:x3} {aq:Nat} {y:x1} {cs:List x1} {f:bZ} (E:tt B V y cs f) (I:Ext V p) (F:af p aq bc cs) (M:V.heap.size<=aq):
  ∃ad ag A R A9 aI t,y=Γ ad/\cr p ad ag aq A R A9 aI (cP f) (cS (cP f)) (cS (cP f)) t [] cs/\t.marks=[]/\(∀r,A r->B<=r)/\(∀q r,A9 q r->B<=r)/\t.cells.length<=2000000/\t.olds.length=0/\(cP f).funs.length<=256/\t.iq=0/\(∀r,aI r->B<=r)/\ ∀r,R r->B<=r:=by
 obtain⟨ad,ag,A,R,t,N,A9,aI,s,rfl,w,e,G,H,x,j,K⟩:=E;have C:=qX w;have z:=I.size;have m:=(tc (Cc s).1 (wV s) (cP f).unary.length (cP f).funs.length);rw[wz,<-w.2.1] at m;unfold aB.bP at m;rw[u7] at m;refine⟨ad,ag,A,R,λq r=>A9 q r/\r<V.heap.size,aI,t,rfl,⟨w.ext I,e.2.2.1,F,H.old.ext I,λq r h=>⟨(x q r h.1).1,(x q r h.1).2.1,by have:=h.2;omega⟩,λr a=>⟨λh=>(j r a).1 (nP (λo L J _=>I.aZ r o L J) h),by have:=(j r a).2;omega,by have:=(j r a).2;omega⟩,λh=>by have:=C aq (.inl h);omega,λh=>by have:=C aq (.inr h);omega⟩,e.1,G,λq r h=>(x q r h.1).2.2,m,by rw[e.2.1];rfl,wV s,e.2.2.2,λr a=>(j r a).2.2,K⟩
section
variable {w w':x3} {ad ag aq dc:Nat} {A R O M aI:ak} {A9:Nat->ak} {k:Int} {sizes:Λ} {J:List av} {n:aR} {s u:av} {t:aB} {h:List aB} {cs:List x1}
theorem cr.Em (p:cr w ad ag aq A R A9 aI n s u t h cs):∀q r,A9 q r->¬aI r:=by
 obtain⟨_,_,_,_,_,_,_,_,_,_,_,_,_,a⟩:=p.doc;exact (a rfl).2
end
theorem En {w0:x3} {out:x1} {g:Nat} {x:Int} (e:Ext w0 w) (hm:au .i64 ai w g out l) (f:∀r,leads out r->w0.heap.size<=r) (E:l.length<=1000000000)
  (m:∀v w' p,Ext w0 w'->au .i64 ai w' p v (l++[x])->(∀r,leads v r->w0.heap.size<=r)->K v w'):
  aC x7 (Y0 an 1 #[(0,Δ x)]) w λy U=>aC x7 (b8 #[an,an] an #[out,y]) U K:=by
 refine eo (k:=.i64) an.u ai.i rfl λv4 F G H a q=>?_;refine gX an.u ai.i rfl (hm.ext a) q.ls Θ Θ λv5 s I A B C=>?_;have z:=(e.trans a).size;exact m _ _ s ((e.trans a).then C λr j he=>by have:=f r he;omega) A λr j=>(B r j).elim (f r) λh=>Ω
theorem xe (x:br):(aE x).length<=x.un.length:=by
 unfold aE;have:=List.length_filter_le (λv:Int=>!dropped x.mask v) ((Z8 x.un.length).map λv:Nat=>(v:Int));rw[u7,List.length_range] at this;exact this
section
variable {w:x3} {ad ag:Nat} {A R:ak} {n:aR} {s:av} {t:aB}
end
theorem Eo {out:x1} {g:Nat} {x:Int} (hm:au .i64 ap w g out l) (B:l.length<=1000000000000)
  (e:∀v w' f,ah (λr=>leads out r) w w'->au .i64 ap w' f v (l++[x])->(∀r,leads v r->leads out r\/w.heap.size<=r)->K v w'):
  aC x7 (Y0 ax 1 #[(0,Δ x)]) w λy U=>aC x7 (b8 #[ax,ax] ax #[out,y]) U K:=by
 refine eo (k:=.i64) ax.u ap.i rfl λv4 C E F a j=>?_;refine gX ax.u ap.i rfl (hm.ext a) j.ls Θ Θ λv5 m G p q s=>?_;have z:=a.size;exact e _ _ m ((a.ab _).trans s) p λr A=>(q r A).imp id λh=>Ω
def k9 (s:av) (sc t:Λ):Bool:=(sc.zip t).all λp=>match s.vars[p.1.toNat]? with
 |some x=>decide (p.2∈aE x)
 |none=>false
section
variable {w:x3} {ad ag:Nat} {A R:ak} {n:aR} {s:av} {t:aB}
end
def n3 (aj t:Λ):Int:=(cJ aj t 0).getD 0
def la (s:av) (f:cz) (pos:Nat) (v:Int):Λ:=(ce s f.sc pos v).map (n3 f.aj)
def kv (s:av) (sc:Λ) (pos:Nat) (v:Int) (t:Λ):Bool:=decide (t.getD pos 0=v)&&k9 s sc t
section
variable {k:Int} {sizes:Λ} {s:av} {f:cz} {pos:Nat} {v:Int}
theorem Pc:k9 s sc t=true↔ ∀ (p:Nat) u w,sc[p]? =σ u->t[p]? =σ w->w∈cq s u:=by
 unfold k9;rw[List.all_eq_true];constructor
 .intro h p u w hu hw;have:=h (u,w) (x5 (S1.2 ⟨hu,hw⟩));unfold cq;cases I:s.vars[u.toNat]? with
  |none=>simp[I] at this
  |some x=>simpa[I] using this
 .rintro h ⟨u,w⟩ hm;obtain⟨p,a⟩:=X1.1 hm;obtain⟨h1,e⟩:=S1.1 a;have:=h p u w h1 e;unfold cq at this;simp only;cases I:s.vars[u.toNat]? with
  |none=>rw[I] at this;cases this
  |some x=>rw[I] at this;simpa using this
theorem Pd (m:bq k sizes s) (ae:f∈s.funs) (z:pos<f.sc.length) (ac:∀u,f.sc[pos]? =σ u->v∈cq s u):ce s f.sc pos v=(bk f.aj).filter (kv s f.sc pos v):=by
 obtain⟨q,r,_⟩:=m.funs f ae;have j:=wZ m (λu hu=>⟨(q.scope.1 u hu).1,q.vars u hu⟩) ac;rw[<-r] at j;have h1:∀t∈bk f.aj,(mF (nY s pos v f.sc 0) t=true↔t∈ce s f.sc pos v):=λt a=>by rw[j,T6];exact⟨λh=>⟨a,h⟩,λh=>h.2⟩
 rw[j];refine List.filter_congr λt a=>?_;have A:t.length=f.sc.length:=by rw[rY a,r];simp[bV]
 rw[V5,h1 t a,w4,kv,V0,decide_eq_true_eq,Pc];constructor
 .rintro⟨_,h⟩;obtain⟨u,hu⟩:=aH (l:=f.sc) z;obtain⟨w,hw⟩:=aH (l:=t) (i:=pos) Ω;have x:=h pos u w hu hw;rw[if_pos rfl] at x;refine⟨by rw[v8,hw];exact x,λp u' w' y B=>?_⟩;have:=h p u' w' y B;split at this
  .rename_i e;subst e;rw[this];exact ac u' y
  .exact this
 .rintro⟨h1,C⟩;refine⟨A,λp u w hu hw=>?_⟩;split
  .rename_i e;subst e;rw[v8,hw] at h1;exact h1
  .exact C p u w hu hw
end
section
variable {w:x3} {e7:x1} {k:Int} {sizes:Λ} {s:av}
theorem Pe {j:Int} (h:ko w e7 k sizes s) (Z:bq k sizes s) (aj:dl s):am x7 HC [e7,Δ j,Δ pos,Δ v] w λr w'=>Ext w w'/\ ∃u,r= .tuple #[Δ u,.bool (ej s j pos v).isSome]:=by
 have aF:=Z.vars;refine az func172 ?_;refine bo λg1 U aG E ak=>?_;have aa:=h.box E ak;obtain⟨szv,aI,aJ,aK,aL,aM,G,aO,_,ao,aP,aQ,ab,aR⟩:=id aa;refine aV (λr V=>Ext U V/\((r= .bool true/\ej s j pos v=ν)\/(r= .bool false/\ ∃f u,0<=j/\0<=pos/\s.funs[j.toNat]? =σ f/\f.live≠0/\f.sc[pos.toNat]? =σ u))) ?_ λay B=>?_
 .rintro _ V ⟨m,⟨rfl,e⟩|⟨rfl,f,u,H,ac,ae,ad,hu⟩⟩
  .rw[bQ,e];exact⟨E.trans m,0,rfl⟩
  .rw[aY];have af:=x5 ae;have J:=x5 hu;obtain⟨ag,aS,_⟩:=Z.funs f af;have K:=(ag.scope.1 u J).1;have aX:=ag.vars u J;have K:0<=u:=K;obtain⟨x,I⟩:=aH (l:=s.vars) (i:=u.toNat) Ω;rw[aT bc.p 6 (G.ext m) rfl];refine lJ (i:=j.toNat) Ω gg.u fq.i (bW ab m) (by rw[x8,ae];rfl) λb o cs L M=>?_;obtain⟨N,ap,v3,rfl,h1,aq,au⟩:=ps M;rw[aW fq.p rfl,aW a8.p rfl,aA (v:=N) Ψ (L 0 _ rfl),fx (y:=pos) (i:=pos.toNat) Ω an.u ai.i Ψ (eE h1) hu,aT bc.p 3 (G.ext m) rfl];refine kL (α:=Λ) (a:=aE x) (i:=u.toNat) rfl Ω de.u an.i Ψ (bW ao m) (by rw[x8,I];rfl) λaZ av=>?_;refine (wU (eE av)).mono ?_;rintro _ a1 _ ⟨rfl,aw⟩;refine⟨(E.trans m).trans aw,u,?_⟩;have ax:=aj f af ad u J x I;have O:ej s j pos v=(ei s u v).map λx=>(f,u,x):=by
    unfold ej;rw[if_pos ⟨H,ac⟩,ae];simp only;rw[if_pos ad,hu]
   have aB:ei s u v=if v∈aE x then σ x else ν:=by
    unfold ei;rw[if_pos K,I];simp only[ax,true_and]
   rw[O,aB];by_cases C:v∈aE x
   .rw[if_pos C,decide_eq_true C];rfl
   .rw[if_neg C,decide_eq_false C];rfl
 have Q:∀ {P:Prop},(¬∃f u,0<=j/\0<=pos/\s.funs[j.toNat]? =σ f/\f.live≠0/\f.sc[pos.toNat]? =σ u)->(ej s j pos v=ν->P)->P:=λe aC=>aC (by
  cases O:ej s j pos v with
  |none=>rfl
  |some q=>
   obtain⟨f,u,x⟩:=q;obtain⟨R,S,a3,a4,a5,_⟩:=mK O;exact absurd ⟨f,u,R,S,a3,a4,a5⟩ e)
 refine aa.load λu hu=>?_;refine (OQ (j:=j) hu).mono ?_;rintro _ a2 _ ⟨rfl,z⟩;have same:∀ {f W:cz},s.funs[j.toNat]? =σ f->s.funs[j.toNat]? =σ W->W=f:=λa b=>by rw[a] at b;exact (j6 b).symm
 rw[bI,cb];refine⟨λX=>Q (λ⟨f,u,R,S,a3,a4,a5⟩=>?_) λe=>B _ _ ⟨z,.inl ⟨rfl,e⟩⟩,λY=>?_⟩
 .unfold e3 at X;rw[a3] at X;simp[R,a4] at X
 have Y:0<=j/\e3 s j.toNat=true:=by simpa using Y
 obtain⟨H,A⟩:=Y;obtain⟨f,ae,aD⟩:∃f,s.funs[j.toNat]? =σ f/\f.live≠0:=by
  unfold e3 at A;cases ae:s.funs[j.toNat]? with
  |none=>rw[ae] at A;cases A
  |some f=>rw[ae] at A;exact⟨f,rfl,by simpa using A⟩
 rw[aN,al];refine⟨λa6=>Q (λ⟨_,_,_,S,_⟩=>Ω) λe=>B _ _ ⟨z,.inl ⟨rfl,e⟩⟩,λac=>?_⟩;rw[aT bc.p 6 (G.ext z) rfl];refine lJ (i:=j.toNat) Ω gg.u fq.i (bW ab z) (by rw[x8,ae];rfl) λb o cs L M=>?_;obtain⟨N,ap,v3,rfl,h1,aq,au⟩:=ps M;rw[aW fq.p rfl,aW a8.p rfl,aA (v:=N) Ψ (L 0 _ rfl),aU an.u (eE h1),cO];by_cases ah:(f.sc.length:Int)<=pos
 .refine Q (λ⟨W,u,_,_,a3,_,a5⟩=>?_) λe=>B _ _ ⟨z,.inl ⟨by rw[decide_eq_true ah],e⟩⟩;obtain rfl:=same ae a3;have:=(x4.1 a5).1;omega
 .obtain⟨u,hu⟩:=aH (l:=f.sc) (i:=pos.toNat) Ω;exact B _ _ ⟨z,.inr ⟨by rw[decide_eq_false ah],f,u,H,Ω,ae,aD,hu⟩⟩
theorem Ep {pos:Nat} {f:cz} (h:ko w e7 k sizes s) (L:bq k sizes s) (ae:s.funs[j]? =σ f) (aN:pos<f.sc.length) (ac:∀u,f.sc[pos]? =σ u->v∈cq s u):
  am x7 Gb [e7,Δ (j:Int),Δ (pos:Int),Δ v] w λr w'=>Ext w w'/\aF .i64 w' r (la s f pos v)/\ ∀q,leads r q->w.heap.size<=q:=by
 have bz:=L.vars;have S:=x5 ae;obtain⟨M,ah,_⟩:=L.funs f S;have N:=(k7 L S).1;have aO:f.aj.length=f.sc.length:=by rw[ah];simp[bV]
 have bA:=i7 N;have bB:(bk f.aj).length<=4096:=by
  have O:aK (bV sizes f.sc)<=4096:=M.small;rw[<-ah] at O;omega
 refine az func49 ?_;refine bo λg1 U bC W aP=>?_;obtain⟨szv,bD,bF,bH,bI,bJ,ak,bK,_,aQ,bL,bM,aR,bN⟩:=h.box W aP;rw[aT bc.p 6 ak rfl];refine lJ (i:=j) rfl gg.u fq.i aR (by rw[x8,ae];rfl) λb o cs E aS=>?_;obtain⟨X,Y,v3,rfl,h1,O,aX⟩:=ps aS;rw[aW fq.p rfl,bO (cs:=[X,Y,v3]) a8.p a8.i rfl (λq u m=>by
  have:q<3:=(x4.1 m).1
  match q,this,m with
  |0,_,m=>cases m;exact E 0 _ rfl
  |1,_,m=>cases m;exact E 1 _ rfl
  |2,_,m=>cases m;exact E 2 _ rfl)]
 refine bG a8.i λbP V bQ aY aZ=>?_;have a1:∀u∈[X,Y,v3],u.oneCell'=true:=λu hu=>by
  simp only[W9,List.not_mem_nil,or_false] at hu;rcases hu with rfl|rfl|rfl
  .exact iY h1
  .exact iY O
  .exact iY aX
 refine ck (vs:=[X,Y,v3]) a8.i rfl rfl a1 aZ λa2 a6 bR al=>?_;have ao:Ext U a2:=aY.put a6 Ω;have Z:=eE h1;have a7:=eE O;rw[aT a8.p 1 al rfl];refine (AB f.aj (a7.ext ao) ⟨by rw[aO];exact M.scope.2,N⟩).mono ?_;rintro bS G _ ⟨ap,aq⟩;have aa:=ao.trans ap;rw[io de.u aq];refine bX.range (bk f.aj).length (λi out C=>Ext G C/\(∃g,au .i64 ai C g out ((((bk f.aj).take i).filter (kv s f.sc pos v)).map (n3 f.aj)))/\ ∀r,leads out r->G.heap.size<=r) Ω ⟨Ext.refl _,⟨0,au.nil _ _ _ _⟩,λr E=>by obtain⟨_,_,_,e,_⟩:=E;cases e⟩ ?_ ?_
 .rintro q out C ba m ⟨z,⟨g,hm⟩,P⟩ bb;have H:(bk f.aj)[q]? =σ (cR f.aj (q:Int)):=qa N Ω;generalize cR f.aj (q:Int)=tl at H;have bT:=zU H;have bd:=jA N H;have bf:n3 f.aj tl=(q:Int):=by unfold n3;rw[bd];rfl
  have Q:=aa.trans z;have av:((bk f.aj).take (q+1)).filter (kv s f.sc pos v)=((bk f.aj).take q).filter (kv s f.sc pos v)++(if kv s f.sc pos v tl=true then[tl] else[]):=by
   rw[u9,H,l7,List.filter_append];congr 1;cases aG:kv s f.sc pos v tl<;>simp[aG]
  obtain⟨ab,aw⟩:=aH (l:=tl) (i:=pos) Ω;refine bE Ω ?_;refine aV (λax aA=>Ext G aA/\(∃g,au .i64 ai aA g ax ((((bk f.aj).take (q+1)).filter (kv s f.sc pos v)).map (n3 f.aj)))/\ ∀r,leads ax r->G.heap.size<=r) (λ_ _ ad=>by rw[aM];exact bb _ _ ad) λay J=>?_;refine kL (α:=Λ) rfl rfl de.u an.i Ψ (bW aq z) H λaL R=>?_;have R:=eE R;rw[be an.u ai.i Ψ R aw,bh,aT a8.p 0 (al.ext (ap.trans z)) rfl,aU an.u (Z.ext Q)];refine bX.range f.sc.length (λp ok af=>Ext C af/\ok= .bool (decide (ab=v)&&k9 s (f.sc.take p) (tl.take p))) Z.le ⟨Ext.refl _,by simp[k9]⟩ ?_ ?_
  .rintro p _ af bg bi ⟨A,rfl⟩ bj;obtain⟨u,ag⟩:=aH (l:=f.sc) bi;obtain⟨y,aB⟩:=aH (l:=tl) (i:=p) Ω;have aC:=x5 ag;have aD:=(M.scope.1 u aC).1;have aI:=M.vars u aC;have aI:u<sizes.length:=aI;have aD:0<=u:=aD;obtain⟨x,I⟩:=aH (l:=s.vars) (i:=u.toNat) Ω;have aJ:k9 s (f.sc.take (p+1)) (tl.take (p+1))=(k9 s (f.sc.take p) (tl.take p)&&decide (y∈aE x)):=by
    unfold k9;rw[u9,u9,ag,aB,l7,l7,List.zip_append Θ,List.all_append];simp[I]
   refine bE Ω ?_;refine aV (λok bl=>Ext C bl/\ok= .bool (decide (ab=v)&&k9 s (f.sc.take (p+1)) (tl.take (p+1)))) (λ_ _ ad=>by rw[aM];exact bj _ _ ad) λay J=>?_;rw[be an.u ai.i Ψ (Z.ext (Q.trans A)) ag];intro bU bm _ _;have K:=A.trans bm;rw[cb];refine⟨λB=>?_,λB=>J _ _ ⟨K,by rw[aJ,<-Bool.and_assoc,B];rfl⟩⟩;rw[aT bc.p 3 (ak.ext (Q.trans K)) rfl];refine kL (α:=Λ) (a:=aE x) (i:=u.toNat) rfl Ω de.u an.i Ψ (bW aQ (Q.trans K)) (by rw[x8,I];rfl) λbY bn=>?_;rw[be an.u ai.i Ψ (R.ext K) aB];refine (wU (eE bn)).mono ?_;rintro _ bZ _ ⟨rfl,bp⟩;exact J _ _ ⟨K.trans bp,by rw[aJ,<-Bool.and_assoc,B,U3]⟩
  .rintro _ af bg ⟨A,rfl⟩;rw[o5,j9 Ω];refine cm Ω ?_;have br:(decide (ab=v)&&k9 s f.sc tl)=kv s f.sc pos v tl:=by unfold kv;rw[v8,aw];rfl
   rw[br,cb];refine⟨λB=>?_,λB=>J _ _ ⟨z.trans A,⟨g,by rw[av,if_neg (by rw[B];decide),U2];exact hm.ext A⟩,P⟩⟩;refine En (w0:=G) (z.trans A) (hm.ext A) P ?_ λb0 w' bt bu bw bx=>J _ _ ⟨bu,⟨bt,?_⟩,bx⟩
   .rw[u7];have h1:=List.length_filter_le (kv s f.sc pos v) ((bk f.aj).take q);rw[l9] at h1;omega
   .rw[av,if_pos B,b6,List.map_singleton,bf];exact bw
 .rintro out C ba ⟨z,⟨g,hm⟩,P⟩;rw[o5,<-Pd L S aN ac] at hm;refine cm Ω ?_;exact⟨(W.trans aa).trans z,hm.ls,λq m=>by have:=P q m;have:=(W.trans aa).size;omega⟩
theorem Pf {j:Int} (h:ko w e7 k sizes s) (e:bq k sizes s) (O:dl s):
  am x7 GH [e7,Δ j,Δ pos,Δ v] w λr w'=>Ext w w'/\r=(match ej s j pos v with|some (f,_,_)=>.tuple #[Δ (lZ k s f pos.toNat v),.bool true]|none=>.tuple #[Δ 0,.bool false]):=by
 refine az func103 ?_;refine bo λg1 U ay y P=>?_;have G:=h.box y P;refine G.load λu hu=>?_;refine (Pe hu e O).mono ?_;rintro _ V _ ⟨z,eR,rfl⟩;rw[bi,bj,bI];cases Q:ej s j pos v with
 |none=>
  rw[S6,W5,bQ];exact⟨y.trans z,rfl⟩
 |some q=>
 obtain⟨f,u',x⟩:=q;rw[T8,Y7,aY];obtain⟨R,S,ae,aB,A,W⟩:=mK Q;obtain⟨aC,X,aD,Y⟩:=ku W;obtain⟨j,rfl⟩:=U4 R;obtain⟨pos,rfl⟩:=U4 S;rw[u6] at ae A;have H:=x5 ae;have Z:=(x4.1 A).1;have ac:∀u,f.sc[pos]? =σ u->v∈cq s u:=λu hu=>by
  rw[A] at hu;cases hu;unfold cq;rw[X];exact Y
 have I:=G.ext z;obtain⟨szv,aE,aF,aG,aI,aJ,J,aK,_,aN,aO,aP,aa,aQ⟩:=id I;rw[aT bc.p 0 J rfl];refine I.load λaR ab=>?_;refine (Ep ab e ae Z ac).mono ?_;rintro aL ad _ ⟨K,B,_⟩;rw[aU an.u B];have L:(la s f pos v).length=(ce s f.sc pos v).length:=by unfold la;rw[u7]
 rw[L];refine bX.range (ce s f.sc pos v).length (λi af C=>Ext ad C/\af=Δ ((((ce s f.sc pos v).take i).map (bn f.aj f.cs)).foldl min k)) (by rw[<-L];exact B.le) ⟨Ext.refl _,rfl⟩ ?_ ?_
 .rintro i _ C ag hi ⟨a,rfl⟩ ah;obtain⟨tl,E⟩:=aH (l:=ce s f.sc pos v) hi;obtain⟨m,hm⟩:=tE e H ac (x5 E);have ak:(la s f pos v)[i]? =σ (m:Int):=by
   unfold la;rw[x8,E];unfold n3;rw[Z3,hm];rfl
  obtain⟨al,aS⟩:=k7 e H;have aV:=(x4.1 (mp al hm)).1;obtain⟨c,M⟩:=aH (l:=f.cs) (i:=m) Ω;have ao:bn f.aj f.cs tl=c:=by
   unfold bn;rw[hm];simp[v8,M]
  have N:=K.trans a;refine bE Ω ?_;rw[be an.u ai.i Ψ (B.ext a) ak,aT bc.p 6 (J.ext N) rfl];refine lJ (i:=j) rfl gg.u fq.i (bW aa N) (by rw[x8,ae];rfl) λb o cs aq au=>?_;obtain⟨aX,aZ,v3,rfl,h1,a1,av⟩:=ps au;rw[aW fq.p rfl,aW a8.p rfl,aA (v:=v3) Ψ (aq 2 _ rfl),be ax.u ap.i Ψ (eE av) M];refine Dn.mono ?_;rintro _ a2 _ ⟨rfl,aw⟩;rw[aM];refine ah _ _ ⟨a.trans aw,?_⟩;rw[u9,E,l7,b6,U9,List.map_singleton,ao];rfl
 .rintro _ C ag ⟨a,rfl⟩;rw[o5];refine cm Ω ?_;exact⟨(y.trans z).trans (K.trans a),rfl⟩
theorem tH {b k:Int} (h1:0<=a/\a<=4294967296) (f:0<=b/\b<=4294967296):am x7 GJ [Δ a,Δ b,Δ k] w λr w'=>r=Δ (dG k a b)/\Ext w w':=by
 refine az func105 ?_;refine (show am x7 HF [Δ a,Δ b,Δ k] w λr w'=>(∃q,r= .tuple #[Δ (dG k a b),q])/\Ext w w' from ?_).mono ?_
 .refine az func175 ?_;unfold dG;rw[bh,al];refine⟨λh=>⟨⟨_,by rw[if_pos h]⟩,Ext.refl _⟩,λh=>?_⟩;rw[dJ,wrap_i64 Ω Ω,lC,if_neg h];exact⟨⟨_,rfl⟩,Ext.refl _⟩
 .rintro _ U _ ⟨⟨q,rfl⟩,e⟩;rw[bi,bj];exact⟨rfl,e⟩
end
def dp (w:x3) (ad ag aq:Nat) (A R:ak) (A9:Nat->ak) (aI:ak) (n:aR) (s:av) (t:aB) (h:List aB) (u:av) (w':x3):Prop:=ah (λr=>(∃q,A9 q r)\/r=aq) w w'/\ ∃cg cs,cr w' ad ag aq A R cg aI n s u t h cs/\ ∀q r,cg q r->(∃a,A9 a r)\/w.heap.size<=r
section
variable {w w' U V:x3} {ad ag aq:Nat} {A R:ak} {A9:Nat->ak} {aI:ak} {n:aR} {s u eQ eR:av} {t:aB} {h:List aB} {cs:List x1}
theorem dp.same (p:cr w ad ag aq A R A9 aI n s u t h cs) (I:Ext w w'):dp w ad ag aq A R A9 aI n s t h u w':=⟨I.ab _,A9,cs,p.ext I,λq r h=>.inl ⟨q,h⟩⟩
theorem dp.comp {cg:Nat->ak} (e:ah (λr=>(∃q,A9 q r)\/r=aq) w U) (f:∀q r,cg q r->(∃a,A9 a r)\/w.heap.size<=r) (d:dp U ad ag aq A R cg aI n s t h eR V):dp w ad ag aq A R A9 aI n s t h eR V:=by
 obtain⟨m,p,b5,x,y⟩:=d;have z:=e.size;refine⟨?_,p,b5,x,λq r j=>(y q r j).elim (λ⟨a,h⟩=>f a r h) λh=>.inr Ω⟩;refine ((e.mono λr _ h=>.inl h).trans (m.mono λr _ h=>?_):ah (λr=>((∃q,A9 q r)\/r=aq)\/w.heap.size<=r) w V).mono λr j h=>h.elim id λh=>Ω
 rcases h with⟨q,h⟩|h
 .exact (f q r h).imp .inl id
 .exact .inl (.inr h)
def ji (w:x3) (ad ag aq:Nat) (A R:ak) (A9:Nat->ak) (aI:ak) (n:aR) (s:av) (t:aB) (h:List aB) (u:av) (w':x3):Prop:=ah (A9 2) w w'/\ ∃cg cs,cr w' ad ag aq A R cg aI n s u t h cs/\(∀q r,cg q r->(∃a,A9 a r)\/w.heap.size<=r)/\ ∀r,cg 2 r->A9 2 r\/w.heap.size<=r
theorem ji.Er (d:ji w ad ag aq A R A9 aI n s t h u w'):dp w ad ag aq A R A9 aI n s t h u w':=by
 obtain⟨h1,cg,cs,a,e,_⟩:=d;exact⟨h1.mono λr _ h=>.inl ⟨2,h⟩,cg,cs,a,e⟩
theorem ji.same (p:cr w ad ag aq A R A9 aI n s u t h cs) (I:Ext w w'):ji w ad ag aq A R A9 aI n s t h u w':=⟨I.ab _,A9,cs,p.ext I,λq r h=>.inl ⟨q,h⟩,λr h=>.inl h⟩
theorem ji.comp {cg:Nat->ak} (f:ah (A9 2) w U) (m:∀q r,cg q r->(∃e,A9 e r)\/w.heap.size<=r) (j:∀r,cg 2 r->A9 2 r\/w.heap.size<=r) (d:ji U ad ag aq A R cg aI n s t h eR V):ji w ad ag aq A R A9 aI n s t h eR V:=by
 obtain⟨p,x,b5,y,B,C⟩:=d;have z:=f.size;refine⟨?_,x,b5,y,λq r a=>(B q r a).elim (λ⟨e,h⟩=>m e r h) λh=>.inr Ω,λr a=>(C r a).elim (j r) λh=>.inr Ω⟩;exact ((f.mono λr _ h=>.inl h).trans (p.mono λr _ h=>j r h):ah (λr=>A9 2 r\/w.heap.size<=r) w V).mono λr a h=>h.elim id λh=>Ω
theorem cr.Pg {T:ak} {v:x1} {u':av} (p:cr w ad ag aq A R A9 aI n s u t h cs) (y:∀q r,A9 q r->r<w.heap.size) (ac:cs[5]? =σ v) (e:ah T w w') (f:∀r,r<w.heap.size->T r->A9 2 r) (z:bC (λr=>A9 2 r\/w.heap.size<=r) aI w' [v] (u'.vars.map (·.un)))
  (C:u'.zero=u.zero) (E:u'.vars.map aE=u.vars.map aE) (F:(u'.vars.map λx=>decide (x.gone≠0))=u.vars.map λx=>decide (x.gone≠0)) (G:u'.funs=u.funs) (H:u'.gW=u.gW):
  ∃cg,cr w' ad ag aq A R cg aI n s u' t h cs/\(∀q r,cg q r->(∃I,A9 I r)\/w.heap.size<=r)/\ ∀r,cg 2 r->A9 2 r\/w.heap.size<=r:=by
 have J:=cc.kp p.doc (w7 e) (λr a=>.inl (f r a.2 a.1)) z (λj r K a=>?_) (λr a=>?_)
 .have m:=w8 (w:=w) (A9:=A9) (q:=2) (B:=λr=>A9 2 r\/w.heap.size<=r) λr h=>h;refine⟨_,p.row e f ?_ m,m,λr a=>a⟩;have:=cc.qb ac J;unfold h9;rw[C,E,F,G,H];exact this
 .rcases a with a|a
  .exact p.gF.1 2 j r (Ne.symm K) a
  .exact λh=>by have:=y j r h;omega
 .rcases a with a|a
  .exact p.gF.2 2 r a
  .exact λh=>by have:=(p.read r h).2.1;omega
theorem xf (p:cr w ad ag aq A R A9 aI n s u t h cs) {i:Nat} {x:br} (I:u.vars[i]? =σ x):∃g cap y,cs[5]? =σ (.slice (σ ⟨g,0,ν⟩) u.vars.length cap)/\w.cell? ⟨g,i,ν⟩=σ y/\aF .i64 w y x.un/\
  ∀ {w':x3} {v:Nat} {c:Int} {K:Unit->x3->Prop},Ext w w'->v<x.un.length->(∀F,ji w ad ag aq A R A9 aI n s t h (eA u i x (x.un.set v c)) F->K () F)->
   aa x7 (j5 ax y (Δ (v:Int))) w' λa=>aC x7 (o6 ap a (Δ c)) w' K:=by
 have G:=p.olds;obtain⟨szv,ai,aj,ak,al,am,H,_,_,_,J,_,_,m⟩:=id G.doc;obtain⟨g,cap,c,an,e,P,L,au,_⟩:=tD (i:=i) (a:=x.un) J (by rw[x8,I];rfl) λr _ h=>(m rfl).2 2 r h;obtain⟨y,rfl⟩:=W3.1 (ao.len L);have M:w.cell? ⟨g,i,ν⟩=σ y:=by
  have:=P 0 y rfl;simpa[show ao.n (Λ)=1 from rfl] using this
 rw[u7] at e;refine⟨g,cap,y,by rw[H,<-e];rfl,M,eE (iV L),λ{w' v c K} j ac Q=>?_⟩;have S:=G.ext j;have z:=j.size;obtain⟨av,aw,ay,az,N,U,O,B,V⟩:=tD (i:=i) (a:=x.un) (bW J j) (by rw[x8,I];rfl) λr _ h=>(m rfl).2 2 r h;obtain⟨C,rfl⟩:=W3.1 (ao.len O);rw[u7,e] at N;cases N;have W:C=y:=by
  have h1:=U 0 C rfl;have h1:w'.cell? ⟨g,i,ν⟩=σ C:=by simpa[show ao.n (Λ)=1 from rfl] using h1
  rw[il j M] at h1;exact (j6 h1).symm
 subst W;refine DA (α:=Int) (i:=v) (A:=λ_=>False) rfl rfl ax.u ap.i O ac rfl rfl (λr _ f=>⟨λh=>h,(m rfl).2 2 r (B r f)⟩) λaA E X=>?_;have Y:=V E (λr _ h=>h) X λr f=>f.elim .inl False.elim;obtain⟨cg,Z,ae,af⟩:=S.Pg (u':=eA u i x (x.un.set v c)) (λq r h=>by have:=h.2;omega) (by rw[H];rfl) E (λr _ h=>B r h) (by show bC _ _ _ _ ((u.vars.set i {x with un:=x.un.set v c}).map (·.un));rw[V7];exact Y) rfl (pt I (by unfold aE;simp)) (pt I rfl) rfl rfl;refine Q _ ⟨(j.ab _).trans (E.mono λr _ h=>(B r h).1),cg,cs,Z,λq r f=>?_,λr f=>?_⟩
 .rcases ae q r f with⟨ah,h⟩|h
  .exact .inl ⟨ah,h.1⟩
  .exact .inr Ω
 .exact (af r f).imp (λh=>h.1) λh=>Ω
theorem Ph (p:cr w ad ag aq A R A9 aI n s u t h cs) {f:cz} (ae:u.funs[j]? =σ f):∃g cap x E y,cs[6]? =σ (.slice (σ ⟨g,0,ν⟩) u.funs.length cap)/\w.rangeAt g (j*4) [x,E,y,.bool (decide (f.live≠0))]/\aF .i64 w x f.sc/\aF .i64 w y f.cs/\
  ∀ {w':x3} {m:Nat} {c:Int} {K:Unit->x3->Prop},Ext w w'->m<f.cs.length->(∀N,dp w ad ag aq A R A9 aI n s t h (dI u j f (f.cs.set m c)) N->K () N)->
   aa x7 (j5 ax y (Δ (m:Int))) w' λa=>aC x7 (o6 ap a (Δ c)) w' K:=by
 have O:=p.olds;obtain⟨szv,az,aA,aB,aD,aE,P,_,_,_,_,Q,_,F⟩:=id O.doc;obtain⟨g,cap,c,aG,e,G,U,aH,_⟩:=tD (i:=j) (a:=h8 f) Q (by rw[x8,ae];rfl) λr _ h=>(F rfl).2 3 r h;have V:=ps U;obtain⟨x,E,y,rfl,W,aJ,X⟩:=V;rw[u7] at e;have G:w.rangeAt g (j*4) [x,E,y,.bool (decide (f.live≠0))]:=G;refine⟨g,cap,x,E,y,by rw[P,<-e];rfl,G,eE W,eE X,λ{w' m c K} B hm Y=>?_⟩;have Z:=O.ext B;have z:=B.size;obtain⟨aK,aL,aM,aN,S,L,ac,H,af⟩:=tD (i:=j) (a:=h8 f) (bW Q B) (by rw[x8,ae];rfl) λr _ h=>(F rfl).2 3 r h;rw[u7,e] at S;cases S;obtain⟨ah,ai,M,aO,rfl,aj,I,ak⟩:=O2 ac λr h=>(F rfl).2 3 r (H r h);have L:w'.rangeAt g (j*4) [ah,ai,M,.bool (decide (f.live≠0))]:=L;have al:M=y:=by
  have h1:=L 2 M rfl;rw[(ne B G) 2 y rfl] at h1;exact (j6 h1).symm
 subst al;refine DA (α:=Int) (i:=m) (A:=λ_=>False) rfl rfl ax.u ap.i aj hm rfl rfl (λr _ C=>⟨λh=>h,(F rfl).2 3 r (H r (I r C))⟩) λaP J am=>?_;have an:=ak J (ao.mono am (λr _ h=>h.elim id False.elim) λ_ _ h=>h);have au:=af J (λr _ h=>I r h) an λr C=>.inl C;obtain⟨cg,av,aw⟩:=Z.O0 (u':=dI u j f (f.cs.set m c)) (λq r h=>by have:=h.2;omega) (by rw[P];rfl) J (λr _ h=>H r (I r h)) (by show bC _ _ _ _ ((u.funs.set j {f with cs:=f.cs.set m c}).map h8);rw[V7];exact au) rfl rfl rfl;refine Y _ ⟨(B.ab _).trans (J.mono λr _ h=>.inl ⟨3,(H r (I r h)).1⟩),cg,cs,av,λq r C=>?_⟩;rcases aw q r C with⟨ay,h⟩|h
 .exact .inl ⟨ay,h.1⟩
 .exact .inr Ω
theorem Pj (p:cr w ad ag aq A R A9 aI n s u t h cs) {K:Unit->x3->Prop} (f:∀e,dp w ad ag aq A R A9 aI n s t h {u with zero:=c} e->K () e):aC x7 (o6 ap (.pointer (σ ⟨aq,0+2,ν⟩)) (Δ c)) w K:=by
 refine bt (o:=0+2) ap.i rfl rfl p.box (by rw[p.doc.len.1];omega) λV a m j=>?_;refine f _ ⟨a.mono λr _ h=>.inr h,A9,_,p.Eb a (λr _ h=>.inr h) j ?_ λq r h=>.inl ⟨q,h⟩,λq r h=>.inl ⟨q,h⟩⟩;exact (cc.ab p.doc a λr _ h he=>h.elim (λ⟨q,h⟩=>(p.apart q r h).2.2 he) λh=>(p.read r h).2.2 he).Of
theorem Pk (p:cr w ad ag aq A R A9 aI n s u t h cs) {i:Nat} {x:br} (I:u.vars[i]? =σ x):∃g cap y,cs[3]? =σ (.slice (σ ⟨g,0,ν⟩) u.vars.length cap)/\w.cell? ⟨g,i,ν⟩=σ y/\aF .i64 w y (aE x)/\(∀r,leads y r->A9 0 r)/\
  ∀ {w':x3} {m:Int} {z:x1} {gz:Nat} {K:Unit->x3->Prop},Ext w w'->au .i64 ai w' gz z (aE {x with mask:=m})->(∀r,leads z r->w.heap.size<=r)->(∀H,dp w ad ag aq A R A9 aI n s t h {u with vars:=u.vars.set i {x with mask:=m}} H->K () H)->
   aa x7 (j5 de (.slice (σ ⟨g,0,ν⟩) u.vars.length cap) (Δ (i:Int))) w' λa=>aC x7 (o6 an a z) w' K:=by
 have J:=p.olds;have W:=(x4.1 I).1;obtain⟨szv,X,aD,aG,aH,aJ,L,_,Y,_,_,_,_,Z⟩:=id J.doc;obtain⟨g,cap,full,ac,c,aK,e,B,ae,C,M,E,aj,aL,ak⟩:=Ec (i:=i) (a:=aE x) Y (by rw[x8,I];rfl) λr _ h=>(Z rfl).2 0 r h;obtain⟨y,rfl⟩:=W3.1 (ao.len E);rw[u7] at e;have al:full[i]? =σ y:=by have:=M 0 y rfl;simpa[show ao.n (Λ)=1 from rfl] using this
 refine⟨g,cap,y,by rw[L,<-e];rfl,by have:=B.cell (o:=i) al;exact this,eE (iV E),λr f=>?_,λ{w' m N gz K} F O P am=>?_⟩
 .obtain⟨aM,aN,ap,av⟩:=zP E;rcases av with rfl|aw
  .obtain⟨_,_,_,e,_⟩:=f;cases e
  .obtain⟨e,_⟩:=bM ap f;rw[e];exact (aj _ aw).1
 have z:=F.size;have C:i*1+1<=full.length:=C;rw[e6 de.u an.i W λ_=>rfl];obtain⟨_,_,_,Q⟩:=dg O.ls;refine bt (o:=0+i*1) an.i (by rw[Q];rfl) (by rw[Q];rfl) (B.ext F) Ω λS U aO j=>?_;have j:af S g ac (over full (i*1) [N]):=by
  have e:=Ef (full:=full) (c:=[y]) (o:=i*1) (q:=0) (x:=N) M C Ξ;rw[X0] at j;rw[Nat.add_zero] at e;rw[e] at j;exact j
 have aP:g<w.heap.size:=B.lt;have G:ah (λr=>r=g) w S:=(F.ab _).trans U;have ax:=bp O U λr f he=>by have he:r=g:=he;have:=P r f;omega
 have ay:=ak G (λr _ h=>.inr h) j (mE (R:=aI) ax) λr f=>.inr (P r f);have V:∀r,r<w.heap.size->r=g->A9 0 r/\r<w.heap.size:=λr f h=>by rw[h];exact ae
 obtain⟨cg,az,aA⟩:=J.n1 (u':={u with vars:=u.vars.set i {x with mask:=m}}) (λq r h=>h.2) (v:=X) (by rw[L];rfl) G V (by show bC _ _ _ _ ((u.vars.set i {x with mask:=m}).map aE);rw[V7];exact ay) rfl (pt I rfl) (pt I rfl) rfl rfl;refine am _ ⟨G.mono λr f h=>.inl ⟨0,(V r f h).1⟩,cg,cs,az,λq r f=>?_⟩;rcases aA q r f with⟨aB,h⟩|h
 .exact .inl ⟨aB,h.1⟩
 .exact .inr h
end
def fL (s:av) (sc:Λ) (pos:Int) (v:Int):Nat->Nat->Λ->List (Λ)
 |0,_,tl=>[tl]
 |m+1,p,tl=>if (p:Int)=pos then fL s sc pos v m (p+1) (tl.set p v) else (cq s (sc.getD p 0)).flatMap λx=>fL s sc pos v m (p+1) (tl.set p x)
theorem tI {α:Type} {l:List α} {p:Nat} {x:α} (h:p<l.length):(l.set p x).take (p+1)=l.take p++[x]:=by
 rw[u9,c9 h,List.take_set_of_le (p8 _)];rfl
theorem q0 {s:av} {sc:Λ} {pos:Nat} {v:Int}:∀ (m p:Nat) (tl:Λ),sc.length=p+m->tl.length=sc.length->fL s sc pos v m p tl=(ib (jh s pos v (sc.drop p) p)).map (tl.take p++ ·)
 |0,p,tl,h1,a=>by
  rw[List.drop_eq_nil_of_le Ω,j9 Ω];unfold fL jh ib;rw[List.map_singleton,U2]
 |m+1,p,tl,h1,a=>by
  have e:p<sc.length:=Ω
  obtain⟨u,hu⟩:=aH (l:=sc) e;have h:sc.drop p=u::sc.drop (p+1):=by rw[X7 e,(x4.1 hu).2]
  have j:sc.getD p 0=u:=by rw[v8,hu];rfl
  rw[h];unfold fL jh;rw[ib];by_cases f:p=pos
  .rw[if_pos Ω,if_pos f,List.flatMap_singleton,q0 m (p+1) (tl.set p v) Ω (by rw[Z2];exact a),S8,tI Ω];refine List.map_congr_left λr _=>?_;simp
  .rw[if_neg Ω,if_neg f,j,List.map_flatMap];congr 1;funext x;rw[q0 m (p+1) (tl.set p x) Ω (by rw[Z2];exact a),S8,tI Ω];refine List.map_congr_left λr _=>?_;simp
theorem Pl {s:av} {pos:Nat} {p:Nat} {a:Λ} (h1:sc.length=p+m) (e:tl.length=sc.length) (f:a.length=sc.length) (h:a.take p=tl.take p):fL s sc pos v m p a=fL s sc pos v m p tl:=by
 rw[q0 m p tl h1 e,q0 m p a h1 f,h]
theorem Pm {s:av} {pos:Nat} (h:tl.length=sc.length):fL s sc pos v sc.length 0 tl=ce s sc pos v:=by
 rw[q0 sc.length 0 tl Ω h];unfold ce;simp
def mN (w:x3) (ad gs bF bm a6:Nat) (aP:x1) (pos v:Int):Prop:=af w gs dy [Γ ad]/\af w bF an [aP]/\af w bm ai [Δ pos]/\af w a6 ai [Δ v]
theorem mN.ab {S:ak} {bF bm a6:Nat} {aP:x1} (h:mN w ad gs bF bm a6 aP pos v) (a:ah S w w') (e:¬S gs/\¬S bF/\¬S bm/\¬S a6):mN w' ad gs bF bm a6 aP pos v:=
 ⟨h.1.ab a e.1,h.2.1.ab a e.2.1,h.2.2.1.ab a e.2.2.1,h.2.2.2.ab a e.2.2.2⟩
theorem mN.ext {bF bm a6:Nat} {aP:x1} (h:mN w ad gs bF bm a6 aP pos v) (I:Ext w w'):mN w' ad gs bF bm a6 aP pos v:=h.ab (I.ab λ_=>False) ⟨id,id,id,id⟩
def fZ (ad ag:Nat) (R:ak) (n:aR) (s:av) (gs bF bm a6:Nat) (aP:x1) (sc:Λ) (pos v:Int) (B0:Nat) (D:Nat->Prop) (w:x3):Prop:=
 mN w ad gs bF bm a6 aP pos v/\(gs<B0/\bF<B0/\bm<B0/\a6<B0)/\aF .i64 w aP sc/\(∀r,leads aP r->r<B0)/\(Laid w/\B0<=w.heap.size)/\ ∃A s' bw,bx w ad ag A R n s' bw/\(∀i,cq s' i=cq s i)/\ ∀r,A r\/R r->r<B0\/D r
section
variable {ad ag gs bF bm a6 B0:Nat} {R:ak} {n:aR} {s:av} {aP:x1} {sc:Λ} {pos v:Int}
theorem fZ.ext {D:Nat->Prop} (h:fZ ad ag R n s gs bF bm a6 aP sc pos v B0 D w) (I:Ext w w'):fZ ad ag R n s gs bF bm a6 aP sc pos v B0 D w':=by
 obtain⟨h1,e,f,j,a,A,s',bw,m,p,q⟩:=h;exact⟨h1.ext I,e,f.ext I,j,⟨a.1.ext I,Y9 a.2 I.size⟩,A,s',bw,m.ext I,p,q⟩
def jN (w:x3) (l gy gt gtb ga:Nat) (hd:Array x1) (q:Nat) (tl:Λ):Prop:=af w gy zu [.func (.yield l) #[] #[]]/\af w gtb an [.slice (σ ⟨gt,0,ν⟩) q q]/\af w ga ow [.func (.func ly) #[] hd]/\
 au .i64 ai w gt (.slice (σ ⟨gt,0,ν⟩) q q) tl
theorem jN.ab {S:ak} {l q:Nat} {hd:Array x1} (h:jN w l gy gt gtb ga hd q tl) (f:ah S w w') (j:¬S gy/\¬S gtb/\¬S ga/\¬S gt):jN w' l gy gt gtb ga hd q tl:=
 ⟨h.1.ab f j.1,h.2.1.ab f j.2.1,h.2.2.1.ab f j.2.2.1,bp h.2.2.2 f λr m=>by
  obtain⟨a,_,_,e,p⟩:=m;cases e;rw[<-p];exact j.2.2.2⟩
theorem jN.ext {l q:Nat} {hd:Array x1} (h:jN w l gy gt gtb ga hd q tl) (I:Ext w w'):jN w' l gy gt gtb ga hd q tl:=h.ab (I.ab λ_=>False) ⟨id,id,id,id⟩
theorem Pn (J:aF .i64 w aP sc):am x7 zn [Γ ad,aP,Δ pos,Δ v] w λr w'=>Ext w w'/\ ∃gs bF bm a6,r= .func (.func lx) #[] #[Γ bF,Γ bm,Γ a6,Γ gs]/\mN w' ad gs bF bm a6 aP pos v/\w.heap.size<=gs/\w.heap.size<=bF/\w.heap.size<=bm/\w.heap.size<=a6:=by
 obtain⟨_,_,_,s⟩:=dg J;refine az func176 ?_;refine bo λgs U y q h=>?_;refine bo λbF V z j a=>?_;refine bo λbm A B e m=>?_;refine bo λa6 p C f x=>?_;have h:af p gs dy [Γ ad]:=((af.ext h j).ext e).ext f;have a:af p bF an [aP]:=by rw[s] at a ⊢;exact (af.ext a e).ext f
 have m:af p bm ai [Δ pos]:=af.ext m f;rw[iR];have E:=q.size;have G:=j.size;have z3:=e.size;exact⟨((q.trans j).trans e).trans f,gs,bF,bm,a6,rfl,⟨h,a,m,x⟩,Ω,Ω,Ω,Ω⟩
theorem fZ.own {D:Nat->Prop} {S:ak} (h:fZ ad ag R n s gs bF bm a6 aP sc pos v B0 D w) (j:ah S w w') (p:∀r,S r->B0<=r/\¬D r):fZ ad ag R n s gs bF bm a6 aP sc pos v B0 D w':=by
 obtain⟨h1,f,B,q,x,A,s',bw,y,C,z⟩:=h;have no:∀ {r:Nat},r<B0->¬S r:=λh1 f=>by have:=(p _ f).1;omega
 refine⟨h1.ab j ⟨no f.1,no f.2.1,no f.2.2.1,no f.2.2.2⟩,f,hI B j λr m a n c e E=>?_,q,⟨?_,Y9 x.2 j.size⟩,A,s',bw,⟨y.1.ab j λr _ m J=>?_,y.2⟩,C,z⟩
 .exact no (q r ⟨a,n,c,e,E⟩) m
 .exact js j (no Ω) x.1
 .exact (z r m).elim (λh=>no h J) (p r J).2
def Po (P:(Nat->Prop)->x3->Prop) (ay:(Nat->Prop)->Nat->x3->Prop) (L:List (Λ)) (l B:Nat):Prop:=∀ (D:Nat->Prop) (k:Nat) tl aL w',(∀r,D r->B<=r/\r<w'.heap.size)->B<=w'.heap.size->P D w'->L[k]? =σ tl->aF .i64 w' aL tl->ay D k w'->
 hA x7 l [aL] w' λu a=>u= .bool true/\(∃D',(∀r,D' r->D r\/w'.heap.size<=r/\r<a.heap.size)/\(∀r,D r->D' r)/\P D' a/\ay D' (k+1) a)/\cL w' a/\w'.heap.size<=a.heap.size/\ah (λr=>r<B\/D r) w' a
def q1 (D:Nat->Prop) (B gy gtb ga gt:Nat):Prop:=(B<=gy/\¬D gy)/\(B<=gtb/\¬D gtb)/\(B<=ga/\¬D ga)/\B<=gt/\¬D gt
theorem q1.go {D D':Nat->Prop} {ci:Nat} (h:q1 D B gy gtb ga gt) (a:∀r,D' r->D r\/m<=r/\r<ci) (hm:gy<m/\gtb<m/\ga<m/\gt<m):q1 D' B gy gtb ga gt:=
 have f:∀ {g:Nat},g<m->¬D g->¬D' g:=λh1 e j=>(a _ j).elim e λh=>Ω
 ⟨⟨h.1.1,f hm.1 h.1.2⟩,⟨h.2.1.1,f hm.2.1 h.2.1.2⟩,⟨h.2.2.1.1,f hm.2.2.1 h.2.2.1.2⟩,h.2.2.2.1,f hm.2.2.2 h.2.2.2.2⟩
theorem jN.lt {l q:Nat} {hd:Array x1} (h:jN w l gy gt gtb ga hd q tl):gy<w.heap.size/\gtb<w.heap.size/\ga<w.heap.size/\gt<w.heap.size:=
 ⟨h.1.lt,h.2.1.lt,h.2.2.1.lt,(bM h.2.2.2 ⟨_,_,_,rfl,rfl⟩).2⟩
def AtR (l gy gt gtb ga:Nat) (hd:Array x1) (P:(Nat->Prop)->x3->Prop) (ay:(Nat->Prop)->Nat->x3->Prop) (S:ak) (D:Nat->Prop) (w:x3) (sl k p:Nat) (tl:Λ) (w':x3):Prop:=
 w.heap.size<=w'.heap.size/\ ∃D' a,a.length=sl/\a.take p=tl.take p/\jN w' l gy gt gtb ga hd sl a/\((∀r,D' r->D r\/w.heap.size<=r/\r<w'.heap.size)/\ ∀r,D r->D' r)/\P D' w'/\ay D' k w'/\ah S w w'
section
variable {l gy gt gtb ga B:Nat} {hd:Array x1} {P:(Nat->Prop)->x3->Prop} {ay:(Nat->Prop)->Nat->x3->Prop} {S T:ak} {D:Nat->Prop} {w U V:x3} {sl k p:Nat} {tl:Λ}
theorem AtR.own (q:∀D T U V,ah T U V->(∀r,T r->B<=r/\¬D r)->P D U->P D V) (s:∀D k U V,ah (λr=>B<=r/\¬D r) U V->fo B U V->ay D k U->ay D k V)
  (h:AtR l gy gt gtb ga hd P ay S D w sl k p tl U) (e:ah T U V) (x:fo B U V) (a:∀r,T r->r<w.heap.size/\¬D r/\B<=r/\S r/\r≠gy/\r≠gtb/\r≠ga/\r≠gt):AtR l gy gt gtb ga hd P ay S D w sl k p tl V:=by
 obtain⟨y,D',z,h1,A,C,⟨j,E⟩,F,G,H⟩:=h;have m:∀r,T r->B<=r/\¬D' r:=λr f=>⟨(a r f).2.2.1,λI=>(j r I).elim (a r f).2.1 λh=>by have:=(a r f).1;omega⟩;exact⟨Y9 y e.size,D',z,h1,A,C.ab e ⟨λh=>(a _ h).2.2.2.2.1 rfl,λh=>(a _ h).2.2.2.2.2.1 rfl,λh=>(a _ h).2.2.2.2.2.2.1 rfl,λh=>(a _ h).2.2.2.2.2.2.2 rfl⟩,
  ⟨λr f=>(j r f).imp id λh=>⟨h.1,R8 h.2 e.size⟩,E⟩,q D' T U V e m F,s D' k U V (e.mono λr _ h=>m r h) x G,H.trans (e.mono λr _ h=>(a r h).2.2.2.1)⟩
theorem AtR.base {w0:x3} (h:AtR l gy gt gtb ga hd P ay S D w sl k p tl U) (I:Ext w0 w) (a:∀r,r<w0.heap.size->S r->T r):AtR l gy gt gtb ga hd P ay T D w0 sl k p tl U:=by
 obtain⟨e,D',f,h1,j,m,⟨q,s⟩,x,y,z⟩:=h;exact⟨Y9 I.size e,D',f,h1,j,m,⟨λr A=>(q r A).imp id λh=>⟨Y9 I.size h.1,h.2⟩,s⟩,x,y,((I.ab S).trans z).mono a⟩
theorem AtR.comp {a:Nat->Prop} {j:Λ} {x:Int} (f:∀r,r<B\/D r\/r=gt->S r) (m:∀r,a r->D r\/w.heap.size<=r/\r<U.heap.size) (s:∀r,D r->a r) (q:ah S w U) (y:j.take p=tl.take p)
  (h:AtR l gy gt gtb ga hd P ay (λr=>r<B\/a r\/r=gt) a U sl k (p+1) (j.set p x) V):AtR l gy gt gtb ga hd P ay S D w sl k p tl V:=by
 obtain⟨z,D',A,h1,C,E,⟨F,G⟩,H,I,K⟩:=h;have J:=q.size;refine⟨Y9 J z,D',A,h1,?_,E,⟨λr e=>?_,λr e=>G r (s r e)⟩,H,I,?_⟩
 .have:=congrArg (List.take p) C;rw[List.take_take,List.take_take,Nat.min_eq_left Ω,List.take_set_of_le (p8 _)] at this;rw[this,y]
 .rcases F r e with h|h
  .exact (m r h).imp id λh=>⟨h.1,Ω⟩
  .exact .inr ⟨Ω,h.2⟩
 .refine ((q.mono λr _ h=>.inl h).trans (K.mono λr _ h=>?_):ah (λr=>S r\/w.heap.size<=r) w V).mono λr e h=>h.elim id λh=>Ω
  rcases h with h|h|h
  .exact .inl (f r (.inl h))
  .exact (m r h).elim (λh=>.inl (f r (.inr (.inl h)))) λh=>.inr h.1
  .exact .inl (f r (.inr (.inr h)))
end
theorem Pp {α β:Type} {l:List α} {a:α->List β} {i:Nat} {y:α} {z:β} (h:l[j]? =σ y) (hi:(a y)[i]? =σ z):(l.flatMap a)[((l.take j).flatMap a).length+i]? =σ z:=by
 have f:=(x4.1 h).1;have e:l=l.take j++y::l.drop (j+1):=by
  conv=>lhs;rw[<-List.take_append_drop j l,X7 f,(x4.1 h).2]
 conv=>lhs;rw[e,List.flatMap_append,X5]
 have m:=(x4.1 hi).1;have el:((l.take j++y::l.drop (j+1)).take j)=l.take j:=by rw[List.take_append_of_le_length (by rw[l9];omega),List.take_take,Nat.min_self]
 rw[el,Y4 Ω,R3,Y1 m];exact hi
theorem Pq {t:r8} {b o:Nat} {x:x1} {K:x1->Prop} (a:jt x7 t=true) (h:w.cell? ⟨b,o,ν⟩=σ x):aa x7 (do loadVar t (<-asAddr (.pointer (σ ⟨b,o,ν⟩)))) w K=K x:=aa.of λw' I=>by
 have h':=il I h;unfold jt at a;cases hu:x7.underlying t with
 |none=>rw[hu] at a;cases a
 |some d=>
  rw[hu] at a;cases d<;>first|(cases a;done)|simp[asAddr,loadVar,isAgg,run_underlying hu,h']
def jO (bF gy gtb bm a6 ga gs:Nat):Array x1:=#[Γ bF,Γ gy,Γ gtb,Γ bm,Γ a6,Γ ga,Γ gs]
def tJ (p:Nat) (bF gy gtb bm a6 ga gs:Nat):List x1:=[Δ (p:Int),Γ bF,Γ gy,Γ gtb,Γ bm,Γ a6,Γ ga,Γ gs]
theorem Pr {l:Nat} {ay:(Nat->Prop)->Nat->x3->Prop} (bV:0<=pos) (bW:∀u∈sc,0<=u/\u<n.sizes.length) (c2:sc.length<=6) (bX:B0<=B) (Z:gt≠gy/\gt≠gtb/\gt≠ga)
  (O:∀D k U V,ah (λr=>B<=r/\¬D r) U V->fo B U V->ay D k U->ay D k V) (bY:Po (fZ ad ag R n s gs bF bm a6 aP sc pos v B0) ay L l B):
  ∀ (q p:Nat) (tl:Λ) (k:Nat) (D:Nat->Prop) (w:x3),sc.length=p+q->tl.length=sc.length->(∀r,D r->B<=r/\r<w.heap.size)->B<=w.heap.size->q1 D B gy gtb ga gt->jN w l gy gt gtb ga (jO bF gy gtb bm a6 ga gs) sc.length tl->fZ ad ag R n s gs bF bm a6 aP sc pos v B0 D w->ay D k w->
   (∀i x,(fL s sc pos v q p tl)[i]? =σ x->L[k+i]? =σ x)->
   am x7 ly (tJ p bF gy gtb bm a6 ga gs) w λr w'=>r= .bool true/\AtR l gy gt gtb ga (jO bF gy gtb bm a6 ga gs) (fZ ad ag R n s gs bF bm a6 aP sc pos v B0) ay (λr=>r<B\/D r\/r=gt) D w sc.length (k+(fL s sc pos v q p tl).length) p tl w':=by
 obtain⟨dT,rfl⟩:=U4 bV;have ac:∀D T U V,ah T U V->(∀r,T r->B<=r/\¬D r)->fZ ad ag R n s gs bF bm a6 aP sc dT v B0 D U->fZ ad ag R n s gs bF bm a6 aP sc dT v B0 D V:=λD T U V aS bj h=>h.own aS λr f=>⟨Y9 bX (bj r f).1,(bj r f).2⟩;have aT:∀ {J:x3} {K:x1->Prop},af J bF an [aP]->K aP->aa x7 (u4 an (Γ bF)) J K:=λaV aW=>by rw[aA (v:=aP) Ψ (aV.Qz rfl)];exact aW
 have aX:∀ {a1 p:Nat} {tl:Λ} {D:Nat->Prop} {w V J:x3} {a:Nat} {b:Bool},Ext w V->w.heap.size<=a->a<V.heap.size->(∀r,D r->B<=r/\r<w.heap.size)->B<=w.heap.size->(gy<w.heap.size/\gtb<w.heap.size/\ga<w.heap.size/\gt<w.heap.size)->
   AtR l gy gt gtb ga (jO bF gy gtb bm a6 ga gs) (fZ ad ag R n s gs bF bm a6 aP sc dT v B0) ay (λr=>r<B\/D r\/r=gt\/r=a) D V sc.length a1 p tl J->af J a gf [.bool b]->
   aC x7 (o6 gf (Γ a) (.bool true)) J λ(_:Unit) aG=>aa x7 (do loadVar gf (<-asAddr (Γ a))) aG λr=>ul w.heap.size aG λbk=>r= .bool true/\AtR l gy gt gtb ga (jO bF gy gtb bm a6 ga gs) (fZ ad ag R n s gs bF bm a6 aP sc dT v B0) ay (λr=>r<B\/D r\/r=gt) D w sc.length a1 p tl bk:=by
  intro a1 p tl D w V J a b E bl ae m aj ap a2 a7;have bZ:∀r,r=a->r<V.heap.size/\¬D r/\B<=r/\(r<B\/D r\/r=gt\/r=a)/\r≠gy/\r≠gtb/\r≠ga/\r≠gt:=by
   rintro r rfl;exact⟨ae,λh=>by have:=(m _ h).2;omega,Ω,.inr (.inr (.inr rfl)),Ω,Ω,Ω,Ω⟩
  refine aC.ct (bt gf.i rfl rfl a7 Ξ λaG b0 c3 a8 b1=>?_);have a8:af aG a gf [.bool true]:=a8;have b2:=a2.own ac O b0 b1.o bZ;rw[Pq (x:=.bool true) Ψ (a8.Qz rfl)];intro bk b3 b4;refine⟨rfl,((b2.own ac O (b3.ab λ_=>False) (b4.2.mono aj) λ_ h=>h.elim).base E λr f h=>?_)⟩;rcases h with h|h|h|h
  .exact .inl h
  .exact .inr (.inl h)
  .exact .inr (.inr h)
  .omega
 intro q;induction q with
 |zero=>
  intro p tl k D w b5 aq m aj z au ba bb av;refine iQ func228 ?_;refine aC.ct (bo λg1 U b6 aw C bc=>?_);refine aC.ct (bG gf.i λa V bl W M bd=>?_);have E:=aw.trans W;have b7:=aw.size;have b8:=W.size;have C:af V g1 ai [Δ (p:Int)]:=af.ext C W;have M:af V a gf [.bool false]:=M;have ae:=M.lt;have aI:=O D k w V (E.ab _) (bc.trans bd).o bb;have H:=ba.ext E;have G:=au.ext E;rw[aA (v:=Δ (p:Int)) Ψ (C.Qz rfl)];refine aT H.1.2.1 ?_;rw[aU an.u H.2.2.1,bh,al];refine⟨λ_=>?_,λh=>absurd Ω h⟩;rw[aA (v:=.func (.yield l) #[] #[]) Ψ (G.1.Qz rfl),aA (v:=.slice (σ ⟨gt,0,ν⟩) sc.length sc.length) Ψ (G.2.1.Qz rfl)];have b9:L[k]? =σ tl:=av 0 tl rfl;refine (show hA x7 l [.slice (σ ⟨gt,0,ν⟩) sc.length sc.length] V _ from hA.mono (bY D k tl _ V (λr f=>⟨(m r f).1,by have:=(m r f).2;omega⟩) Ω H b9 G.2.2.2.ls aI) ?_);rintro _ bn ⟨rfl,⟨D',d1,d2,ca,cb⟩,cc,cd,bf⟩;refine⟨cc,?_⟩;have ap:=au.lt;have aJ:∀ {g:Nat},w.heap.size<=g->¬D g:=λh1 ax=>by have:=(m _ ax).2;omega
  have az:∀ {g:Nat},B<=g->¬D g->¬(g<B\/D g):=λh1 ax ce=>ce.elim Ω ax;have a7:af bn a gf [.bool false]:=M.ab bf (az Ω (aJ Ω));have a2:AtR l gy gt gtb ga (jO bF gy gtb bm a6 ga gs) (fZ ad ag R n s gs bF bm a6 aP sc dT v B0) ay (λr=>r<B\/D r\/r=gt\/r=a) D V sc.length (k+1) p tl bn:=
   ⟨cd,D',tl,aq,rfl,G.ab bf ⟨az z.1.1 z.1.2,az z.2.1.1 z.2.1.2,az z.2.2.1.1 z.2.2.1.2,az z.2.2.2.1 z.2.2.2.2⟩,⟨d1,d2⟩,ca,cb,bf.mono λr _ h=>h.imp id .inl⟩
  exact aX E Ω ae m aj ap a2 a7
 |succ q bp=>
  intro p tl k D w b5 aq m aj z au ba bb av;refine iQ func228 ?_;refine aC.ct (bo λg1 U b6 aw C bc=>?_);refine aC.ct (bG gf.i λa V bl W M bd=>?_);have E:=aw.trans W;have b7:=aw.size;have b8:=W.size;have C:af V g1 ai [Δ (p:Int)]:=af.ext C W;have M:af V a gf [.bool false]:=M;have ae:=M.lt;have h1:=C.lt;have aI:=O D k w V (E.ab _) (bc.trans bd).o bb;have H:=ba.ext E;have G:=au.ext E;have ap:=au.lt;have aJ:∀ {g:Nat},w.heap.size<=g->¬D g:=λh1 ax=>by have:=(m _ ax).2;omega
  rw[aA (v:=Δ (p:Int)) Ψ (C.Qz rfl)];refine aT H.1.2.1 ?_;rw[aU an.u H.2.2.1,bh,al];refine⟨λh=>absurd h Ω,λ_=>?_⟩;rw[aA (v:=Δ (p:Int)) Ψ (C.Qz rfl),aA (v:=Δ (dT:Int)) Ψ (H.1.2.2.1.Qz rfl),bh,al];have bq:∀ {J:x3} {K:x1->Prop},af J gtb an [.slice (σ ⟨gt,0,ν⟩) sc.length sc.length]->K (.slice (σ ⟨gt,0,ν⟩) sc.length sc.length)->aa x7 (u4 an (Γ gtb)) J K:=λaV aW=>by rw[aA (v:=.slice (σ ⟨gt,0,ν⟩) sc.length sc.length) Ψ (aV.Qz rfl)];exact aW
  have aK:∀ {D:Nat->Prop} (r:Nat),q1 D B gy gtb ga gt->r=gt->B<=r/\¬D r:=λr h e=>e▸⟨h.2.2.2.1,h.2.2.2.2⟩;refine⟨λhe=>?_,λcg=>?_⟩
  .refine bq G.2.1 ?_;rw[aA (v:=Δ (p:Int)) Ψ (C.Qz rfl),aA (v:=Δ v) Ψ (H.1.2.2.2.Qz rfl),hn rfl an.u ai.i G.2.2.2 Ω];refine aC.ct (ho ai.i G.2.2.2 Ω λak Q c4 ch ci=>?_);have br:jN ak l gy gt gtb ga (jO bF gy gtb bm a6 ga gs) sc.length (tl.set p v):=⟨G.1.ab Q λh=>Z.1 h.symm,G.2.1.ab Q λh=>Z.2.1 h.symm,G.2.2.1.ab Q λh=>Z.2.2 h.symm,ch⟩;have cj:=ac D _ _ _ Q (λr h=>aK r z h) H;have ck:=O D k V ak (Q.mono λr _ h=>aK r z h) ci.o aI;have cl:af ak g1 ai [Δ (p:Int)]:=C.ab Q Ω;have cm:af ak a gf [.bool false]:=M.ab Q Ω;rw[aA (v:=.func (.func ly) #[] (jO bF gy gtb bm a6 ga gs)) Ψ (br.2.2.1.Qz rfl),aA (v:=Δ (p:Int)) Ψ (cl.Qz rfl),aM,wrap_i64 Ω Ω];have hw:fL s sc dT v (q+1) p tl=fL s sc dT v q (p+1) (tl.set p v):=by rw[fL,if_pos he]
   rw[hw];rw[hw] at av;refine (show am x7 ly (tJ (p+1) bF gy gtb bm a6 ga gs) ak _ from am.mono (bp (p+1) (tl.set p v) k D ak Ω (by rw[Z2];exact aq) (λr f=>⟨(m r f).1,by have:=(m r f).2;omega⟩) Ω z br cj ck av) ?_);rintro _ cn c5 ⟨rfl,bu⟩;have cp:af cn a gf [.bool false]:=by
    obtain⟨_,_,_,_,_,_,_,_,_,cr⟩:=bu;exact cm.ab cr λh=>by
     rcases h with h|h|h
     .omega
     .exact aJ Ω h
     .omega
   exact aX E Ω ae m aj ap (AtR.comp (λr h=>h.imp id λh=>h.imp id .inl) (λr h=>.inl h) (λ_ h=>h) (Q.mono λr _ h=>.inr (.inr (.inl h))) rfl bu) cp
  intro c6 aL _ cu;have aN:=H.ext aL;obtain⟨A,s',bw,bx,cw,c7⟩:=id aN.2.2.2.2.2;obtain⟨u,hu⟩:=aH (l:=sc) (i:=p) Ω;obtain⟨cz,c8⟩:=bW u (x5 hu);have c9:=bx.2.2.2.1.vars;obtain⟨x,bz⟩:=aH (l:=s'.vars) (i:=u.toNat) Ω;rw[aA (v:=Γ ad) Ψ (aN.1.1.Qz rfl)];refine aT aN.1.2.1 ?_;rw[aA (v:=Δ (p:Int)) Ψ ((C.ext aL).Qz rfl),be an.u ai.i Ψ aN.2.2.1 hu];refine (kr (i:=u) bx).mono ?_;rintro _ da cA ⟨⟨b,cB,rfl,bA⟩,bB⟩;refine (p7 (b:=b) (n:=cB)).mono ?_;rintro _ aO cC ⟨cD,bC,rfl,db,bD⟩;have bE:=pn bA cz bz;have cE:cq s (sc.getD p 0)=aE x:=by
   rw[<-cw,v8,hu,V1];unfold cq;rw[bz]
  have bH:fL s sc dT v (q+1) p tl=(aE x).flatMap λy=>fL s sc dT v q (p+1) (tl.set p y):=by rw[fL,if_neg cg,cE]
  have X:=(aL.trans bB).trans cD;have cF:=(cu.trans cA).trans cC;have z12:=X.size;have dc:=(aL.trans bB).size;have dd:=bD.lt;have bJ:B<=aO.heap.size:=Ω
  have cG:=O D k V aO (X.ab _) cF.o aI;have bK:=H.ext X;have bL:=G.ext X;refine⟨Nat,false,false,jZ,#[Γ bC],0,_,_,λ_=>_,λ_ j w'=>AtR l gy gt gtb ga (jO bF gy gtb bm a6 ga gs) (fZ ad ag R n s gs bF bm a6 aP sc dT v B0) ay (λr=>r<B\/D r\/r=gt) D aO sc.length (k+(((aE x).take j).flatMap λy=>fL s sc dT v q (p+1) (tl.set p y)).length) p tl w'/\af w' g1 ai [Δ (p:Int)]/\af w' a gf [.bool false],
   λ_ _ _ _=>False,rfl,(p6 (g:=bC) bA.1).s.x,?_,λ_ _ _ I h=>⟨h.1.ext I,h.2.ext I⟩,?_,λ_ _ _ _ _ _ _ h=>h,⟨bD,bK.2.2.2.2.1.1⟩,?_,?_,?_,λ_ _ _ h=>h.elim,λ_ _ _ _ h=>h.elim⟩
  .rintro _ _ _ _ ⟨_,_,_,_,rfl⟩;rfl
  .rintro _ j de df aS cH ⟨Y,aB,N⟩;have I:=aS.ext λ_ _ h=>nomatch h.1;exact⟨Y.own ac O (I.ab λ_=>False) (cH.mono bJ) λ_ h=>h.elim,aB.ext I,N.ext I⟩
  .exact⟨⟨p8 _,D,tl,aq,rfl,bL,⟨λ_ h=>.inl h,λ_ h=>h⟩,bK,by simpa using cG,ah.refl _ _⟩,C.ext X,M.ext X⟩
  .rintro _ _ j _ dg _ _ ⟨cI,dh⟩ ⟨di,rfl,y,cJ,cK⟩ ⟨cL,bM,cM⟩;cases cK;intro bN aD cN _;have bO:(aE x)[j]? =σ (y:Int):=by rw[<-bE,x8,cJ];rfl
   have cO:=cL.own ac O (aD.ab λ_=>False) (cN.2.mono bJ) λ_ h=>h.elim;obtain⟨dj,aF,aQ,Y,aB,N,⟨aR,cP⟩,cQ,cR,cS⟩:=cO;have cT:=bL.lt;have bg:=z.go aR cT;have bP:∀r,aF r->B<=r/\r<bN.heap.size:=λr f=>(aR r f).elim (λh=>⟨(m r h).1,by have:=(m r h).2;omega⟩) λh=>⟨Ω,h.2⟩;refine bq N.2.1 ?_;rw[aA (v:=Δ (p:Int)) Ψ ((bM.ext aD).Qz rfl),hn rfl an.u ai.i N.2.2.2 Ω];refine aC.ct (ho ai.i N.2.2.2 Ω λao P dk cU cV=>?_);have bQ:jN ao l gy gt gtb ga (jO bF gy gtb bm a6 ga gs) sc.length (aQ.set p y):=⟨N.1.ab P λh=>Z.1 h.symm,N.2.1.ab P λh=>Z.2.1 h.symm,N.2.2.1.ab P λh=>Z.2.2 h.symm,cU⟩;have cW:=ac aF _ _ _ P (λr h=>aK r bg h) cQ;have cX:=O aF _ bN ao (P.mono λr _ h=>aK r bg h) cV.o cR;have bR:af ao g1 ai [Δ (p:Int)]:=(bM.ext aD).ab P Ω;have cY:af ao a gf [.bool false]:=(cM.ext aD).ab P Ω;have cZ:=(cI.ext aD).ab P Ω;rw[aA (v:=.func (.func ly) #[] (jO bF gy gtb bm a6 ga gs)) Ψ (bQ.2.2.1.Qz rfl),aA (v:=Δ (p:Int)) Ψ (bR.Qz rfl),aM,wrap_i64 Ω Ω];have bS:fL s sc dT v q (p+1) (aQ.set p (y:Int))=fL s sc dT v q (p+1) (tl.set p (y:Int)):=Pl Ω (by rw[Z2];exact aq) (by rw[Z2];exact Y) (by rw[tI Ω,tI Ω,aB]);refine (show am x7 ly (tJ (p+1) bF gy gtb bm a6 ga gs) ao _ from am.mono (bp (p+1) (aQ.set p y) _ aF ao Ω (by rw[Z2];exact Y) (λr f=>⟨(bP r f).1,by have:=(bP r f).2;omega⟩) Ω bg bQ cW cX λi dl hi=>?_) ?_)
   .rw[bS] at hi;rw[S9];refine av _ _ ?_;rw[bH];exact Pp bO hi
   rintro _ dm dn ⟨rfl,bT⟩;rw[bI,Y7,aY];have bU:=AtR.comp (S:=λr=>r<B\/D r\/r=gt) (λr h=>h) (λr h=>(aR r h).imp id λh=>⟨h.1,Ω⟩) cP (cS.trans (P.mono λr _ h=>.inr (.inr h))) aB bT;obtain⟨_,_,_,_,_,_,_,c0,_,bi⟩:=bT;have aZ:∀ {g:Nat},w.heap.size<=g->g<aO.heap.size->¬(g<B\/aF g\/g=gt):=λc1 dp h=>by
    rcases h with h|h|h
    .omega
    .exact (aR _ h).elim (aJ c1) λh=>Ω
    .omega
   refine⟨⟨cZ.ab bi (aZ Ω Ω),c0.2.2.2.2.1.1⟩,⟨?_,bR.ab bi (aZ Ω Ω),cY.ab bi (aZ Ω Ω)⟩,λh=>by cases h⟩;have e:k+(((aE x).take j).flatMap λy=>fL s sc dT v q (p+1) (tl.set p y)).length+(fL s sc dT v q (p+1) (aQ.set p (y:Int))).length=k+(((aE x).take (j+1)).flatMap λy=>fL s sc dT v q (p+1) (tl.set p y)).length:=by
    rw[bS,u9,bO,l7,List.flatMap_append,List.flatMap_singleton,p9];omega
   rw[e] at bU;exact bU
  .rintro _ j dq rfl ⟨Y,aB,N⟩;rw[j9 (by rw[<-bE,u7];exact p8 _),<-bH] at Y;exact aX E Ω ae m aj ap (Y.base X λr _ h=>h.imp id λh=>h.imp id .inl) N
end
end Go.Proofs.YtmgflbkdggdhoaaGreatDoor
