/- own texts, made small by a tool (wip/ holds them as they were written): no statement of the seat. -/
import Derived.Test.YtikkpokkcdocoaaGreatDoorXd
set_option linter.unusedVariables false
set_option linter.unusedSimpArgs false
set_option linter.unnecessarySimpa false
open Array renaming getElem?_eq_some_iff→n9
open BitVec renaming ofInt→T3
open Bool renaming not_true→Y6,not_false→W5,eq_iff_iff→U1,and_eq_true→U4,or_eq_false_iff→U5,true_and→T6
open Decidable renaming not_not→X3
open Go renaming Value→x1,World→x3,TypeId→r9,IntKind→o4,Program→W9
open Go.Addr renaming add_mid→T2
open Go.Builtin renaming append_→Z3,len_→V2
open Go.Instr renaming loadAt→u4,fieldAt→u5,storeAt→o6,indexAt→j5,buildSlice→Y7,sliceAt→V6
open Go.IntKind renaming i64→X7
open Go.Proofs.Tryz renaming prog→x7
open Int renaming toNat_natCast→u6
open List renaming getElem?_eq_some_iff→x4,mem_of_getElem?→x5,getElem?_eq_getElem→x6,getElem?_map→x8,getD_eq_getElem?_getD→v8,take_add_one→u7,length_map→u9,length_append→r8,replicate→p9,take_length→o5,length_take→o7,mem_append→o9,mem_singleton→l7,mem_map→l9,take_of_length_le→j0,eq_nil_of_length_eq_zero→j4,length_cons→c9,getElem?_set_self→Z0,map_append→Z4,length_set→Z6,getElem?_take_of_lt→Z9,getElem?_eq_none→Y0,getElem?_append_left→Y1,getElem?_append_right→Y2,getElem?_set_ne→Y8,getElem?_set→X1,ext_getElem?→X2,mem_iff_getElem?→X5,drop_eq_getElem_cons→X8,append_assoc→X9,flatMap_cons→W0,mem_or_eq_of_mem_set→W3,append_nil→W7,range→V0,length_eq_one_iff→V1,mem_cons→V3,mem_of_mem_take→V5,pairwise_iff_getElem→V9,map_set→U6,length_singleton→U9,map_cons→T4,foldl_cons→T9,mem_filter→S4,getElem_mem→S9,length→R6,map_map→Q0,mem_range→Q3
open Nat renaming le_refl→p8,mul_le_mul_right→Y4,le_trans→Y5,zero_le→X4,zero_add→X6,sub_self→U2,add_mul→U8,mul_one→T0,pow_le_pow_right→T8,add_sub_cancel_left→S3,add_assoc→S6,min_eq_left→R5
open Option renaming toList_some→o8,isNone_some→j9,map_some→Z7,map_eq_some_iff→Y9,getD_some→V8,map→U3
open Option.some renaming inj→Z2
set_option maxHeartbeats 16000000
open Option renaming some→σ,none→ν
variable{U w w':x3}{aM szv z:x1}{S:Nat->Prop}{a e:r9}{c k v y:Int}{ag l sizes t tl:Λ}{K:x1->x3->Prop}{B ab ac j pos:Nat}{L:List (Λ)}{cs:List x1}
namespace Go.Proofs.YtikkpokkcdocoaaGreatDoor
open Go Go.Vc Go.RowKit Go.Proofs Go.Proofs.Tryz
set_option maxRecDepth 100000
def Oa(w:x3)(f:b2)(v:x1)(w':x3):Prop:=Ext w w'/\∃go a,ba dl 3 a6 w' go v a/\(∀h∈a,fL w' f.sizes h/\∀r,pq h r->w.heap.size<=r)/\a.map du=fE f/\∀r,leadsTo v r->w.heap.size<=r
def lk(k:Int)(sc cs:Λ)(h:cE):cE:=if h.1=sc then(h.1,dZ k h.2 cs)else h
theorem Ob{N:Nat}{bJ:Nat}{f:b2}(cG:n4 w bJ f)(R:fe N f):ai x7 G1 [Γ bJ] w (Oa w f):=by
 have hk:=R.k;obtain⟨szv,gz,av,gr,a2,bK,cH⟩:=id cG;obtain⟨bL,a7,cI,cJ⟩:=id cH;refine az func136 ?_;rw[aG dC.p 3 a2 rfl,ez dy.u a7];refine cd.range bL.length (λi l J=>∃g L,Ext w J/\kC J w.heap.size g l f.sizes L/\L.map du=eM f i) a7.le
  ⟨0,[],Ext.refl _,⟨ba.nil _ _ _ _ _,λh ao=>(by cases ao),λi j x y a8=>(by simp at a8),λr C=>(fq C).elim⟩,rfl⟩ ?_ ?_
 rotate_left
 .rintro l J cK ⟨g,L,S,C,W⟩;rw[<-cI,Cz]at W;rw[aQ,aj];refine⟨λh=>Ω,λ_=>N9 R C W λout w' go cL a8 bb cM X cN cO=>?_⟩;have cP:=S.size;exact⟨S.trans a8,go,cL,bb,λh ao=>⟨X h ao,(C.2.1 h (cM h ao)).2⟩,cN,λr C=>by have:=cO r C;omega⟩
 rintro i l J cK hi ⟨g,L,S,C,W⟩ cQ;obtain⟨bc,bM⟩:=aF (l:=bL) hi;obtain⟨x,bd⟩:=aF (l:=f.funs) (i:=i) Ω;have bf:=x5 bd;have bg:=cJ i bc x bM bd;have bN:=pf R bf;obtain⟨cR,dI,dJ⟩:=Cy R i;have bP:L.length=(eM f i).length:=by rw[<-W,u9]
 have dK:=R.k0;have bR:=a7.ext S;refine bQ Ω ?_;refine aT (λl' U=>∃g L,Ext w U/\kC U w.heap.size g l' f.sizes L/\L.map du=eM f (i+1)) ?_ ?_
 .rintro l' U bh;rw[aP];exact cQ _ _ bh
 intro ax bS;rw[dj rfl dy.u a1.i bR hi,bH a1.p a1.i rfl (bR.range bM)];refine bz a1.i λak dL dM cT cU=>?_;refine b6 (vs:=eY bc) a1.i rfl rfl bg.one cU λcV cW dN cX=>?_;have bT:Ext J cV:=cT.put cW Ω;have dO:=bT.size;refine aT (λaZ aw=>∃G c,aZ=Γ G/\Ext J aw/\ad aw G a6 (dl c)/\c.sc=bl x.scope/\c.cs=(hZ f.sizes f.k x).2/\fL aw f.sizes c/\J.heap.size<=G/\∀r,pq c r->J.heap.size<=r) ?_ ?_
 rotate_left
 .intro dP bU;intro cY bW _ _;have ay:=bT.trans bW;have aA:=S.trans ay;have cZ:=cX.ext bW;have bX:=a2.ext aA;have dQ:=ay.size;rw[bH a1.p a1.i rfl (show cY.rangeAt ak 0 (eY bc)from cZ.range),aG dC.p 2 bX rfl,aG dC.p 1 bX rfl];refine⟨?_,?_⟩
  .refine (Dc (bg.ext aA) R bf (bK.ext aA)).mono ?_;rintro _ dR _ ⟨bi,c,rfl,h1,bj,X,O⟩;refine bz a6.i λG dS bY bk aC=>?_;refine⟨.inl (bi.trans bk),?_⟩;refine b6 (vs:=dl c) a6.i rfl rfl X.one aC λdT b0 dU c0=>?_;have dV:=bi.size;refine bU _ _ ⟨G,c,rfl,(ay.trans bi).trans (bk.then b0 λr C he=>by have he:r=G:=he;omega),c0,h1,bj,?_,Ω,λr C=>by have:=O r C;omega⟩;exact mN (X.ext bk) b0 λr C=>.inl ⟨_,_,by have C:r=G:=C;subst C;exact aC,Φ,Φ⟩
  .refine bz a6.i λG dW bY aD aC=>?_;refine⟨.inl aD,?_⟩;have b1:=aA.trans aD;refine(Dc (bg.ext b1) R bf (bK.ext b1)).mono ?_;rintro _ dX _ ⟨b3,c,rfl,h1,bj,X,O⟩;have b4:=aC.ext b3;have dY:=aD.size;refine b6 (vs:=dl c) a6.i rfl rfl X.one b4 λea b5 eb c1=>?_;refine bU _ _ ⟨G,c,rfl,ay.trans ((aD.trans b3).then b5 λr C he=>by have he:r=G:=he;omega),c1,h1,bj,?_,Ω,λr C=>by have:=O r C;omega⟩;exact mN X b5 λr C=>.inl ⟨_,_,by have C:r=G:=C;subst C;exact b4,Φ,Φ⟩
 rintro _ aw ⟨G,c,rfl,bm,c2,af,aE,c3,bY,O⟩;have b8:=C.ext bm;have c4:∀h∈L,∀r,leads h.aV r->r<J.heap.size:=λh ao r c5=>by
  obtain⟨⟨_,_,c6,b9⟩,_⟩:=C.2.1 h ao;have:=bO b9 c5;omega
 have c7:∀{j:Nat},decide (c.sc∈(L.take j).map (·.sc))=decide (bl x.scope∈((eM f i).take j).map (·.1)):=λ{j}=>by
  rw[af,<-W,<-List.map_take,Q0];rfl
 have cP:=S.size;rw[ez cS.u b8.1];refine cd.range L.length (λj av P=>∃E,av= .bool (decide (c.sc∈(L.take j).map (·.sc)))/\Ext w P/\J.heap.size<=P.heap.size/\kC P w.heap.size g l f.sizes E/\E.map du=((eM f i).map (lk f.k c.sc c.cs)).take j++(eM f i).drop j/\ad P G a6 (dl c)/\fL P f.sizes c/\∀h∈E,∀r,leads h.aV r->r<J.heap.size) C.1.le
  ⟨L,Ξ,S.trans bm,bm.size,b8,by simpa using W,c2,c3,c4⟩ ?_ ?_
 .rintro j _ P c8 ca ⟨E,rfl,ag,c9,aH,M,bn,bo,Y⟩ da;have db:E.length=L.length:=by
   have:=congrArg R6 M;simp only[u9,r8,o7,List.length_drop]at this;omega
  obtain⟨h,ao⟩:=aF (l:=E) (i:=j) Ω;have aI:(eM f i)[j]?=σ (du h):=by
   have cb:(E.map du)[j]?=σ (du h):=by rw[x8,ao];rfl
   rw[M,Df (by rw[u9];omega)]at cb;exact cb
  have aJ:((eM f i).map (lk f.k c.sc c.cs))[j]?=σ (lk f.k c.sc c.cs (du h)):=by rw[x8,aI];rfl
  have dc:∃y,L[j]?=σ y/\y.sc=h.sc:=by
   refine⟨_,x6 ca,?_⟩;rw[<-W,x8,x6 ca]at aI;exact congrArg Prod.fst (Z2 aI)
  obtain⟨y,K,dd⟩:=dc;have bp:(c.sc∈(L.take (j+1)).map (·.sc))↔c.sc∈(L.take j).map (·.sc)\/h.sc=c.sc:=by
   rw[u7,K,o8,Z4,o9,List.map_singleton,l7,dd];exact or_congr Iff.rfl ⟨λe=>e.symm,λe=>e.symm⟩
  have cc:fG f.sizes f.k (du h):=cR _ (x5 aI);refine bQ Ω ?_;refine aT (λav Q=>∃E,av= .bool (decide (c.sc∈(L.take (j+1)).map (·.sc)))/\Ext w Q/\J.heap.size<=Q.heap.size/\kC Q w.heap.size g l f.sizes E/\E.map du=((eM f i).map (lk f.k c.sc c.cs)).take (j+1)++(eM f i).drop (j+1)/\ad Q G a6 (dl c)/\fL Q f.sizes c/\∀h∈E,∀r,leads h.aV r->r<J.heap.size) ?_ ?_
  .rintro ec Q bh;rw[aP];exact da _ _ bh
  intro ed ce;intro de am _ _;have aM:=aH.ext am;have cg:=bn.ext am;have ch:=bo.ext am;obtain⟨df,ee⟩:=aM.2.1 h (x5 ao);obtain⟨⟨g1,h1⟩,_,c6,b9⟩:=id df;obtain⟨⟨eg,dg⟩,_,eh,ci⟩:=id ch;rw[dj rfl cS.u a6.i aM.1 Ω,aR a6.p rfl,aB (v:=h.aN) Ψ (aM.1.range ao 0 _ rfl),aL a6.p 0 cg rfl];refine(JG h1.ls dg.ls).mono ?_;rintro _ ei _ ⟨rfl,ab⟩;have cj:=aM.ext ab;have bq:=cg.ext ab;have ck:=ch.ext ab;have cl:=(ag.trans am).trans ab;have z9:=(am.trans ab).size;rw[aj];refine⟨λbr=>?_,λcm=>?_⟩
  rotate_left
  .refine ce _ _ ⟨E,?_,cl,Ω,cj,?_,bq,ck,Y⟩
   .congr 1;exact decide_eq_decide.2 ⟨λh=>bp.2 (.inl h),λh=>(bp.1 h).resolve_right cm⟩
   .have e:lk f.k c.sc c.cs (du h)=du h:=if_neg cm;rw[e]at aJ;rw[<-wD Ω aJ,<-M];symm;refine X2 λp=>?_;rw[X1];by_cases an:j=p
    .subst an;rw[if_pos rfl,if_pos Θ,x8,ao];rfl
    .rw[if_neg an]
  have dh:h.cs.length=c.cs.length:=by
   have di:h.cs.length=_:=cc.len;have dk:c.cs.length=(aK (bV f.sizes (hZ f.sizes f.k x).1)).toNat:=by rw[aE];exact bN.len
   rw[di,dk,show(du h).1=h.sc from rfl,br,af];rfl
  have ej:(dZ f.k h.cs c.cs).length=h.cs.length:=by unfold dZ;rw[List.length_zipWith];omega
  rw[aL a6.p 2 bq rfl,aW au.u (ci.ext ab).ls];refine bZ.range c.cs.length (λs Z=>Ext w Z/\J.heap.size<=Z.heap.size/\kC Z w.heap.size g l f.sizes (E.set j {h with cs:=(dZ f.k h.cs c.cs).take s++h.cs.drop s})/\ad Z G a6 (dl c)/\fL Z f.sizes c) ci.ls.le
   ⟨cl,Ω,?_,bq,ck⟩ ?_ ?_
  .have e:E.set j {h with cs:=(dZ f.k h.cs c.cs).take 0++h.cs.drop 0}=E:=by
    refine X2 λp=>?_;rw[X1];by_cases an:j=p
    .subst an;rw[if_pos rfl,if_pos Ω,ao];rfl
    .rw[if_neg an]
   rw[e];exact cj
  .rintro s Z dm I ⟨bt,cp,aO,bu,bw⟩ dn;refine bQ Ω ?_;intro ek ap _ _;have ac:=aO.ext ap;have cq:=bu.ext ap;have cr:=bw.ext ap;have ct:=bt.trans ap;have aS:(E.set j {h with cs:=(dZ f.k h.cs c.cs).take s++h.cs.drop s})[j]?=σ {h with cs:=(dZ f.k h.cs c.cs).take s++h.cs.drop s}:=by
    rw[X1,if_pos rfl,if_pos Ω]
   have cu:j<(E.set j {h with cs:=(dZ f.k h.cs c.cs).take s++h.cs.drop s}).length:=by rw[Z6];omega
   obtain⟨⟨_,_,dp,bx⟩,dq⟩:=ac.2.1 _ (x5 aS);obtain⟨_,_,em,dr⟩:=id cr;obtain⟨a,bA⟩:=aF (l:=h.cs) (i:=s) Ω;obtain⟨b,aq⟩:=aF (l:=c.cs) I;have ds:s<({h with cs:=(dZ f.k h.cs c.cs).take s++h.cs.drop s}:fu).cs.length:=by show s<((dZ f.k h.cs c.cs).take s++h.cs.drop s).length;rw[r8,o7,List.length_drop];omega
   have dt:((dZ f.k h.cs c.cs).take s++h.cs.drop s)[s]?=σ a:=by rw[Df Ω];exact bA
   have bB:(dZ f.k h.cs c.cs)[s]?=σ (min (a+b) f.k):=by
    unfold dZ;rw[List.getElem?_zipWith,bA,aq]
   have en:=cc.im a (x5 bA);have eo:=bN.im b (by rw[<-aE];exact x5 aq);have dv:=a2.ext ct;rw[dj rfl cS.u a6.i ac.1 cu,aR a6.p rfl,aB (v:=h.aV) Ψ (ac.1.range aS 2 _ rfl),dj rfl cS.u a6.i ac.1 cu,aR a6.p rfl,aB (v:=h.aV) Ψ (ac.1.range aS 2 _ rfl),be au.u al.i Ψ bx.ls dt,aL a6.p 2 cq rfl,be au.u al.i Ψ dr.ls aq,aG dC.p 1 dv rfl];refine(nP Ω Ω).mono ?_;rintro _ er _ ⟨rfl,ae⟩;refine⟨.inl ae,?_⟩;have z12:=(ap.trans ae).size;refine N6 (h:={h with cs:=(dZ f.k h.cs c.cs).take s++h.cs.drop s}) (ac.ext ae) aS ds λes aU cw bD=>?_;rw[aP];have dw:=cr.ext ae;have cz:=cq.ext ae;have et:=aU.size;refine dn _ ⟨(ct.trans ae).then aU λr C he=>by have:=dq r (.inl he);omega,Ω,?_,?_,?_⟩
   .rw[List.set_set]at bD;have e:=wD (A:=dZ f.k h.cs c.cs) (B:=h.cs) (s:=s) Ω bB;simp only[e]at bD;exact bD
   .exact cz.V aU λI=>by
     obtain⟨eu,dx⟩:=cw _ I;exact absurd (ep cz dx) Φ
   .refine mN dw aU λr C=>.inr (.inr ⟨cw r C,λdz=>?_⟩);have:=O r (.inl dz);have:=Y h (x5 ao) r C;omega
  .rintro Z dm ⟨bt,cp,aO,bu,bw⟩;refine cn Ω ?_;have e:(dZ f.k h.cs c.cs).take c.cs.length++h.cs.drop c.cs.length=dZ f.k h.cs c.cs:=by
    rw[<-dh,List.drop_length,W7,j0 Ω]
   simp only[e]at aO;refine ce _ _ ⟨_,?_,bt,cp,aO,?_,bu,bw,λz H r C=>?_⟩
   .congr 1;symm;exact decide_eq_true (bp.2 (.inr br))
   .have dA:lk f.k c.sc c.cs (du h)=du {h with cs:=dZ f.k h.cs c.cs}:=if_pos br;rw[dA]at aJ;rw[U6,M,wD Ω aJ]
   .rcases W3 H with H|rfl
    .exact Y z H r C
    .exact Y h (x5 ao) r C
 rintro _ P c8 ⟨E,rfl,ag,c9,aH,M,bn,bo,Y⟩;refine cn Ω ?_;rw[c7,bP,o5,bC,b7];have cA:=wb bd;have bB:((eM f i).map (lk f.k c.sc c.cs)).take L.length++(eM f i).drop L.length=(eM f i).map (lk f.k c.sc c.cs):=by
  rw[bP,List.drop_length,W7,j0 (by rw[u9];exact p8 _)]
 rw[bB]at M;have db:E.length=L.length:=by
  have:=congrArg R6 M;rw[u9,u9]at this;omega
 refine⟨λaX=>?_,λbE=>?_⟩
 .have aX:bl x.scope∉(eM f i).map (·.1):=by simpa using aX
  have dD:(eM f i).map (lk f.k c.sc c.cs)=eM f i:=by
   refine(List.map_congr_left λz H=>?_).trans (List.map_id _);exact if_neg λhe=>aX (l9.2 ⟨z,H,by rw[he,af]⟩)
  rw[dD]at M;rw[bH a6.p a6.i rfl (show P.rangeAt G 0 (dl c)from bn.range)];refine h2 (f:=dl) (k:=3) (a:=c) cS.u a6.i Ω rfl rfl λev dp Q ew aY bx=>?_;have aa:=aH.ext aY;have cB:=bo.ext aY;refine ik (f:=dl) (a:=c) cS.u a6.i rfl aa.1 (by simpa using bx.sl) cB.one Ω Ω λey dE de bb dF bF=>?_;have cC:∀r,leadsTo l r->∃e c,ad Q r e c/\e≠ah/\e≠al:=λr C=>by
   obtain⟨rfl,c,aq⟩:=ef aa.1 C;exact⟨_,c,aq,Φ,Φ⟩
  have eA:=aY.size;have eB:=ag.size;refine bS _ _ ⟨dE,E++[c],(ag.trans aY).then bF λr C he=>by have:=aa.2.2.2 r he;omega,⟨bb,λz H=>?_,λp q y z K H dG r bG bI=>?_,λr C=>(dF r C).elim (aa.2.2.2 r) λh=>Ω⟩,?_⟩
  .rcases o9.1 H with H|H
   .exact⟨mN (aa.2.1 z H).1 bF λr C=>.inl (cC r C),(aa.2.1 z H).2⟩
   .rw[l7.1 H];exact⟨mN cB bF λr C=>.inl (cC r C),λr C=>by have:=O r C;omega⟩
  .have cD:∀{p:Nat}{y:fu},(E++[c])[p]?=σ y->E[p]?=σ y\/(p=E.length/\y=c):=λ{p y}K=>by
    rw[List.getElem?_append]at K;split at K
    .exact .inl K
    .by_cases dH:p-E.length=0
     .rw[dH]at K;cases K;exact .inr ⟨Ω,rfl⟩
     .rw[Y0 Θ]at K;cases K
   rcases cD K with cE|⟨eC,rfl⟩<;>rcases cD H with cF|⟨eq,rfl⟩
   .exact aa.2.2.1 p q y z cE cF dG r bG bI
   .have:=Y y (x5 cE) r bG;have:=O r (.inl bI);omega
   .have:=Y z (x5 cF) r bI;have:=O r (.inl bG);omega
   .omega
  .rw[Z4,M,cA,Cx λz H he=>aX (l9.2 ⟨z,H,he⟩)];show _++[(c.sc,c.cs)]=_;rw[af,aE];rfl
 .have bE:bl x.scope∈(eM f i).map (·.1):=by simpa using bE
  refine bS _ _ ⟨g,E,ag,aH,?_⟩;rw[M,cA];unfold ii;rw[if_pos (show(hZ f.sizes f.k x).1∈_ from bE)];refine List.map_congr_left λz _=>?_;unfold lk;rw[af,aE];rfl
def wE(w:x3)(B:Nat)(v:x1)(n:aI):Prop:=∃szv gz a f aS e gr L,v= .agg #[Δ n.k,szv,Δ n.zero,a,e]/\aq .i64 ah w gz szv n.sizes/\hK w f a aS/\aS.map (·.l)=n.unary/\ba dl 3 a6 w gr e L/\(∀h∈L,fL w n.sizes h)/\L.map du=n.funs/\(∀r,leads szv r->B<=r)/\∀h∈L,∀r,pq h r->B<=r
def z9:List x1:=[Δ 0,.slice ν 0 0,Δ 0,.slice ν 0 0,.slice ν 0 0]
def mO(w:x3)(C gt gs go:Nat)(szv aV:x1)(f:b2)(a:List fu)(w':x3):Prop:=Ext w w'/\C<=w'.heap.size/\ad w' gt dB z9/\aq .i64 ah w' gs szv f.sizes/\ba dl 3 a6 w' go aV a/\(∀r,leadsTo aV r->r<C)/\∀h∈a,fL w' f.sizes h
theorem mO.ext{C gt gs go:Nat}{aV:x1}{f:b2}{e:List fu}(h:mO w C gt gs go szv aV f e w')(a:Ext w' U):mO w C gt gs go szv aV f e U:=by
 obtain⟨h1,z,j,p,q,r,s⟩:=h;have:=a.size;exact⟨h1.trans a,Ω,j.ext a,p.ext a,q.ext a,r,λx y=>(s x y).ext a⟩
def Oc(w w':x3)(C gt:Nat)(r:Nat):Prop:=w.heap.size<=r/\r≠gt/\((∃c,ad w' r dB c)\/(∃c,ad w' r au c)\/((∃c,ad w' r a6 c)/\C<=r))
theorem mO.V{C gt gs go:Nat}{aV:x1}{f:b2}{y:List fu}(h:mO w C gt gs go szv aV f y w')(p:ae S w' U)(q:∀r,S r->Oc w w' C gt r):mO w C gt gs go szv aV f y U:=by
 obtain⟨h1,J,E,z,s,A,F⟩:=h;have:=p.size;have B:∀r,S r->∃e c,ad w' r e c/\e≠ah/\e≠al:=λr j=>by
  obtain⟨_,_,⟨c,a⟩|⟨c,a⟩|⟨⟨c,a⟩,_⟩⟩:=q r j
  .exact⟨_,c,a,Φ,Φ⟩
  .exact⟨_,c,a,Φ,Φ⟩
  .exact⟨_,c,a,Φ,Φ⟩
 refine⟨h1.then p λr j I=>by have:=(q r I).1;omega,Ω,E.V p λI=>(q _ I).2.1 rfl,bo z p λr j I=>?_,s.V p λr j I=>?_,A,λx G=>mN (F x G) p λr j=>.inl (B r j)⟩
 .obtain⟨e,c,a,H,_⟩:=B r I;exact b4 z a (λhe=>H he.symm) j rfl
 .obtain⟨_,_,⟨c,a⟩|⟨c,a⟩|⟨_,K⟩⟩:=q r I
  .exact cC s a Φ j
  .exact cC s a Φ j
  .have:=A r j;omega
def Dj(w:x3)(C f:Nat)(szv:x1)(k:Int)(n:aI)(j:List fu)(w':x3):Prop:=∃a p aS e gr L,ad w' f dB [Δ k,szv,Δ n.zero,a,e]/\hK w' p a aS/\aS.map (·.l)=n.unary/\(∀r,leadsTo a r->w.heap.size<=r)/\ba dl 3 a6 w' gr e L/\(∀h∈L,h∈j)/\L.map du=n.funs/\∀r,leadsTo e r->C<=r
theorem Dk{N:Nat}{bY:Nat}{f:b2}(b0:n4 w bY f)(Q:fe N f):ai x7 Gh [Γ bY] w λv w'=>Ext w w'/\wE w' w.heap.size v (c3 f):=by
 have hk:=Q.k;have dD:=Q.sizes.2.1;obtain⟨dE,dF,dH,dI,b1,b3,dJ⟩:=id b0;refine az func64 ?_;refine bz dB.i λgt J dK aT aU=>?_;have aU:ad J gt dB z9:=aU;rw[aG dC.p 1 (b1.ext aT) rfl,dh (cs:=#[Δ f.k,.slice ν 0 0,Δ 0,.slice ν 0 0,.slice ν 0 0]) Ψ];refine bz dB.i λA U dL b5 cK=>?_;refine b6 (vs:=[Δ f.k,.slice ν 0 0,Δ 0,.slice ν 0 0,.slice ν 0 0]) dB.i rfl rfl (by intro u hu;simp at hu;rcases hu with rfl|rfl|rfl|rfl<;>rfl) cK λcL b7 dM cM=>?_;have bu:Ext w cL:=(aT.trans b5).then b7 λr q he=>by have he:r=A:=he;have:=aT.size;omega
 have dN:=aU.lt;have E:A≠gt:=Ω
 have cN:=(aU.ext b5).V b7 λhe=>by have he:gt=A:=he;omega
 rw[aG dC.p 2 (b1.ext bu) rfl,aW au.u (b3.ext bu).ls];have dO:=aT.size;refine bZ.range f.sizes.length (λi W=>Ext w W/\ad W gt dB z9/\∃szv gs B H aS,ad W A dB [Δ f.k,szv,Δ 0,B,.slice ν 0 0]/\aq .i64 ah W gs szv (f.sizes.take i)/\(∀r,leads szv r->w.heap.size<=r)/\hK W H B aS/\aS.map (·.l)=(f.sizes.take i).map (λz=>p9 z.toNat 0)/\∀r,leadsTo B r->w.heap.size<=r) Ω
  ⟨bu,cN,_,0,_,0,[],cM,aq.nil _ _ _ _,(λr q=>by obtain⟨a,n,c,cO,dP⟩:=q;cases cO),⟨ba.nil _ _ _ _ _,λx bw=>(by cases bw)⟩,rfl,λr q=>(fq q).elim⟩ ?_ ?_
 .rintro i W cP hi ⟨X,bx,szv,gs,B,H,aS,aD,aX,aY,bA,aE,aZ⟩ cQ;obtain⟨z,C⟩:=aF (l:=f.sizes) hi;have dQ:=Q.sizes.2.2 z (x5 C);have dR:aS.length=i:=by have:=congrArg R6 aE;simp only[u9,o7]at this;omega
  refine bQ Ω ?_;rw[be au.u al.i Ψ (b3.ext X).ls C,aL dB.p 1 aD rfl];refine en (k:=.i64) ap.u ah.i rfl λa5 dS b8 dT ak cR=>?_;have aH:=aX.ext ak;refine gN ap.u ah.i rfl aH cR.ls Θ Θ λbB b9 dU a1 cT ca=>?_;have bC:=aD.ext ak;have cb:=bx.ext ak;have cc:=bC.V ca λhe=>b4 aH bC Φ he rfl;rw[aR dB.p rfl];refine bk (g:=A) (o:=1) ap.i a1.ls.cells.1 a1.ls.cells.2 cc Ξ λa2 cd dV a7=>?_;have a7:ad a2 A dB [Δ f.k,bB,Δ 0,B,.slice ν 0 0]:=a7;have bD:ae (λr=>leads szv r\/r=A) b8 a2:=(ca.mono λr _ h=>.inl h).trans (cd.mono λr _ h=>.inr h);have cU:aq .i64 ah a2 b9 bB (f.sizes.take (i+1)):=by
   rw[u7,C];exact bo a1 cd λr q he=>by
    have he:r=A:=he;subst he;exact b4 a1 cc Φ q rfl
  have am:∀r,(leads szv r\/r=A)->∃e c,ad b8 r e c/\e≠al/\e≠au:=λr q=>by
   rcases q with q|rfl
   .obtain⟨rfl,_⟩:=bO aH q;obtain⟨_,⟨cV,_⟩|⟨cap,full,_,s,_⟩⟩:=aH
    .obtain⟨a,n,c,e,_⟩:=q;rw[cV]at e;cases e
    .exact⟨_,_,s,Φ,Φ⟩
   .exact⟨_,_,bC,Φ,Φ⟩
  have cW:=(bA.ext ak).V bD am;have z4:=X.size;have z5:=ak.size;have ce:Ext w a2:=(X.trans ak).then bD λr q he=>by
   rcases he with he|he
   .have:=aY r he;omega
   .omega
  have cX:=cb.V bD λI=>by
   rcases I with I|I
   .exact b4 aH cb Φ I rfl
   .omega
  intro dW cg _ _;have cY:=a7.ext cg;rw[aL dB.p 3 cY rfl];obtain⟨Y,rfl⟩:∃n:Nat,z=n:=⟨z.toNat,Ω⟩;refine kk (k:=.i64) au.u al.i Ω Ω λa8 cZ dX bE c0=>?_;refine⟨.inl bE,?_⟩;have c1:aq .i64 al cZ a8 (.slice (σ ⟨a8,0,ν⟩) Y Y) (p9 Y 0):=aq.of (bW.full (k:=1) (n:=Y) c0 Ξ (by simp[maxLen];omega));let a:k9:=⟨.slice (σ ⟨a8,0,ν⟩) Y Y,p9 Y 0⟩;refine h2 (f:=nX) (a:=a) ei.u au.i Ω rfl rfl λdY dZ bF ea bG c2=>?_;refine⟨.inl (bE.trans bG),?_⟩;have an:=(cg.trans bE).trans bG;have aI:=cW.ext an;refine ik (f:=nX) (a:=a) ei.u au.i rfl aI.1 (by simpa using c2.sl) (λu hu=>by rw[l7.1 (show u∈[a.v]from hu)];rfl) Ω Ω λbI bJ eb K bK ch=>?_;have av:∀{r:Nat},leadsTo B r->∃c,ad bF r au c:=λq=>by
   obtain⟨rfl,c,s⟩:=ef aI.1 q;exact⟨c,s⟩
  have bL:=a7.ext an;have ci:=bL.V ch λhe=>cC aI.1 bL Φ he;rw[aR dB.p rfl];refine bk ei.i (dp K.sl).1 (dp K.sl).2 ci Ξ λc4 cj ec c5=>?_;rw[aP];have R:ae (λr=>leadsTo B r\/r=A) bF c4:=(ch.mono λr _ h=>.inl h).trans (cj.mono λr _ h=>.inr h);have bM:∀r,(leadsTo B r\/r=A)->∃e c,ad bF r e c/\e≠al/\e≠ah:=λr q=>by
   rcases q with q|rfl
   .obtain⟨c,s⟩:=av q;exact⟨_,c,s,Φ,Φ⟩
   .exact⟨_,_,bL,Φ,Φ⟩
  have ck:=cU.ext an;have ed:=ce.size;have ee:=an.size;have cl:=cX.ext an;refine cQ _ ⟨(ce.trans an).then R (λr q he=>?_),cl.V R (λI=>?_),bB,b9,bI,bJ,aS++[a],c5,bo ck R (λr q I=>?_),λr q=>?_,⟨K.V cj λr q he=>?_,λy M=>?_⟩,?_,λr q=>?_⟩
  .rcases he with he|rfl
   .have:=aZ r he;omega
   .omega
  .rcases I with I|I
   .exact cC aI.1 cl Φ I
   .omega
  .obtain⟨e,c,s,_,E⟩:=bM r I;exact b4 ck s (λhe=>E he.symm) q rfl
  .rcases cT r q with h|h
   .exact aY r h
   .omega
  .have he:r=A:=he;subst he;exact cC K ci Φ q
  .rcases o9.1 M with M|M
   .exact aI.qG R (λr q=>by obtain⟨e,c,s,E,_⟩:=bM r q;exact⟨e,c,s,E⟩) y M
   .rw[l7.1 M];have cm:=c1.ext bG;exact⟨a8,bo cm R λr q I=>by
     obtain⟨e,c,s,E,_⟩:=bM r I;exact b4 cm s (λhe=>E he.symm) q rfl⟩
  .rw[Z4,aE,u7,C,o8,Z4];rfl
  .rcases bK r q with h|h
   .exact aZ r h
   .omega
 rintro W cP ⟨X,bx,szv,gs,B,H,aS,aD,aX,aY,bA,aE,aZ⟩;refine cn Ω ?_;rw[o5]at aX aE;refine(Ob (b0.ext X) Q).mono ?_;rintro aV bb _ ⟨aw,go,O,K,cp,cq,eg⟩;have cr:O.length=(fE f).length:=by rw[<-cq,u9]
 have eh:O.length<=256:=by
  have h1:=(qw Q).2.length_eq;have bc:=(k6 Q).2.2;have ej:=List.length_filter_le fD (fp f);have ek:=Q.k0;omega
 have z4:=X.size;have em:=aw.size;have eo:=aD.lt;rw[ez cS.u K];refine bZ.range O.length (λi Z=>mO w bb.heap.size gt gs go szv aV f O Z/\Dj w bb.heap.size A szv f.k (dG f i) O Z) K.le
  ⟨⟨X.trans aw,p8 _,bx.ext aw,aX.ext aw,K,λr q=>by have:=K.leads q;omega,λh ao=>(cp h ao).1⟩,B,H,aS,_,0,[],aD.ext aw,bA.ext aw,aE,aZ,ba.nil _ _ _ _ _,λx bw=>(by cases bw),rfl,λr q=>(fq q).elim⟩ ?_ ?_
 rotate_left
 .rintro Z c6 ⟨ay,B,H,aS,aa,gr,L,bf,bg,ab,aJ,aM,aA,ac,aN⟩;obtain⟨c7,er,ct,bN,es,et,c8⟩:=id ay;have bh:=pj f O.length;rw[cr,ta]at bh;rw[cr,ta]at bf ab ac;refine cn Ω ?_;rw[bH dB.p dB.i rfl (show Z.rangeAt A 0 [Δ f.k,szv,Δ (c3 f).zero,B,aa]from bf.range)];refine b6 (vs:=[Δ f.k,szv,Δ (c3 f).zero,B,aa]) dB.i rfl rfl (λu hu=>?_) ct λeu aO ev c9=>?_
  .simp at hu;rcases hu with rfl|rfl|rfl|rfl|rfl
   .rfl
   .exact bN.ls.cells.2
   .rfl
   .exact (dp bg.1.sl).2
   .exact (dp aM.sl).2
  rw[fC dB.p dB.i rfl c9.range];have am:∀r,r=gt->∃e c,ad Z r e c/\e≠al/\e≠au/\e≠ah/\e≠a6:=λr q=>by
   subst q;exact⟨_,_,ct,Φ,Φ,Φ,Φ⟩
  refine⟨c7.then aO λr q he=>by have he:r=gt:=he;omega,szv,gs,B,H,aS,aa,gr,L,?_,?_,bg.V aO (λr q=>?_),ab,aM.V aO (λr q I=>?_),λh ao=>?_,ac,aY,λh ao r q=>by have:=(cp h (aA h ao)).2 r q;omega⟩
  .rw[bh.1]
  .rw[bh.2.1];refine bo bN aO λr q I=>?_;obtain⟨e,c,s,_,_,E,_⟩:=am r I;exact b4 bN s (λhe=>E he.symm) q rfl
  .obtain⟨e,c,s,h1,bc,_⟩:=am r q;exact⟨e,c,s,h1,bc⟩
  .obtain⟨e,c,s,_,_,_,E⟩:=am r I;exact cC aM s (λhe=>E he.symm) q
  .rw[bh.2.1];exact mN (c8 h (aA h ao)) aO λr q=>by
    obtain⟨e,c,s,h1,_,bc,_⟩:=am r q;exact .inl ⟨e,c,s,bc,h1⟩
 rintro i Z c6 hi ⟨ay,B,H,aS,aa,gr,L,bf,bg,ab,aJ,aM,aA,ac,aN⟩ da;obtain⟨y,M⟩:=aF (l:=O) hi;have bi:=x5 M;have cu:(fE f)[i]?=σ (du y):=by rw[<-cq,x8,M];rfl
 have bP:fG f.sizes f.k (du y):=sP Q _ (x5 cu);have bR:=we cu;obtain⟨ew,ey,eA,eB⟩:=pj f i;refine bQ Ω ?_;refine dd (λbS=>mO w bb.heap.size gt gs go szv aV f O bS/\Dj w bb.heap.size A szv f.k (dG f (i+1)) O bS) ?_ ?_
 .rintro bS h;rw[aP];exact da _ h
 intro ax bT;rw[dj rfl cS.u a6.i ay.2.2.2.2.1 hi,bH a6.p a6.i rfl (ay.2.2.2.2.1.range M)];refine bz a6.i λdb eC eD dc de=>?_;refine b6 (vs:=dl y) a6.i rfl rfl (ay.2.2.2.2.2.2 y bi).one de λcw df eE bj=>?_;have bl:Ext Z cw:=dc.put df Ω;have bm:=ay.ext bl;have af:=bf.ext bl;have bU:=bg.ext bl;have bn:=aM.ext bl;obtain⟨eF,eH,cz,eI,eJ,eK,cA⟩:=id bm;obtain⟨⟨eL,cB⟩,_,dg,cD⟩:=cA y bi;rw[aL a6.p 0 bj rfl,aW ap.u cB.ls];have eM:aS.length=f.sizes.length:=by have:=congrArg R6 ab;rw[u9]at this;omega
 have eN:L.length<=256:=by have:=congrArg R6 ac;rw[u9]at this;omega
 rw[bd,aj];refine⟨λeO=>?_,λeP=>?_⟩
 .
  have ag:y.sc=[]:=j4 Ω;have G:dG f (i+1)={dG f i with zero:=y.cs.getD 0 0}:=by rw[bR];unfold iR;simp only[du,ag]
  have eQ:y.cs.length=1:=by have:=bP.len;simpa[du,ag,bV,aK]using this
  have di:y.cs[0]?=σ (y.cs.getD 0 0):=by rw[v8,x6 Ω];rfl
  rw[aL a6.p 2 bj rfl,gl (y:=0) (i:=0) rfl au.u al.i Ψ cD.ls di,aR dB.p rfl];refine bk al.i rfl rfl af Ξ λdk P dm dn=>?_;refine bT _ ⟨bm.V P λr q=>?_,B,H,aS,aa,gr,L,?_,bU.V P (λr q=>?_),by rw[G];exact ab,aJ,bn.V P (λr q I=>?_),aA,by rw[G];exact ac,aN⟩
  .have q:r=A:=q;subst q;exact⟨Ω,E,.inl ⟨_,af⟩⟩
  .rw[G];exact dn
  .have q:r=A:=q;subst q;exact⟨_,_,af,Φ,Φ⟩
  .have I:r=A:=I;subst I;exact cC bn af Φ q
 rw[bd,aj];refine⟨λh1=>?_,λeR=>?_⟩
 .
  obtain⟨v,ag⟩:∃v,y.sc=[v]:=V1.1 Ω;have eS:=bP.scope.1 v (by show v∈y.sc;rw[ag];exact .head _);have eU:=bP.vars v (by show v∈y.sc;rw[ag];exact .head _);have G:dG f (i+1)={dG f i with unary:=(dG f i).unary.set v.toNat y.cs}:=by rw[bR];unfold iR;simp only[du,ag]
  intro dq S _ _;have bX:=af.ext S;have cE:=bj.ext S;have aQ:=bU.ext S;have dr:=bm.ext S;have cF:=bn.ext S;rw[aL dB.p 3 bX rfl,aL a6.p 0 cE rfl];refine pZ (y:=0) (i:=0) rfl ap.u ah.i (cB.ls.ext S) (show y.sc[0]?=σ v by rw[ag];rfl) λb o ds=>?_;rw[aB Ψ ds,aL a6.p 2 cE rfl];obtain⟨u,hu⟩:=aF (l:=aS) (i:=v.toNat) Ω;rw[dj (i:=v.toNat) Ω ei.u au.i aQ.1 Ω];let a:k9:=⟨y.aV,y.cs⟩;have bp:=cD.ext S;refine pa (f:=nX) (j:=0) (a:=u) (a':=a) au.i bp.ls.cells.1 bp.ls.cells.2 aQ.1 hu rfl Ω λdk P dm dt=>?_;have av:∀{r:Nat},leadsTo B r->∃c,ad dq r au c:=λq=>by
   obtain⟨rfl,c,s⟩:=ef aQ.1 q;exact⟨c,s⟩
  refine bT _ ⟨dr.V P λr q=>?_,B,H,aS.set v.toNat a,aa,gr,L,?_,⟨dt,λz C=>?_⟩,?_,aJ,cF.V P (λr q I=>?_),aA,by rw[G];exact ac,aN⟩
  .obtain⟨c,s⟩:=av q;exact⟨aJ r q,λhe=>(by subst he;exact absurd (ep s (cz.ext S)) Φ),.inr (.inl ⟨c,s⟩)⟩
  .rw[G];exact bX.V P λhe=>cC aQ.1 bX Φ he
  .rcases W3 C with C|rfl
   .exact aQ.qG P (λr q=>by obtain⟨c,s⟩:=av q;exact⟨_,c,s,Φ⟩) z C
   .exact⟨dg,bo bp P λr q I=>by
     obtain⟨c,s⟩:=av I;exact b4 bp s Φ q rfl⟩
  .rw[G,U6,ab]
  .obtain⟨c,s⟩:=av I;exact cC cF s Φ q
 .
  have G:dG f (i+1)={dG f i with funs:=(dG f i).funs++[du y]}:=by
   rw[bR];unfold iR;have cG:2<=(du y).1.length:=by show 2<=y.sc.length;omega
   generalize du y=g at cG ⊢;obtain⟨sc,cs⟩:=g
   match sc,cG with
   |_::_::_,_=>rfl
  rw[aL dB.p 4 af rfl,bH a6.p a6.i rfl (show cw.rangeAt db 0 (dl y)from bj.range)];refine h2 (f:=dl) (k:=3) (a:=y) cS.u a6.i Ω rfl rfl λeV eW dv eX aC dw=>?_;have bq:=bn.ext aC;have dx:=bU.ext aC;have br:=af.ext aC;have dy:=bm.ext aC;refine ik (f:=dl) (a:=y) cS.u a6.i rfl bq (by simpa using dw.sl) (cA y bi).one Ω Ω λbI bJ eY bt bK cH=>?_;have cI:=br.V cH λhe=>cC bq br Φ he;rw[aR dB.p rfl];refine bk cS.i (dp bt.sl).1 (dp bt.sl).2 cI Ξ λdz cJ eZ dA=>?_;have R:ae (λr=>leadsTo aa r\/r=A) dv dz:=(cH.mono λr _ h=>.inl h).trans (cJ.mono λr _ h=>.inr h);have e0:=aC.size;refine bT _ ⟨dy.V R λr q=>?_,B,H,aS,bI,bJ,L++[y],?_,dx.V R (λr q=>?_),by rw[G];exact ab,aJ,bt.V cJ (λr q I=>?_),λz C=>?_,?_,λr q=>?_⟩
  .rcases q with q|rfl
   .obtain⟨rfl,c,s⟩:=ef bq q;have:=aN _ q;refine⟨Ω,λhe=>?_,.inr (.inr ⟨⟨c,s⟩,this⟩)⟩;subst he;exact absurd (ep s (cz.ext aC)) Φ
   .exact⟨Ω,E,.inl ⟨_,br⟩⟩
  .rw[G];exact dA
  .rcases q with q|rfl
   .obtain⟨rfl,c,s⟩:=ef bq q;exact⟨_,c,s,Φ,Φ⟩
   .exact⟨_,_,br,Φ,Φ⟩
  .have I:r=A:=I;subst I;exact cC bt cI Φ q
  .rcases o9.1 C with C|C
   .exact aA z C
   .rw[l7.1 C];exact bi
  .rw[G,Z4,ac];rfl
  .rcases bK r q with h|h
   .exact aN r h
   .omega
def qQ(w:x3)(S:Nat->Prop)(e:r9):Prop:=∀r,S r->∃c,ad w r e c
theorem wF{k:o4}{g:Nat}{v:x1}(h:aq k a w g v l)(f:ae S w w')(j:qQ w S e)(p:a≠e):aq k a w' g v l:=bo h f λr q I=>by
 obtain⟨c,s⟩:=j r I;exact b4 h s p q rfl
theorem Dl{α:Type}{f:α->List x1}{k:Nat}{g:Nat}{v:x1}{L:List α}(h:ba f k a w g v L)(j:ae S w w')(p:qQ w S e)(q:a≠e):ba f k a w' g v L:=h.V j λr s I=>by
 obtain⟨c,x⟩:=p r I;exact cC h x q s
theorem wG{r:Nat}{c:List x1}(h:ad w r a c)(f:ae S w w')(j:qQ w S e)(p:a≠e):ad w' r a c:=h.V f λI=>by
 obtain⟨c,q⟩:=j r I;exact p (ep h q)
theorem Dm{g:Nat}{c:List x1}(h:ad w g e c):qQ w (λr=>r=g) e:=λr a=>by
 have a:r=g:=a;subst a;exact⟨c,h⟩
theorem qR{k:o4}{g:Nat}{v:x1}(h:aq k e w g v l):qQ w (λr=>leads v r) e:=λr f=>by
 have f:leads v r:=f;obtain⟨rfl,_⟩:=bO h f;obtain⟨_,⟨p,_⟩|⟨cap,full,_,q,_⟩⟩:=h
 .obtain⟨a,n,c,j,_⟩:=f;rw[p]at j;cases j
 .exact⟨_,q⟩
def ay(x:bq):Λ:=((V0 x.un.length).map λv:Nat=>(v:Int)).filter λv=>!dropped x.mask v
theorem wH{P:W9}{k:o4}{t:r9}{b:Nat}(a:P.underlying t=σ (.slice e))(hi:aO P e 1 b z)(f:∀v g w',g=w.heap.size->Ext w w'->aq k e w' g v []->K v w'):aC P (Y7 t 0 #[]) w K:=
 kj a hi Ω (cs:=#[]) (by simp[Instr.fill]) λg w' h j p=>f _ g w' h j (aq.of (n:=0) (bW.full (by simpa using p) Ξ (by simp[maxLen])))
theorem Od{v:x1}{n:aI}(h:wE w B v n){g:Nat}(j:ad w' g dB v.cells.toList):∃szv gz a f aS e gr L,ad w' g dB [Δ n.k,szv,Δ n.zero,a,e]/\aq .i64 ah w gz szv n.sizes/\hK w f a aS/\aS.map (·.l)=n.unary/\ba dl 3 a6 w gr e L/\(∀h∈L,fL w n.sizes h)/\L.map du=n.funs/\(∀r,leads szv r->B<=r)/\∀h∈L,∀r,pq h r->B<=r:=by
 obtain⟨szv,gz,a,f,aS,e,gr,L,rfl,p,q,x,s,y,z⟩:=h;obtain⟨_,_,_,A⟩:=dg p.ls;obtain⟨_,_,_,_,_,C,_⟩:=q.1.sl;obtain⟨_,_,_,_,_,E,_⟩:=s.sl;refine⟨szv,gz,a,f,aS,e,gr,L,?_,p,q,x,s,y,z⟩;rw[A,C,E]at j ⊢;exact j
def z12:List x1:=[Δ 0,.slice ν 0 0,Δ 0,.slice ν 0 0,.slice ν 0 0,.slice ν 0 0,.slice ν 0 0,.slice ν 0 0]
theorem Oe(u:Λ):ay (newVar u)=(V0 u.length).map λv:Nat=>(v:Int):=by
 unfold ay newVar dropped;rw[List.filter_eq_self.2];intro a _;simp
section
variable{P:W9}{w:x3}{t:r9}{cx cy:Bool}{a b:Nat}{K:x1->Prop}
theorem Of(f:a<2 ^ 62)(h:b<2 ^ 62):aa P (aJ .or t cx cy (Δ a) (Δ b)) w K=K (Δ ((a ||| b:Nat):Int)):=aa.of λw' _=>by
 have e:(T3 64 (a:Int) ||| T3 64 (b:Int)).toNat=a ||| b:=by
  rw[mA,mA,BitVec.toNat_or,BitVec.toNat_ofNat,BitVec.toNat_ofNat,Nat.mod_eq_of_lt Ω,Nat.mod_eq_of_lt Ω]
 have p:a ||| b<2 ^ 62:=Nat.or_lt_two_pow f h;have hw:X7.wrap ((a ||| b:Nat):Int)=((a ||| b:Nat):Int):=wrap_i64 Ω Ω;have j:(T3 X7.bits (a:Int) ||| T3 X7.bits (b:Int)).toNat=a ||| b:=e;simp only[aJ,eqGuard,binOp,Op.intBits,j,hw];rfl
theorem Dn(j:a<2 ^ 62)(f:b<2 ^ 62):aa P (aJ .and t cx cy (Δ a) (Δ b)) w K=K (Δ ((a &&& b:Nat):Int)):=aa.of λw' _=>by
 have e:(T3 64 (a:Int) &&& T3 64 (b:Int)).toNat=a &&& b:=by
  rw[mA,mA,BitVec.toNat_and,BitVec.toNat_ofNat,BitVec.toNat_ofNat,Nat.mod_eq_of_lt Ω,Nat.mod_eq_of_lt Ω]
 have p:a &&& b<2 ^ 62:=Nat.and_lt_two_pow _ f;have hw:X7.wrap ((a &&& b:Nat):Int)=((a &&& b:Nat):Int):=wrap_i64 Ω Ω;have h:(T3 X7.bits (a:Int) &&& T3 X7.bits (b:Int)).toNat=a &&& b:=e;simp only[aJ,eqGuard,binOp,Op.intBits,h,hw];rfl
theorem Og{k:o4}{n:Nat}(a:n<62):aa P (aJ .shl t cx cy (Δ 1) (.int k (n:Int))) w K=K (Δ ((2 ^ n:Nat):Int)):=by
 rw[zk Ω];have e:min ((n:Int).toNat) X7.bits=n:=R5 (by show n<=64;omega);have f:2 ^ n<2 ^ 62:=Nat.pow_lt_pow_right Ω a;rw[e,Int.one_mul,show((2:Int) ^ n)=((2 ^ n:Nat):Int) by simp];generalize 2 ^ n=q at f ⊢;rw[wrap_i64 Ω Ω]
end
theorem Do(a n:Nat):(a / 2 ^ n &&& 1=1)↔a.testBit n=true:=by
 rw[Nat.and_one_is_mod,Nat.testBit_eq_decide_div_mod_eq,decide_eq_true_eq]
theorem Dp{b n:Nat}(q:kZ b n):ai x7 GH [iL b n,Δ v] w λr w'=>r= .bool (decide (0<=v/\v<n)&&b.testBit v.toNat)/\Ext w w':=by
 refine az func97 ?_;refine bj λg J A e f=>?_;refine aT (λr U=>r= .bool (decide (0<=v/\v<n)&&b.testBit v.toNat)/\Ext w U) (λ_ _ h=>h) λax j=>?_;rw[bH bX.p bX.i rfl f.range];refine As.mono ?_;rintro _ B _ ⟨rfl,a⟩;rw[aj];refine⟨λh=>?_,λh=>j _ _ ⟨by rw[decide_eq_false h];rfl,e.trans a⟩⟩;obtain⟨x,C⟩:=q;obtain⟨s,rfl⟩:∃s:Nat,v=s:=⟨v.toNat,Ω⟩;have y:=f.ext a;have E:(2:Nat) ^ n<=2 ^ 32:=T8 Ω x;have z:b / 2 ^ s<2 ^ 64:=Nat.lt_of_le_of_lt (Nat.div_le_self _ _) Ω;rw[aL bX.p 0 y rfl,kY Ω,show(1:Int)=((1:Nat):Int)from rfl,u64_and z Ω,bd];refine j _ _ ⟨?_,e.trans a⟩;congr 1;rw[decide_eq_true h,T6,U1,decide_eq_true_eq,u6,<-Do];omega
theorem Oh(m v:Nat):dropped (m:Int) (v:Int)=m.testBit v:=by unfold dropped;rw[u6,u6]
def bp(w:x3)(ab ac:Nat)(A R:af)(n:aI)(s:am)(t:aw):Prop:=StateM w ab ac A R n s t/\t.bG=s.cells/\lb t/\bh n.k n.sizes s/\jV n
theorem bp.ext{A R:af}{n:aI}{s:am}{t:aw}(h:bp w ab ac A R n s t)(a:Ext w w'):bp w' ab ac A R n s t:=⟨h.1.ext a,h.2⟩
theorem StateM.parts{A R:af}{n:aI}{s:am}{t:aw}(h:StateM w ab ac A R n s t):∃a e f j aZ p L q,ad w ab bY [Γ a,Γ ac,e,f,j]/\fW w a n/\cW w ac q t/\aq .i64 ah w aZ e (hf s)/\ba l0 3 dI w p f L/\ld R w L s:=by
 obtain⟨a,e,f,j,_,aZ,p,ge,L,E,q,w0,r,⟨x,y,G⟩,⟨z,H,I,J⟩,B,⟨C,F⟩,K,M⟩:=h;exact⟨a,e,f,j,aZ,p,L,q,r,x.ext y,z,B,C,F⟩
theorem qS{s:am}{i:Nat}(h:i<s.vars.length):(hf s)[i]?=σ (fa s i:Int):=by
 unfold hf;rw[x8,List.getElem?_range h];rfl
theorem ti{s:am}{t:aw}(a:t.bG=s.cells)(I:lb t):s.cells.length<=100000000:=by
 rw[<-a];unfold aw.bG;rw[u9];exact I.1
theorem tj{s:am}{i:Nat}{x:bq}(h:s.vars[i]?=σ x):fa s i+x.un.length+2<=s.cells.length:=by
 have h1:=pm h (j:=x.un.length+1) Ω;have a:(fX x)[x.un.length+1]? ≠ν:=by
  rw[Ne,List.getElem?_eq_none_iff];show¬(x.un.length+1+1<=x.un.length+1);omega
 rw[<-h1]at a;have:=(x4.1 (Option.ne_none_iff_exists'.1 a).choose_spec).1;omega
theorem Dq{s:am}{f:cL}(h:s.funs[j]?=σ f):eN s j+f.cs.length+1<=s.cells.length:=by
 have h1:=wi h (j:=f.cs.length) Ω;have a:(gx f)[f.cs.length]? ≠ν:=by
  rw[Ne,List.getElem?_eq_none_iff];show¬(f.cs.length+1<=f.cs.length);omega
 rw[<-h1]at a;have:=(x4.1 (Option.ne_none_iff_exists'.1 a).choose_spec).1;omega
section
variable{w:x3}{ab ac:Nat}{A R:af}{n:aI}{s:am}{t:aw}
theorem Dr(h:bp w ab ac A R n s t):ai x7 GC [Γ ab] w λv w'=>(∃a,v=Γ a/\fW w' a n)/\Ext w w':=by
 obtain⟨a,j,q,r,aZ,x,L,y,e,f,z,B,C,E⟩:=h.1.parts;refine az func92 ?_;rw[cP de.u];simp only[j9,aU];rw[aG bY.p 0 e rfl];exact⟨⟨a,rfl,f⟩,Ext.refl _⟩
theorem wI(h:bp w ab ac A R n s t):ai x7 F0 [Γ ab] w λv w'=>v=Δ (n.sizes.length:Int)/\Ext w w':=by
 refine az func47 ?_;refine(Dr h).mono ?_;rintro _ J _ ⟨⟨j,rfl,a⟩,e⟩;refine(wk a).mono ?_;rintro _ U _ ⟨rfl,f⟩;exact⟨rfl,e.trans f⟩
theorem mP(h:bp w ab ac A R n s t):ai x7 Hd [Γ ab] w λv w'=>v=Δ n.k/\Ext w w':=by
 refine az func149 ?_;refine(Dr h).mono ?_;rintro _ J _ ⟨⟨j,rfl,a⟩,e⟩;refine(Nr a).mono ?_;rintro _ U _ ⟨rfl,f⟩;exact⟨rfl,e.trans f⟩
theorem wJ{i:Int}(h:bp w ab ac A R n s t):ai x7 Gi [Γ ab,Δ i] w λv w'=>v= .bool (decide (0<=i/\i<n.sizes.length))/\Ext w w':=by
 refine az func65 ?_;refine aT (λv J=>v= .bool (decide (0<=i/\i<n.sizes.length))/\Ext w J) (λ_ _ h=>h) λax a=>?_;rw[cI,aj];refine⟨λe=>?_,λe=>a _ _ ⟨by rw[decide_eq_false Ω],Ext.refl _⟩⟩;refine(wI h).mono ?_;rintro _ J _ ⟨rfl,f⟩;rw[aQ];refine a _ _ ⟨?_,f⟩;congr 1;exact decide_eq_decide.2 ⟨λh=>⟨e,h⟩,λh=>h.2⟩
theorem qT(h:bp w ab ac A R n s t):ai x7 FQ [Γ ab] w λv w'=>v=Δ s.zero/\Ext w w':=by
 obtain⟨j,q,r,x,aZ,y,L,z,a,B,e,C,E,G⟩:=h.1.parts;refine az func14 ?_;rw[cP de.u];simp only[j9,aU];rw[aG bY.p 1 a rfl];refine(la (i:=0) e rfl (show t.bG[0]?=σ s.zero by rw[h.2.1];exact Nj s)).mono ?_;rintro _ J _ ⟨rfl,f⟩;exact⟨rfl,f⟩
theorem wK(h:bp w ab ac A R n s t):ai x7 FR [Γ ab] w λv w'=>v=Δ (s.funs.length:Int)/\Ext w w':=by
 obtain⟨j,q,r,x,aZ,y,L,z,a,B,C,E,e,f⟩:=h.1.parts;refine az func16 ?_;rw[cP de.u];simp only[j9,aU];rw[aG bY.p 3 a rfl,ez e1.u e];exact⟨by rw[f.1],Ext.refl _⟩
def dM(s:am)(i:Nat):Bool:=match s.vars[i]? with
 |some x=>decide (x.gone≠0)
 |none=>false
theorem qU{i:Int}(h:bp w ab ac A R n s t):ai x7 F4 [Γ ab,Δ i] w λv w'=>v= .bool (decide (0<=i)&&dM s i.toNat)/\Ext w w':=by
 refine az func49 ?_;refine aT (λv J=>v= .bool (decide (0<=i)&&dM s i.toNat)/\Ext w J) (λ_ _ h=>h) λax e=>?_;intro U f _ _;refine(wJ (h.ext f)).mono ?_;rintro _ I _ ⟨rfl,r⟩;have a:=f.trans r;have K:=h.2.2.2.1.vars;rw[aj];refine⟨λz=>?_,λM=>e _ _ ⟨?_,a⟩⟩
 .obtain⟨N,O,P,Q,aZ,S,L,V,j,W,B,C,X,Y⟩:=(h.ext a).1.parts;obtain⟨x,q⟩:=aF (l:=s.vars) (i:=i.toNat) Ω;rw[aG bY.p 1 j rfl,aG bY.p 2 j rfl,gl (y:=i) (i:=i.toNat) Ω ap.u ah.i Ψ C.ls (qS Ω)];have E:t.bG[fa s i.toNat+0]?=σ x.gone:=by rw[h.2.1,pm q Ω];rfl
  refine(la (i:=fa s i.toNat) B rfl E).mono ?_;rintro _ Z _ ⟨rfl,G⟩;rw[bI];refine e _ _ ⟨?_,a.trans G⟩;rw[decide_eq_true z.1,T6];unfold dM;rw[q]
 .by_cases H:0<=i
  .unfold dM;rw[Y0 Ω,Bool.and_false]
  .rw[decide_eq_false H];rfl
def eP(n:aI)(i v:Int):Prop:=0<=i/\i<n.sizes.length/\0<=v/\v<n.sizes.getD i.toNat 0
instance (n:aI) (i v:Int):Decidable (eP n i v):=inferInstanceAs (Decidable (_/\_))
theorem eP.var{i:Int}(h:eP n i v)(a:bh n.k n.sizes s):∃x,s.vars[i.toNat]?=σ x/\v.toNat<x.un.length/\x.un.length<=32/\n.sizes.getD i.toNat 0=x.un.length:=by
 obtain⟨h1,p,q,j⟩:=h;have r:=a.vars;obtain⟨x,f⟩:=aF (l:=s.vars) (i:=i.toNat) Ω;obtain⟨z,e⟩:=aF (l:=n.sizes) (i:=i.toNat) Ω;have w:=a.eO.2.2 z (x5 e);have y:=(a.var i.toNat x z f e).1;rw[v8,e,V8]at j ⊢;exact⟨x,f,Ω,Ω,Ω⟩
theorem wL{i:Int}(h:bp w ab ac A R n s t):ai x7 Gz [Γ ab,Δ i,Δ v] w λr w'=>r=Δ (if eP n i v then((fa s i.toNat+2+v.toNat:Nat):Int)else-1)/\Ext w w':=by
 have aa:=h.2.2.2.1.vars;refine az func84 ?_;refine aT (λr J=>r= .bool (decide (¬eP n i v))/\Ext w J) ?_ ?_
 .rintro _ J ⟨rfl,q⟩;rw[aj];refine⟨λG=>⟨by rw[if_neg G],q⟩,λf=>?_⟩;have f:=X3.1 f;obtain⟨x,H,ad,ae,_⟩:=f.var h.2.2.2.1;obtain⟨I,K,M,N,aZ,O,L,P,a,B,Q,C,S,V⟩:=(h.ext q).1.parts;have E:=tj H;have af:=ti h.2.1 h.2.2.1;obtain⟨h1,ag,ak,al⟩:=id f;rw[aG bY.p 2 a rfl,gl (y:=i) (i:=i.toNat) Ω ap.u ah.i Ψ C.ls (qS Ω),aP,wrap_i64 Ω Ω,aP,wrap_i64 Ω Ω,if_pos f];refine⟨?_,q⟩;congr 1;omega
 .intro ax z;refine(wJ h).mono ?_;rintro _ U _ ⟨rfl,j⟩;rw[bC,b7];refine⟨λa=>?_,λa=>?_⟩
  .have a:¬(0<=i/\i<n.sizes.length):=λW=>by rw[decide_eq_true W]at a;cases a
   exact z _ _ ⟨by rw[decide_eq_true];exact λe=>a ⟨e.1,e.2.1⟩,j⟩
  have a:0<=i/\i<n.sizes.length:=by simpa using a
  rw[aQ,aj];refine⟨λX=>z _ _ ⟨by rw[decide_eq_true];exact λe=>by have:=e.2.2.1;omega,j⟩,λX=>?_⟩;obtain⟨I,K,M,N,aZ,O,L,P,Y,B,Q,C,S,V⟩:=(h.ext j).1.parts;rw[aG bY.p 0 Y rfl];refine(CL B h.2.2.2.2).mono ?_;rintro _ am _ ⟨Z,rfl⟩;rw[if_pos a.1,cI];refine z _ _ ⟨?_,j.trans Z⟩;congr 1;refine decide_eq_decide.2 ⟨λh e=>?_,λh=>?_⟩
  .have:=e.2.2.2;omega
  .refine Int.not_lt.1 λE=>h ⟨a.1,a.2,Ω,E⟩
def fY(s:am)(i v:Nat):Int:=match s.vars[i]? with
 |some x=>x.un.getD v 0
 |none=>0
theorem n5{i:Int}(h:bp w ab ac A R n s t):ai x7 yO [Γ ab,Δ i,Δ v] w λr w'=>r=(if eP n i v then .tuple #[Δ (fY s i.toNat v.toNat),Δ 0]else .tuple #[Δ 0,Δ 1])/\Ext w w':=by
 refine az func37 ?_;rw[cP de.u];simp only[j9,aU];refine(wL h).mono ?_;rintro _ J _ ⟨rfl,e⟩;by_cases a:eP n i v
 .rw[if_pos a,if_pos a];refine cn Ω ?_;obtain⟨x,f,j,C,_⟩:=a.var h.2.2.2.1;obtain⟨E,G,H,I,aZ,K,L,M,q,N,y,O,P,Q⟩:=(h.ext e).1.parts;rw[aG bY.p 1 q rfl];have z:t.bG[fa s i.toNat+2+v.toNat]?=σ (x.un.getD v.toNat 0):=by
   rw[h.2.1,S6,pm f Ω,show 2+v.toNat=v.toNat+1+1 by omega];show x.un[v.toNat]?=_;rw[v8,x6 j];rfl
  refine(la (i:=fa s i.toNat+2+v.toNat) y rfl z).mono ?_;rintro _ U _ ⟨rfl,B⟩;refine⟨?_,e.trans B⟩;unfold fY;rw[f]
 .rw[if_neg a,if_neg a,aQ,aj];exact⟨λ_=>⟨rfl,e⟩,λh=>Ω⟩
def gC(s:am)(j:Nat):Bool:=match s.funs[j]? with
 |some f=>decide (f.live≠0)
 |none=>false
theorem wM{j:Int}(h:bp w ab ac A R n s t):ai x7 F5 [Γ ab,Δ j] w λv w'=>v= .bool (decide (0<=j)&&gC s j.toNat)/\Ext w w':=by
 refine az func50 ?_;refine aT (λv J=>v= .bool (decide (0<=j)&&gC s j.toNat)/\Ext w J) (λ_ _ h=>h) λax a=>?_;intro U e _ _;rw[cI,aj];refine⟨λq=>?_,λq=>a _ _ ⟨by rw[decide_eq_false q];rfl,e⟩⟩;refine(wK (h.ext e)).mono ?_;rintro _ N _ ⟨rfl,G⟩;have r:=e.trans G;rw[aQ,aj];refine⟨λO=>?_,λP=>a _ _ ⟨?_,r⟩⟩
 .obtain⟨Q,S,V,W,aZ,X,L,Y,B,Z,H,aa,C,x⟩:=(h.ext r).1.parts;obtain⟨f,z⟩:=aF (l:=s.funs) (i:=j.toNat) Ω;obtain⟨y,E⟩:∃y,L[j.toNat]?=σ y:=⟨_,x6 (by rw[x.1];omega)⟩;obtain⟨_,_,I⟩:=x.2 j.toNat y f E z;rw[aG bY.p 1 B rfl,aG bY.p 3 B rfl,dj (i:=j.toNat) Ω e1.u dI.i C (by rw[x.1];omega),aR dI.p rfl,aB (v:=Δ (y.at_:Int)) Ψ (C.range E 2 _ rfl)];have K:t.bG[eN s j.toNat+0]?=σ f.live:=by rw[h.2.1,wi z Ω];rfl
  refine(la (i:=eN s j.toNat) H (by rw[I]) K).mono ?_;rintro _ ad _ ⟨rfl,M⟩;rw[bI];refine a _ _ ⟨?_,r.trans M⟩;rw[decide_eq_true q,T6];unfold gC;rw[z]
 .unfold gC;rw[Y0 Ω,Bool.and_false]
end
def tk(s:am)(n:aI)(i:Int)(b m:Nat):Prop:=kZ b m/\(¬(0<=i/\i<n.sizes.length)->b=0/\m=0)/\∀x,0<=i->s.vars[i.toNat]?=σ x->m=x.un.length/\∀j:Nat,b.testBit j=(decide (j<x.un.length)&& !dropped x.mask (j:Int))
section
variable{w:x3}{ab ac:Nat}{A R:af}{n:aI}{s:am}{t:aw}
theorem iX{i:Int}(h:bp w ab ac A R n s t):ai x7 FT [Γ ab,Δ i] w λv w'=>(∃b m,v=iL b m/\tk s n i b m)/\Ext w w':=by
 have bn:=h.2.2.2.1.vars;refine az func26 ?_;refine bz bX.i λf J bo am P=>?_;have P:ad J f bX [.int .u64 0,Δ 0]:=P;refine(wJ (h.ext am)).mono ?_;rintro _ U _ ⟨rfl,an⟩;have Q:=P.ext an;have S:=am.trans an;rw[bC,b7];refine⟨λa=>?_,λa=>?_⟩
 .have a:¬(0<=i/\i<n.sizes.length):=λaN=>by rw[decide_eq_true aN]at a;cases a
  rw[dh (cs:=#[.int .u64 0,Δ 0]) Ψ];refine b6 (vs:=[.int .u64 0,Δ 0]) bX.i rfl rfl (by intro u hu;simp at hu;rcases hu with rfl|rfl<;>rfl) Q λbq aO bu aQ=>?_;rw[fC bX.p bX.i rfl aQ.range];refine⟨⟨0,0,rfl,⟨Ω,Ξ⟩,λ_=>⟨rfl,rfl⟩,λx ao aR=>?_⟩,S.put aO Ω⟩;have:=(x4.1 aR).1;exact absurd ⟨ao,Ω⟩ a
 have a:0<=i/\i<n.sizes.length:=by simpa using a
 obtain⟨x,E⟩:=aF (l:=s.vars) (i:=i.toNat) Ω;obtain⟨z,W⟩:=aF (l:=n.sizes) (i:=i.toNat) Ω;have aS:=h.2.2.2.1.eO.2.2 z (x5 W);obtain⟨bw,_,bx,bA⟩:=h.2.2.2.1.var i.toNat x z E W;obtain⟨aT,aU,aV,aW,aZ,aX,L,aY,G,aq,_⟩:=(h.ext S).1.parts;rw[aG bY.p 0 G rfl];refine(CL aq h.2.2.2.2).mono ?_;rintro _ bB _ ⟨X,rfl⟩;rw[if_pos a.1,v8,W,V8];refine JS.mono ?_;rintro _ bD _ ⟨Y,rfl⟩;rw[if_pos aS];obtain⟨m,rfl⟩:∃m:Nat,z=m:=⟨z.toNat,Ω⟩;rw[br,bt,u6];have au:=(S.trans X).trans Y;refine bz bX.i λe bE bF av a1=>?_;refine b6 (vs:=[.int .u64 ((2 ^ m-1:Nat):Int),Δ (m:Int)]) bX.i rfl rfl (by intro u hu;simp at hu;rcases hu with rfl|rfl<;>rfl) a1 λaw ay bI a2=>?_;have z5:=au.size;have aA:Ext w aw:=(au.trans av).put ay Ω;have bJ:=(((Q.ext X).ext Y)).lt;have a6:ad aw f bX [.int .u64 0,Δ 0]:=(((Q.ext X).ext Y).ext av).V ay λhe=>by have he:f=e:=he;omega
 intro bK Z _ _;have aB:=aA.trans Z;obtain⟨aT,aU,aV,aW,aZ,aX,L,aY,G,aq,a7,a8,_⟩:=(h.ext aB).1.parts;have bL:=tj E;have bM:=ti h.2.1 h.2.2.1;rw[aG bY.p 1 G rfl,aG bY.p 2 G rfl,gl (y:=i) (i:=i.toNat) Ω ap.u ah.i Ψ a8.ls (qS Ω),aP,wrap_i64 Ω Ω];have ba:t.bG[fa s i.toNat+1]?=σ x.mask:=by rw[h.2.1,pm E Ω];rfl
 refine(la (i:=fa s i.toNat+1) a7 Ω ba).mono ?_;rintro _ bb _ ⟨rfl,aa⟩;have aC:=(a2.ext Z).ext aa;have bc:=(a6.ext Z).ext aa;obtain⟨mk,aD⟩:∃mk:Nat,x.mask=mk:=⟨x.mask.toNat,Ω⟩;rw[bH bX.p bX.i rfl (show bb.rangeAt e 0 [.int .u64 ((2 ^ m-1:Nat):Int),Δ (m:Int)]from aC.range)];refine(vn (b:=2 ^ m-1) (n:=m)).mono ?_;rintro _ bN _ ⟨rfl,ae⟩;have be:=aB.trans aa;have bf:f≠e:=Ω
 have bO:=aA.size;have bP:w.heap.size<=e:=Ω
 have bR:w.heap.size<=f:=Ω
 refine bZ.range m (λq B=>Ext w B/\ad B f bX [.int .u64 0,Δ 0]/\∃b:Nat,ad B e bX [.int .u64 (b:Int),Δ (m:Int)]/\kZ b m/\∀j:Nat,b.testBit j=(decide (j<m)&& !(decide (j<q)&&mk.testBit j))) Ω
  ⟨be.trans ae,bc.ext ae,_,aC.ext ae,⟨Ω,by have:=Nat.two_pow_pos m;omega⟩,λj=>by rw[Ar];simp⟩ ?_ ?_
 .rintro q B bg bS ⟨H,I,b,C,K,M⟩ bh;refine bQ Ω ?_;refine dd (λN=>Ext w N/\ad N f bX [.int .u64 0,Δ 0]/\∃b:Nat,ad N e bX [.int .u64 (b:Int),Δ (m:Int)]/\kZ b m/\∀j:Nat,b.testBit j=(decide (j<m)&& !(decide (j<q+1)&&mk.testBit j))) ?_ ?_
  .rintro N bi;rw[aP];exact bh _ bi
  intro ax aE;have bj:mk / 2 ^ q<2 ^ 62:=Nat.lt_of_le_of_lt (Nat.div_le_self _ _) Ω;rw[aD,Bv Ω,show(1:Int)=((1:Nat):Int)from rfl,Dn bj Ω,bd,aj];have aH:(((mk / 2 ^ q &&& 1:Nat):Int)=((1:Nat):Int))↔mk.testBit q=true:=by rw[<-Do];omega
  refine⟨λaf=>?_,λag=>?_⟩
  .have af:=aH.1 af;rw[bH bX.p bX.i rfl (show B.rangeAt e 0 [.int .u64 (b:Int),Δ (m:Int)]from C.range)];refine(JU (v:=(q:Int)) K).mono ?_;rintro _ bT _ ⟨rfl,ak⟩;rw[if_pos ⟨Ω,Ω⟩,u6];refine b6 (vs:=[.int .u64 ((jO b (2 ^ q):Nat):Int),Δ (m:Int)]) bX.i rfl rfl (by intro u hu;simp at hu;rcases hu with rfl|rfl<;>rfl) (C.ext ak) λbU aI bV bk=>?_;have aJ:∀j:Nat,(jO b (2 ^ q)).testBit j=(decide (j<m)&& !(decide (j<q+1)&&mk.testBit j)):=λj=>by
    rw[Aj,M,Nat.testBit_two_pow];by_cases aK:j<m
    .by_cases O:j=q
     .subst O;simp[af]
     .have al:decide (j<q+1)=decide (j<q):=decide_eq_decide.2 ⟨λh=>Ω,λh=>Ω⟩;rw[al,decide_eq_true aK,decide_eq_true (show j<64 by omega),decide_eq_false (show¬q=j from λh=>O h.symm)];simp
    .simp[aK]
   refine aE _ ⟨(H.trans ak).then aI λr bW he=>by have he:r=e:=he;omega,(I.ext ak).V aI λhe=>bf he,_,bk,⟨Ω,JL λj aL=>by rw[aJ,decide_eq_false Ω];rfl⟩,aJ⟩
  .have ag:mk.testBit q=false:=by simpa using λh=>ag (aH.2 h)
   refine aE _ ⟨H,I,b,C,K,λj=>?_⟩;rw[M];by_cases O:j=q
   .subst O;simp[ag]
   .have al:decide (j<q+1)=decide (j<q):=decide_eq_decide.2 ⟨λh=>Ω,λh=>Ω⟩;rw[al]
 .rintro B bg ⟨H,I,b,C,K,M⟩;refine cn Ω ?_;rw[bH bX.p bX.i rfl (show B.rangeAt e 0 [.int .u64 (b:Int),Δ (m:Int)]from C.range)];refine b6 (vs:=[.int .u64 (b:Int),Δ (m:Int)]) bX.i rfl rfl (by intro u hu;simp at hu;rcases hu with rfl|rfl<;>rfl) I λb0 bl b1 bm=>?_;rw[fC bX.p bX.i rfl bm.range];refine⟨⟨b,m,rfl,K,λh=>absurd a h,λy ao aM=>?_⟩,H.put bl Ω⟩;rw[E]at aM;cases aM;refine⟨Ω,λj=>?_⟩;rw[M,aD,Oh,show x.un.length=m by omega];by_cases aL:j<m<;>simp[aL]
theorem Ds{f:cL}(e:bh k sizes s)(j:f∈s.funs):b1 f.ag/\f.cs.length=(aK f.ag).toNat/\aK f.ag<=4096:=by
 obtain⟨a,I,_⟩:=e.funs f j;rw[I];refine⟨⟨?_,mI e.eO.2.2 λv h=>⟨(a.scope.1 v h).1,a.vars v h⟩⟩,a.len,a.small⟩;have:=a.scope.2;simp[bV];exact this
def h5(s:am)(j:Nat)(tl:Λ):Option Nat:=match s.funs[j]? with
 |some f=>if f.live≠0 then(cB f.ag tl 0).map λm=>eN s j+1+m.toNat else ν
 |none=>ν
def n7(s:am)(j:Nat)(tl:Λ):Int:=match s.funs[j]? with
 |some f=>bn f.ag f.cs tl
 |none=>0
theorem Dt(h:bp w ab ac A R n s t)(N:aH .i64 w aM tl):ai x7 GA [Γ ab,Δ (j:Int),aM] w λv w'=>v=Δ (match h5 s j tl with|some p=>(p:Int)|none=>-1)/\Ext w w':=by
 refine az func85 ?_;refine(wM h).mono ?_;rintro _ J _ ⟨rfl,B⟩;rw[decide_eq_true Ω,T6,u6,bC,b7];refine⟨λa=>⟨?_,B⟩,λa=>?_⟩
 .have a:gC s j=false:=by simpa using a
  have:h5 s j tl=ν:=by
   unfold h5;unfold gC at a;cases e:s.funs[j]? with
   |none=>rfl
   |some f=>
    rw[e]at a;have a:f.live=0:=by simpa using a
    simp[a]
  rw[this]
 have a:gC s j=true:=by simpa using a
 obtain⟨f,e,O⟩:∃f,s.funs[j]?=σ f/\f.live≠0:=by
  unfold gC at a;cases e:s.funs[j]? with
  |none=>rw[e]at a;cases a
  |some f=>rw[e]at a;exact⟨f,rfl,by simpa using a⟩
 obtain⟨I,af,ah⟩:=Ds h.2.2.2.1 (x5 e);obtain⟨P,Q,S,V,aZ,K,L,W,C,X,Y,Z,x,z⟩:=(h.ext B).1.parts;obtain⟨y,r⟩:∃y,L[j]?=σ y:=⟨_,x6 (by rw[z.1];exact(x4.1 e).1)⟩;have E:=(x4.1 r).1;obtain⟨_,aa,M⟩:=z.2 j y f r e;have ad:J.rangeAt K (j*3+1) [y.szv]:=λq v G=>by
  match q,G with
  |0,G=>cases G;exact x.range r 1 _ rfl
 rw[aG bY.p 3 C rfl,dj rfl e1.u dI.i x E,aR dI.p rfl,bH (cs:=[y.szv]) bu.p bu.i rfl ad];refine(zF aa.ls (N.ext B) I).mono ?_;rintro _ U _ ⟨rfl,ae⟩;have H:=B.trans ae;unfold kW h5;rw[e];simp only[if_pos O];cases hi:cB f.ag tl 0 with
 |none=>
  simp only[Option.map_none];rw[br,bt,bI,aj];exact⟨λ_=>⟨trivial,H⟩,λh=>absurd (show(3:Int)≠0 by decide) h⟩
 |some m=>
  simp only[Z7];rw[br,bt,bI,aj];refine⟨λh=>absurd rfl h,λ_=>?_⟩;have ak:=nE I.2 hi;have al:=Dq e;have am:=ti h.2.1 h.2.2.1;obtain⟨P,Q,S,V,aZ,K,L,W,C,X,Y,Z,x,z⟩:=(h.ext H).1.parts;obtain⟨y,r⟩:∃y,L[j]?=σ y:=⟨_,x6 (by rw[z.1];exact(x4.1 e).1)⟩;have E:=(x4.1 r).1;obtain⟨_,_,M⟩:=z.2 j y f r e;rw[aG bY.p 3 C rfl,dj rfl e1.u dI.i x E,aR dI.p rfl,aB (v:=Δ (y.at_:Int)) Ψ (x.range r 2 _ rfl),M,aP,wrap_i64 Ω Ω,aP,wrap_i64 Ω Ω];refine⟨?_,H⟩;congr 1;omega
theorem Du{p:Nat}(e:bh k sizes s)(h:h5 s j tl=σ p):s.cells[p]?=σ (n7 s j tl)/\∃f,s.funs[j]?=σ f/\f.live≠0/\∃m:Nat,cB f.ag tl 0=σ (m:Int)/\m<f.cs.length/\p=eN s j+(m+1):=by
 unfold h5 at h;cases a:s.funs[j]? with
 |none=>rw[a]at h;cases h
 |some f=>
  rw[a]at h;simp only at h;split at h
  .rename_i r;obtain⟨m,hm,rfl⟩:=Y9.1 h;obtain⟨w,x,y⟩:=Ds e (x5 a);have z:=nE w.2 hm;obtain⟨q,rfl⟩:∃q:Nat,m=q:=⟨m.toNat,Ω⟩;refine⟨?_,f,rfl,r,q,hm,Ω,Ω⟩;rw[show eN s j+1+(q:Int).toNat=eN s j+(q+1) by omega,wi a Ω];unfold n7 bn;rw[a];simp only[hm];show f.cs[q]?=_;rw[u6,v8,x6 Ω];rfl
  .cases h
theorem wN(h:bp w ab ac A R n s t)(e:aH .i64 w aM tl):ai x7 FY [Γ ab,Δ (j:Int),aM] w λv w'=>v=(if(h5 s j tl).isSome then .tuple #[Δ (n7 s j tl),Δ 0]else .tuple #[Δ 0,Δ 1])/\Ext w w':=by
 refine az func38 ?_;rw[cP de.u];simp only[j9,aU];refine(Dt h e).mono ?_;rintro _ J _ ⟨rfl,a⟩;cases f:h5 s j tl with
 |none=>
  simp only;rw[aQ,aj];exact⟨λ_=>⟨rfl,a⟩,λh=>Ω⟩
 |some p=>
  simp only;refine cn Ω ?_;obtain⟨y,z,B,C,aZ,E,L,G,q,H,r,I,K,M⟩:=(h.ext a).1.parts;rw[aG bY.p 1 q rfl];refine(la (i:=p) r rfl (by rw[h.2.1];exact(Du h.2.2.2.1 f).1)).mono ?_;rintro _ U _ ⟨rfl,x⟩;exact⟨rfl,a.trans x⟩
end
theorem eF.parts{a:Nat}{e f q:x1}{A R:af}{n:aI}{s:am}{t:aw}(h:eF w ab ac a e f q A R n s t):∃aZ j L p,ad w ab bY [Γ a,Γ ac,e,f,q]/\fW w a n/\cW w ac p t/\aq .i64 ah w aZ e (hf s)/\ba l0 3 dI w j f L/\ld R w L s:=by
 obtain⟨_,aZ,j,ge,L,E,p,w0,r,⟨x,y,G⟩,⟨z,H,I,J⟩,B,⟨C,F⟩,K,M⟩:=h;exact⟨aZ,j,L,p,r,x.ext y,z,B,C,F⟩
theorem Oi{a b:Int}(e:0<=a/\a<=k)(f:0<=b/\b<=k)(hk:1<=k/\k<=2147483648):ai x7 y2 [Δ a,Δ b,Δ k] w λv w'=>v= .tuple #[Δ (min (a+b) k),Δ 0]/\Ext w w':=by
 refine AY.mono ?_;rintro _ J _ ⟨rfl,h⟩;refine⟨?_,h⟩;unfold qf;rw[if_pos ⟨⟨hk,e.1,e.2⟩,hk,f.1,f.2⟩]
def Room(t:aw):Prop:=t.marks=[]\/t.olds.length<100000000
def dH(s:am)(i v:Nat):am:=match s.vars[i]? with
 |some x=>{s with vars:=s.vars.set i {x with mask:=((x.mask.toNat ||| 2 ^ v:Nat):Int)}}
 |none=>s
theorem bh.tn{s:am}{i:Nat}{x y:bq}(h:bh k sizes s)(e:s.vars[i]?=σ x)(r:y.un.length=x.un.length)(w:∀c∈y.un,0<=c/\c<=k)(hm:0<=y.mask/\y.mask<4294967296):bh k sizes {s with vars:=s.vars.set i y}:=
 ⟨h.fI,h.eO,h.zero,by show(s.vars.set i y).length=_;rw[Z6];exact h.vars,λp z q a f=>by
  have a:(s.vars.set i y)[p]?=σ z:=a;rw[X1]at a;by_cases j:i=p
  .subst j;rw[if_pos rfl,if_pos (x4.1 e).1]at a;cases a;exact⟨r.trans (h.var i x q e f).1,w,hm⟩
  .rw[if_neg j]at a;exact h.var p z q a f,h.funs⟩
theorem bh.Dv{s:am}{f g:cL}(h:bh k sizes s)(e:s.funs[j]?=σ f)(h1:g.sc=f.sc)(p:g.ag=f.ag)(q:g.cs.length=f.cs.length)(r:∀c∈g.cs,0<=c/\c<=k):bh k sizes {s with funs:=s.funs.set j g}:=
 ⟨h.fI,h.eO,h.zero,h.vars,h.var,λx a=>by
  rcases W3 a with a|rfl
  .exact h.funs x a
  .obtain⟨⟨w,y,z,A,B,F⟩,C,E⟩:=h.funs f (x5 e);refine⟨⟨?_,?_,?_,?_,?_,r⟩,?_,?_⟩
   .show js x.sc;rw[h1];exact w
   .show x.sc.Pairwise _;rw[h1];exact y
   .show ∀v∈x.sc,_;rw[h1];exact z
   .show x.cs.length=(aK (bV sizes x.sc)).toNat;rw[h1,q];exact A
   .show aK (bV sizes x.sc)<=_;rw[h1];exact B
   .rw[h1,p];exact C
   .rw[h1];exact E⟩
theorem Oj{r:Nat}{c:List x1}(a:ad w r e c)(he:¬(e=cO\/e=dY\/e=fO\/e=dJ\/e=bY\/e=dI\/e=fN)):¬eg w r:=by
 rintro (⟨p,q,f,h⟩|j)
 .rw[ep a f]at he;exact he h
 .exact j _ a rfl
section
variable{w:x3}{ab ac:Nat}{A R:af}{n:aI}{s:am}{t:aw}
theorem lb.set(h:lb t)(a:Room t)(p:Nat)(x:Int):lb (t.set p x):=by
 refine⟨by rw[aw.CQ];exact h.1,?_,by rw[aw.wn];exact h.2.2⟩;rcases a with a|a
 .rw[aw.wo a];exact h.2.1
 .have:=aw.CR t p x;omega
theorem Dw{s':am}{p:Nat}{x:Int}(h:bp w ab ac A R n s t)(z:y=(p:Int))(a:p<s.cells.length)(B:s.cells.set p x=s'.cells)(I:lf s s')(C:bh n.k n.sizes s')(E:Room t):
  ai x7 yY [Γ ac,Δ y,Δ x] w λr w'=>r=Δ 0/\ae (eg w) w w'/\∃aE,Grow A w aE w'/\bp w' ab ac aE R n s' (t.set p x):=by
 obtain⟨G,j,q,_,H⟩:=id h;obtain⟨K,L,M⟩:=G.qN;have N:p<t.cells.length:=by rw[<-j]at a;unfold aw.bG at a;rw[u9]at a;exact a
 refine(tb L.min z N q).mono ?_;rintro _ J _ ⟨rfl,O,e,P⟩;obtain⟨aE,Q,S⟩:=M (λr=>K r\/O r) J _ ⟨e.1.mono λr _ h=>h.1,λr f=>f.elim .inl λh=>(e.2.1 r h).imp (λh=>h.1) id,λr f=>.inl f⟩ (P.mono λr h=>.inr h);exact⟨rfl,e.1.mono λr _ h=>.inl h.2,aE,Q,S.same I,by rw[aw.pY,j,B],q.set E p x,C,H⟩
theorem wO{i:Int}(h:bp w ab ac A R n s t)(K:Room t):ai x7 Gp [Γ ab,Δ i,Δ v] w λr w'=>(¬eP n i v->r=Δ 1/\Ext w w')/\
  (eP n i v->r=Δ 0/\ae (eg w) w w'/\∃aE x,Grow A w aE w'/\bp w' ab ac aE R n (dH s i.toNat v.toNat) (t.set (fa s i.toNat+1) x)):=by
 refine az func71 ?_;rw[cP de.u];simp only[j9,aU];refine(wL h).mono ?_;rintro _ J _ ⟨rfl,f⟩;by_cases e:eP n i v
 rotate_left
 .rw[if_neg e,aQ,aj];exact⟨λ_=>⟨λ_=>⟨by trivial,f⟩,λh=>absurd h e⟩,λh=>Ω⟩
 rw[if_pos e];refine cn Ω ?_;obtain⟨x,a,M,ad,af⟩:=e.var h.2.2.2.1;obtain⟨h1,ag,ak,al⟩:=id e;have am:=h.2.2.2.1.vars;obtain⟨z,N⟩:=aF (l:=n.sizes) (i:=i.toNat) Ω;obtain⟨_,O,an,ao⟩:=h.2.2.2.1.var i.toNat x z a N;have aq:=tj a;have au:=ti h.2.1 h.2.2.1;obtain⟨av,aw,ax,ay,P⟩:=(h.ext f).1;obtain⟨aZ,aA,L,aB,E,aC,Q,S,aD,aH⟩:=P.parts;rw[aG bY.p 2 E rfl,gl (y:=i) (i:=i.toNat) Ω ap.u ah.i Ψ S.ls (qS Ω),aP,wrap_i64 Ω Ω];intro U j _ _;have V:=f.trans j;have G:=E.ext j;have W:=Q.ext j;obtain⟨q,rfl⟩:∃q:Nat,v=q:=⟨v.toNat,Ω⟩;obtain⟨mk,H⟩:∃mk:Nat,x.mask=mk:=⟨x.mask.toNat,Ω⟩;rw[u6]at M;rw[aG bY.p 1 G rfl,aG bY.p 1 G rfl,Og Ω];have X:t.bG[fa s i.toNat+1]?=σ x.mask:=by rw[h.2.1,pm a Ω];rfl
 refine(la (i:=fa s i.toNat+1) W Ω X).mono ?_;rintro _ aI _ ⟨rfl,I⟩;refine⟨.inl I,?_⟩;have aJ:(2:Nat) ^ q<=2 ^ 31:=T8 Ω Ω;rw[H,Of Ω Ω];have B:=V.trans I;have aK:mk ||| 2 ^ q<2 ^ 32:=Nat.or_lt_two_pow Ω Ω;have C:dH s i.toNat (q:Int).toNat={s with vars:=s.vars.set i.toNat {x with mask:=((mk ||| 2 ^ q:Nat):Int)}}:=by
  unfold dH;rw[a];simp only[H,u6]
 refine(Dw (p:=fa s i.toNat+1) (s':=dH s i.toNat (q:Int).toNat) (h.ext B) Ω Ω ?_ ?_ ?_ K).mono ?_
 .rw[C,CI a Ω];rfl
 .rw[C];exact CO a rfl
 .rw[C];exact h.2.2.2.1.tn a rfl O ⟨by simp only;omega,by simp only;omega⟩
 rintro _ aL _ ⟨rfl,Y,aE,Z,aa⟩;exact⟨λh=>absurd e h,λ_=>⟨rfl,ir B Y,aE,_,(Grow.ext B).trans Z,aa⟩⟩
end
theorem wP{cG:x1}(h:aH .i64 w cG l):ai x7 FU [cG,Δ v] w λr w'=>r= .bool (decide (v∈l))/\Ext w w':=by
 refine az func31 ?_;rw[aW ap.u h];refine cd.range l.length (λi _ J=>Ext w J/\v∉l.take i) h.le ⟨Ext.refl _,Ξ⟩ ?_ ?_
 .rintro i _ J k hi ⟨a,e⟩ hk;obtain⟨x,f⟩:=aF (l:=l) hi;refine bQ Ω ?_;rw[be ap.u ah.i Ψ (h.ext a) f,bd,aj];refine⟨λhe=>⟨by rw[decide_eq_true];rw[<-he];exact x5 f,a⟩,λj=>?_⟩;rw[aP];refine hk _ _ ⟨a,λhm=>?_⟩;rw[u7,f,o8,o9,l7]at hm;rcases hm with hm|hm
  .exact e hm
  .exact j hm.symm
 .rintro _ J k ⟨a,e⟩;rw[o5]at e;rw[aQ,aj];exact⟨λh=>Ω,λ_=>⟨by rw[decide_eq_false e],a⟩⟩
theorem Dx{x:bq}(h:0<=v/\v<x.un.length):v∈ay x↔dropped x.mask v=false:=by
 unfold ay;rw[S4,l9];constructor
 .rintro⟨_,a⟩;simpa using a
 .intro a;exact⟨⟨v.toNat,Q3.2 Ω,Ω⟩,by simp[a]⟩
def cr(s:am):Prop:=∀f∈s.funs,f.live≠0->∀v∈f.sc,∀x,s.vars[v.toNat]?=σ x->x.gone=0
theorem fW.put{g x:Nat}{c:List x1}{n:aI}(h:fW w x n)(a:ad w g aX c)(f:ae (λr=>r=g) w w'):fW w' x n:=by
 have p:=Dm a;have y:∀r,r=g->∃e c,ad w r e c/\e≠hv/\e≠cU/\e≠ah/\e≠al/\e≠au:=λr j=>by
  subst j;exact⟨_,c,a,Φ,Φ,Φ,Φ,Φ⟩
 obtain⟨z,A,B,C,gr,aS,L,nm,szv,gz,fv2,h1,E,F,G,H,I,J⟩:=h;refine⟨z,A,B,C,gr,aS,L,nm,szv,gz,fv2,wG h1 f p Φ,wG E f p Φ,wF F f p Φ,G.V f λr j=>?_,H,I.V f λr j=>?_,J⟩
 .obtain⟨e,c,a,_,_,_,q,s⟩:=y r j;exact⟨e,c,a,q,s⟩
 .obtain⟨e,c,a,q,s,K,M,_⟩:=y r j;exact⟨e,c,a,q,s,K,M⟩
theorem StateM.put{g:Nat}{A R:af}{n:aI}{s:am}{t:aw}{c:List x1}(h:StateM w ab ac A R n s t)(y:ad w g aX c)(p:ae (λr=>r=g) w w')(S:¬A g):∃R',(∀r,R' r->R r/\r≠g)/\StateM w' ab ac A R' n s t:=by
 obtain⟨U,W,X,Y,⟨h1,Z,aa,ag⟩,aZ,ah,ge,L,E,ai,w0,aj,⟨K,C,ak⟩,⟨al,M,an,ao⟩,ap,⟨aq,N⟩,au,O⟩:=h;obtain⟨cj,P⟩:=CB;have z:=p.size;have q:=Dm y;have B:∀r,(w0.heap.setIfInBounds g cj)[r]?=if g=r then(if g<w0.heap.size then σ cj else ν)else w0.heap[r]?:=λr=>Array.getElem?_setIfInBounds;have av:∀r,A r->r≠g:=λr a he=>S (he▸a);have int:∀{v:x1}{l:Λ},iT R w v l->iT (λr=>R r/\r≠g) w' v l:=λ⟨⟨ax,hm⟩,ay⟩=>⟨⟨ax,wF hm p q Φ⟩,λr a=>⟨ay r a,b4 hm y Φ a⟩⟩;refine⟨λr=>R r/\r≠g,λr h=>h,U,W,X,Y,⟨h1,λr a az=>Z r a az.1,λr a=>by have:=aa r a.1;omega,λr a=>by have:=ag r a;omega⟩,aZ,ah,ge,L,E,ai,{w0 with heap:=w0.heap.setIfInBounds g cj},wG aj p q Φ,⟨?_,?_,?_⟩,
  ⟨al.V p λr a=>av r (M r a),M,an,ao⟩,wF ap p q Φ,⟨Dl aq p q Φ,N.1,λj x f F aA=>?_⟩,Dl au p q Φ,O.1,λj x e F he=>?_⟩
 .by_cases I:∃o,w0.heap[g]?=σ o/\fw o=true
  .obtain⟨o,Q,aB⟩:=I;have aC:ad w0 g aX c:=by
    unfold ad at y ⊢;have:=C.aY g o Q aB;rw[y]at this;rw[Q,this]
   refine K.put aC ⟨Ξ,λr o a I aD=>?_⟩;show(w0.heap.setIfInBounds g cj)[r]?=σ o;rw[B,if_neg λhe=>aD he.symm];exact a
  .refine K.ext ⟨Ξ,λr o a aE=>?_⟩;show(w0.heap.setIfInBounds g cj)[r]?=σ o;rw[B,if_neg λhe=>I ⟨o,by rw[he];exact a,aE⟩];exact a
 .refine⟨by show(w0.heap.setIfInBounds g cj).size<=_;rw[Array.size_setIfInBounds];exact Y5 C.size z,λr o a I=>?_⟩;have a:(w0.heap.setIfInBounds g cj)[r]?=σ o:=a;rw[B]at a;by_cases he:g=r
  .rw[if_pos he]at a;split at a
   .cases a;rw[P]at I;cases I
   .cases a
  .rw[if_neg he]at a;exact p.aY r o (C.aY r o a I) I λh=>he h.symm
 .intro r o a I;have a:(w0.heap.setIfInBounds g cj)[r]?=σ o:=a;rw[B]at a;by_cases he:g=r
  .rw[if_pos he]at a;split at a
   .cases a;rw[P]at I;cases I
   .cases a
  .rw[if_neg he]at a;exact⟨ak r o a I,λh=>he h.symm⟩
 .obtain⟨G,H,J⟩:=N.2 j x f F aA;exact⟨int G,int H,J⟩
 .obtain⟨G,H,J⟩:=O.2 j x e F he;exact⟨G,int H,int J⟩
theorem Ol{pl:Λ}{f:b2}(j:pl.length<=60000)(h:gp pl=σ f):∃N,N<=60000/\fe N f/\f.name≠[]/\∀b∈f.name,bM b=true:=by
 unfold gp at h;rw[if_neg Ω]at h;cases a:hW ⟨(lex pl).1,0,false,[]⟩with
 |none=>rw[a]at h;cases h
 |some q=>
  obtain⟨p,s⟩:=q;rw[a]at h;simp only at h;split at h
  .rename_i ao;cases h;obtain⟨h1,e⟩:=AS rfl a ao.2.2;have r:=pX pl.length pl (p8 _);obtain⟨J,U,_⟩:=r5 pl.length pl (p8 _) f.name e;exact⟨_,by show(lex pl).1.length<=60000;omega,h1,J,U⟩
  .cases h
theorem Om:ai x7 yR [.pointer ν] w λv w'=>v= .pointer ν/\Ext w w':=by
 refine az func62 ?_;rw[cP mn.u];simp only[Option.isNone_none,bL];exact⟨by trivial,Ext.refl _⟩
theorem On{v:x1}(h:aH .u8 w v l)(B:l.length<=100000):ai x7 Gc [v] w λf w'=>Ext w w'/\∃g,aq .u8 cD w' g f l:=by
 have e:=h;obtain⟨C,b,o,base,cap,rfl,E,hm,q,s⟩:=h;refine az func58 ?_;rw[rV cH.u,b7];refine⟨λx=>⟨Ext.refl _,0,?_⟩,λ_=>?_⟩
 .have:l=[]:=by
   cases base with
   |none=>
        by_cases e:0<l.length
        .have:=q e;cases this
        .exact j4 Ω
   |some a=>cases x
  subst this;exact aq.nil _ _ _ _
 .refine wH (k:=.u8) cH.u cD.i λG g1 J H j p=>?_;refine gN cH.u cD.i rfl p (e.ext j) Θ Θ λf y U z I A=>?_;exact⟨j.then A (λr s he=>by have:=(bO p he).1;omega),y,by simpa using z⟩
def Oo(sv:x1):Prop:=∃cs:List x1,sv= .agg cs.toArray/\cs.length=8/\∀u∈cs,u.oneCell'=true
theorem Dy:Oo (.agg z12.toArray):=⟨z12,rfl,rfl,by intro u hu;simp[z12]at hu;rcases hu with rfl|rfl|rfl|rfl<;>rfl⟩
theorem wQ{N:Nat}{f:b2}(a:fe N f):(c3 f).funs.length<=256:=by
 have h1:=(qw a).2.length_eq;have h:=(k6 a).2.2;have j:=List.length_filter_le fD (fp f);have p:=a.k0;have e:=(pj f (fE f).length).2.2.2;rw[ta]at e;omega
theorem Oq{n:aI}{t:aw}(e:jV n)(f:n.funs.length<=256)(h:t.bG=(dq n).cells)(a:Plain t):lb t:=by
 have h1:=tg e f n.unary.length n.funs.length;rw[wr,<-h]at h1;unfold aw.bG at h1;rw[u9]at h1;refine⟨Ω,?_,?_⟩
 .rw[a.2.1];exact X4 _
 .rw[a.1];exact X4 _
section
variable{w:x3}{ab ac:Nat}{A R:af}{n:aI}{s:am}{t:aw}
theorem Ot{j:Int}(h:bp w ab ac A R n s t)(p:¬(0<=j/\j<s.funs.length)):ai x7 rM [Γ ab,Δ j] w λr w'=>r= .slice ν 0 0/\Ext w w':=by
 refine az func205 ?_;refine aT (λv J=>v= .bool true/\Ext w J) ?_ ?_
 .rintro _ J ⟨rfl,e⟩;rw[bL];exact⟨rfl,e⟩
 intro ax a;rw[aQ,aj];refine⟨λ_=>a _ _ ⟨rfl,Ext.refl _⟩,λq=>?_⟩;refine(wK h).mono ?_;rintro _ x _ ⟨rfl,f⟩;rw[cI];exact a _ _ ⟨by rw[decide_eq_true Ω],f⟩
end
section
variable{w:x3}{B:Nat}{sv:x1}{k:Int}{sizes:Λ}{s:am}
end
def iu:List (Λ)->List (Λ)
 |[]=>[[]]
 |d::a=>d.flatMap λv=>(iu a).map (v:: ·)
theorem tp:∀{e:List (Λ)}{t:Λ},t∈iu e↔t.length=e.length/\∀(p:Nat)d v,e[p]?=σ d->t[p]?=σ v->v∈d
 |[],t=>by
  simp only[iu,l7];exact⟨λh=>by subst h;exact⟨rfl,λp d v h=>by simp at h⟩,λh=>j4 h.1⟩
 |d::e,t=>by
  simp only[iu,List.mem_flatMap,l9];constructor
  .rintro⟨v,q,bi,r,rfl⟩;obtain⟨h1,f⟩:=tp.1 r;refine⟨by simp[h1],λp j u a hu=>?_⟩;cases p with
   |zero=>simp at a hu;subst a hu;exact q
   |succ p=>exact f p j u (by simpa using a) (by simpa using hu)
  .rintro⟨h1,f⟩;cases t with
   |nil=>simp at h1
   |cons v bi=>exact⟨v,f 0 d v rfl rfl,bi,tp.2 ⟨by simpa using h1,λp j u a hu=>f (p+1) j u (by simpa using a) (by simpa using hu)⟩,rfl⟩
def mQ:List (Int->Bool)->Λ->Bool
 |q::a,v::t=>q v&&mQ a t
 |_,_=>true
theorem Dz:∀(j:List (Λ))(a:List (Int->Bool)),a.length=j.length->iu ((j.zip a).map λp=>p.1.filter p.2)=(iu j).filter (mQ a)
 |[],[],_=>rfl
 |d::j,q::a,h=>by
  have r:=Dz j a (by simpa using h);simp only[List.zip_cons_cons,T4,iu];rw[r];clear r h;induction d with
  |nil=>rfl
  |cons v d s=>
   rw[W0,List.filter_append,<-s];have e:((iu j).map (v:: ·)).filter (mQ (q::a))=if q v then((iu j).filter (mQ a)).map (v:: ·)else[]:=by
    rw[List.filter_map];by_cases f:q v=true
    .rw[if_pos f];congr 1;apply List.filter_congr;intro t _;show(q v&&mQ a t)=_;rw[f,T6]
    .rw[if_neg f];rw[List.filter_eq_nil_iff.2 λt _=>by show¬(q v&&mQ a t)=true;simp[f]];rfl
   rw[e];by_cases f:q v=true
   .rw[if_pos f,List.filter_cons_of_pos f,W0]
   .rw[if_neg f,List.filter_cons_of_neg f];rfl
def hL(k:Int):Λ:=(V0 k.toNat).map λv:Nat=>(v:Int)
theorem wR:∀(s:Λ),bg s=iu (s.map hL)
 |[]=>rfl
 |k::s=>by
  simp only[bg,T4,iu,hL,List.flatMap_map,<-wR s]
theorem tq:v∈hL k↔0<=v/\v<k:=by
 unfold hL;rw[l9];constructor
 .rintro⟨n,a,rfl⟩;have:=Q3.1 a;omega
 .intro h;exact⟨v.toNat,Q3.2 Ω,Ω⟩
def dz(f:Int->Int)(L:List (Λ))(ag cs:Λ):Λ:=((bg ag).zip cs).map λp=>if p.1∈L then f p.2 else p.2
theorem n8(f:Int->Int)(L:List (Λ))(ag cs:Λ)(h:cs.length<=(bg ag).length):(dz f L ag cs).length=cs.length:=by
 unfold dz;rw[u9,List.length_zip];omega
theorem pr{f:Int->Int}{cs:Λ}{i:Nat}(a:(bg ag)[i]?=σ t)(e:cs[i]?=σ c):(dz f L ag cs)[i]?=σ (if t∈L then f c else c):=by
 unfold dz;have h:((bg ag).zip cs)[i]?=σ (t,c):=List.getElem?_zip_eq_some.2 ⟨a,e⟩;rw[x8,h];rfl
theorem Ou{f:Int->Int}{cs:Λ}{i:Nat}(I:dE ag)(q:cs.length<=(bg ag).length)(p:(bg ag)[i]?=σ t)(r:cs[i]?=σ c)(x:t∉L):(dz f L ag cs)[i]?=σ c/\(dz f L ag cs).set i (f c)=dz f (L++[t]) ag cs:=by
 have h1:=pr (f:=f) (L:=L) p r;rw[if_neg x]at h1;refine⟨h1,?_⟩;apply X2;intro j;rw[X1];by_cases s:i=j
 .subst s;rw[if_pos rfl,if_pos (x4.1 h1).1,pr p r,if_pos Ξ]
 .rw[if_neg s];cases a:cs[j]? with
  |none=>
   have:=List.getElem?_eq_none_iff.1 a;rw[Y0 (by rw[n8 _ _ _ _ q];exact this),Y0 (by rw[n8 _ _ _ _ q];exact this)]
  |some A=>
   obtain⟨u,hu⟩:∃u,(bg ag)[j]?=σ u:=⟨_,x6 (by have:=(x4.1 a).1;omega)⟩;rw[pr hu a,pr hu a];have y:u≠t:=λhe=>by
    subst he;have z:=jq I p;have w:=jq I hu;rw[z]at w;have:=Z2 w;omega
   have:u∈L++[t]↔u∈L:=by simp[y]
   by_cases e:u∈L
   .rw[if_pos e,if_pos (this.2 e)]
   .rw[if_neg e,if_neg λh=>e (this.1 h)]
def kD(s:am)(i v:Nat)(c:Int):am:=match s.vars[i]? with
 |some x=>{s with vars:=s.vars.set i {x with un:=x.un.set v c}}
 |none=>s
def kE(s:am)(j m:Nat)(c:Int):am:=match s.funs[j]? with
 |some f=>{s with funs:=s.funs.set j {f with cs:=f.cs.set m c}}
 |none=>s
theorem qV{i:Nat}(h:∀x∈l,0<=x/\x<=k)(e:0<=c/\c<=k):∀x∈l.set i c,0<=x/\x<=k:=λx a=>by
 rcases W3 a with a|rfl
 .exact h x a
 .exact e
def mR(w:x3)(ab ac:Nat)(A R:af)(n:aI)(s':am)(t:aw)(v:x1)(w':x3):Prop:=v=Δ 0/\ae (eg w) w w'/\∃aE p x,Grow A w aE w'/\bp w' ab ac aE R n s' (t.set p x)
theorem mR.ext{J:x3}{A R:af}{n:aI}{s':am}{t:aw}{v:x1}(a:Ext w J)(h:mR J ab ac A R n s' t v w'):mR w ab ac A R n s' t v w':=by
 obtain⟨h1,e,aE,p,x,f,j⟩:=h;exact⟨h1,ir a e,aE,p,x,(Grow.ext a).trans f,j⟩
section
variable{w:x3}{ab ac:Nat}{A R:af}{n:aI}{s:am}{t:aw}
theorem qW(h:bp w ab ac A R n s t)(f:y<0\/¬(0<=c/\c<=n.k)):ai x7 zb [Γ ab,Δ y,Δ c] w λv w'=>v=Δ (if y<0 then 1 else 3)/\Ext w w':=by
 refine az func210 ?_;rw[cP de.u];simp only[j9,aU];rw[aQ,aj];refine⟨λe=>⟨by rw[if_pos e],Ext.refl _⟩,λe=>?_⟩;refine(mP h).mono ?_;rintro _ J _ ⟨rfl,j⟩;refine(jN (a:=c) (k:=n.k)).mono ?_;rintro _ U _ ⟨rfl,p⟩;have q:=f.resolve_left e;rw[decide_eq_false (λh=>q h.2),bC,W5,bL,if_neg e];exact⟨rfl,j.trans p⟩
theorem wS{s':am}{p:Nat}(h:bp w ab ac A R n s t)(f:Room t)(j:y=(p:Int))(q:p<s.cells.length)(r:s.cells.set p c=s'.cells)(I:lf s s')(x:bh n.k n.sizes s')(z:0<=c/\c<=n.k):
  ai x7 zb [Γ ab,Δ y,Δ c] w (mR w ab ac A R n s' t):=by
 refine az func210 ?_;rw[cP de.u];simp only[j9,aU];refine cn Ω ?_;refine(mP h).mono ?_;rintro _ J _ ⟨rfl,B⟩;refine(jN (a:=c) (k:=n.k)).mono ?_;rintro _ U _ ⟨rfl,C⟩;have e:=B.trans C;rw[decide_eq_true (show cp c n.k from⟨h.2.2.2.1.fI,z⟩),bC,Y6,aU];obtain⟨M,N,O,P,aZ,Q,L,S,E,V,W,X,Y,Z⟩:=(h.ext e).1.parts;rw[aG bY.p 1 E rfl];refine(Dw (h.ext e) j q r I x f).mono ?_;rintro _ aa _ ⟨rfl,G,aE,H,K⟩;exact mR.ext e ⟨rfl,G,aE,_,_,H,K⟩
theorem Ov(h:bp w ab ac A R n s t)(e:Room t):ai x7 Hk [Γ ab,Δ c] w λv w'=>(¬(0<=c/\c<=n.k)->v=Δ 3/\Ext w w')/\((0<=c/\c<=n.k)->mR w ab ac A R n {s with zero:=c} t v w'):=by
 refine az func158 ?_;by_cases a:0<=c/\c<=n.k
 .refine (wS (p:=0) h e rfl (by unfold am.cells ip;simp) (Nn s c) (CN s c) ⟨h.2.2.2.1.fI,h.2.2.2.1.eO,a,h.2.2.2.1.vars,h.2.2.2.1.var,h.2.2.2.1.funs⟩ a).mono ?_;rintro v J _ f;exact⟨λh=>absurd a h,λ_=>f⟩
 .refine (qW h (.inr a)).mono ?_;rintro v J _ ⟨rfl,j⟩;exact⟨λ_=>⟨rfl,j⟩,λh=>absurd h a⟩
theorem DA{i:Int}(h:bp w ab ac A R n s t)(B:Room t):ai x7 Hj [Γ ab,Δ i,Δ v,Δ c] w λr w'=>
  (¬eP n i v->r=Δ 1/\Ext w w')/\(eP n i v->¬(0<=c/\c<=n.k)->r=Δ 3/\Ext w w')/\(eP n i v->(0<=c/\c<=n.k)->mR w ab ac A R n (kD s i.toNat v.toNat c) t r w'):=by
 refine az func157 ?_;refine(wL h).mono ?_;rintro _ J _ ⟨rfl,e⟩;by_cases a:eP n i v
 .rw[if_pos a];by_cases j:0<=c/\c<=n.k
  .obtain⟨x,f,H,I,_⟩:=a.var h.2.2.2.1;have K:=h.2.2.2.1.vars;obtain⟨z,C⟩:∃z,n.sizes[i.toNat]?=σ z:=⟨_,x6 (by have:=a.1;have:=a.2.1;omega)⟩;obtain⟨_,E,hm⟩:=h.2.2.2.1.var i.toNat x z f C;have L:=tj f;have q:kD s i.toNat v.toNat c={s with vars:=s.vars.set i.toNat {x with un:=x.un.set v.toNat c}}:=by unfold kD;rw[f]
   refine(wS (p:=fa s i.toNat+(2+v.toNat)) (s':=kD s i.toNat v.toNat c) (h.ext e) B Ω Ω ?_ ?_ ?_ j).mono ?_
   .rw[q];refine CI f Ω ?_;rw[show 2+v.toNat=v.toNat+1+1 by omega];rfl
   .rw[q];exact CO f Ξ
   .rw[q];exact h.2.2.2.1.tn f Ξ (qV E j) hm
   .rintro r U _ G;exact⟨λh=>absurd a h,λ_ h=>absurd j h,λ_ _=>G.ext e⟩
  .refine (qW (h.ext e) (.inr j)).mono ?_;rintro r U _ ⟨rfl,y⟩;rw[if_neg Ω];exact⟨λh=>absurd a h,λ_ _=>⟨rfl,e.trans y⟩,λ_ h=>absurd h j⟩
 .rw[if_neg a];refine(qW (h.ext e) (.inl Ω)).mono ?_;rintro r U _ ⟨rfl,y⟩;rw[if_pos Ω];exact⟨λ_=>⟨rfl,e.trans y⟩,λh=>absurd h a,λh=>absurd h a⟩
theorem Ow(h:bp w ab ac A R n s t)(C:Room t)(E:aH .i64 w aM tl):ai x7 HS [Γ ab,Δ (j:Int),aM,Δ c] w λr w'=>
  (h5 s j tl=ν->r=Δ 1/\Ext w w')/\((h5 s j tl).isSome=true->¬(0<=c/\c<=n.k)->r=Δ 3/\Ext w w')/\
  ((h5 s j tl).isSome=true->(0<=c/\c<=n.k)->∀f (m:Nat),s.funs[j]?=σ f->cB f.ag tl 0=σ (m:Int)->mR w ab ac A R n (kE s j m c) t r w'):=by
 refine az func207 ?_;refine(Dt h E).mono ?_;rintro _ J _ ⟨rfl,e⟩;cases G:h5 s j tl with
 |none=>
  simp only;refine(qW (h.ext e) (.inl Ω)).mono ?_;rintro r U _ ⟨rfl,x⟩;rw[if_pos Ω];exact⟨λ_=>⟨rfl,e.trans x⟩,λh=>by simp at h,λh=>by simp at h⟩
 |some p=>
  simp only;by_cases q:0<=c/\c<=n.k
  .obtain⟨K,f,a,L,m,hm,M,rfl⟩:=Du h.2.2.2.1 G;have N:=Dq a;have y:kE s j m c={s with funs:=s.funs.set j {f with cs:=f.cs.set m c}}:=by unfold kE;rw[a]
   obtain⟨H,_⟩:=h.2.2.2.1.funs f (x5 a);refine(wS (p:=eN s j+(m+1)) (s':=kE s j m c) (h.ext e) C rfl Ω ?_ ?_ ?_ q).mono ?_
   .rw[y];exact No a Ω rfl
   .rw[y];exact Nw a Ξ rfl rfl
   .rw[y];exact h.2.2.2.1.Dv a rfl rfl Ξ (qV H.im q)
   .rintro r U _ I;refine⟨(λh=>by cases h),λ_ h=>absurd q h,λ_ _ O bU z B=>?_⟩;rw[a]at z;cases z;rw[hm]at B;have:bU=m:=by have:=Z2 B;omega
    subst this;exact I.ext e
  .refine (qW (h.ext e) (.inr q)).mono ?_;rintro r U _ ⟨rfl,x⟩;rw[if_neg Ω];exact⟨(λh=>by cases h),λ_ _=>⟨rfl,e.trans x⟩,λ_ h=>absurd h q⟩
end
def eQ(of:Int->Int)(p:Int×Int)(v:Int):Int×Int:=if p.2= -1\/of v<p.1 then(of v,v)else p
def dm(k:Int)(l:Λ)(of:Int->Int):Int×Int:=l.foldl (eQ of) (k,-1)
theorem kF{s:am}{n:aI}{i:Int}{b m:Nat}{x:bq}(h:tk s n i b m)(e:0<=i)(f:s.vars[i.toNat]?=σ x):(fR b m).map (λv:Nat=>(v:Int))=ay x:=by
 obtain⟨_,_,j⟩:=h;obtain⟨rfl,p⟩:=j x e f;unfold fR ay;rw[List.filter_map];congr 1;refine List.filter_congr λq a=>?_;have a:=Q3.1 a;rw[p,decide_eq_true a,T6];rfl
section
variable{w:x3}{ab ac:Nat}{A R:af}{n:aI}{s:am}{t:aw}
def jZ(n:aI)(s:am)(i:Int):Bool:=decide (0<=i/\i<n.sizes.length)&& !dM s i.toNat
theorem Ox{i:Int}(h:bp w ab ac A R n s t):ai x7 GI [Γ ab,Δ i] w λv w'=>v=Δ (if jZ n s i=true then 0 else 1)/\Ext w w':=by
 refine az func98 ?_;rw[cP de.u];simp only[j9,aU];refine aT (λv J=>v= .bool (!jZ n s i)/\Ext w J) ?_ ?_
 .rintro _ J ⟨rfl,a⟩;rw[b7];refine⟨λj=>⟨by rw[if_neg (by simpa using j)],a⟩,λj=>⟨by rw[if_pos (by simpa using j)],a⟩⟩
 intro ax p;refine(qU h).mono ?_;rintro _ J _ ⟨rfl,a⟩;rw[b7];refine⟨λe=>p _ _ ⟨?_,a⟩,λe=>?_⟩
 .rw[U4]at e;unfold jZ;rw[e.2,Y6,Bool.and_false];rfl
 refine(iX (i:=i) (h.ext a)).mono ?_;rintro _ U _ ⟨⟨b,m,rfl,G,y,B⟩,C⟩;refine(vn (b:=b) (n:=m)).mono ?_;rintro _ H _ ⟨rfl,E⟩;rw[bd];refine p _ _ ⟨?_,(a.trans C).trans E⟩;congr 1;have I:=h.2.2.2.1.vars;unfold jZ;by_cases f:0<=i/\i<n.sizes.length
 .obtain⟨x,q⟩:=aF (l:=s.vars) (i:=i.toNat) Ω;obtain⟨z,r⟩:=aF (l:=n.sizes) (i:=i.toNat) Ω;have h1:=(h.2.2.2.1.var i.toNat x z q r).1;have K:=h.2.2.2.1.eO.2.2 z (x5 r);have hm:=(B x f.1 q).1;rw[decide_eq_true f.1,T6]at e;rw[decide_eq_true f,e,decide_eq_false Ω];rfl
 .rw[decide_eq_false f,(y f).2];rfl
def DB(w:x3)(a:Nat)(cap:Array x1)(l:Λ)(of:Int->Int):Prop:=∀(w':x3)(v:Int),Ext w w'->v∈l->ai x7 a (Δ v::cap.toList) w' λr e=>r=Δ (of v)/\Ext w' e
theorem Oy{i:Int}{x:bq}{of:Int->Int}{E:Nat}{cap:Array x1}(h:bp w ab ac A R n s t)(N:Laid w)(aM:0<=i)(f:s.vars[i.toNat]?=σ x)(aN:DB w E cap (ay x) of):
  ai x7 GJ [Γ ab,Δ i,.func (.func E) #[] cap] w λr w'=>Ext w w'/\r= .tuple #[Δ (dm n.k (ay x) of).1,Δ (dm n.k (ay x) of).2]:=by
 refine hU func99 ?_;refine bj λap J bf O G=>?_;have G:ad J ap IG [.func (.func E) #[] cap]:=G;refine(mP (h.ext O)).mono ?_;rintro _ U _ ⟨rfl,H⟩;refine bz al.i λP bg bh aq au=>?_;refine bz ah.i λga bi bl Q av=>?_;have bm:=(O.trans H).size;have z3:=aq.size;have z4:=Q.size;refine bk (v:=Δ n.k) al.i rfl rfl (au.ext Q) Φ λbn aw bo aO=>?_;have br:=au.lt;have bt:=av.lt;refine bk (v:=Δ (-1)) ah.i rfl rfl (av.V aw Ω) Φ λaP az bu aR=>?_;have aS:=aO.V az Ω;have aA:Ext U aP:=((aq.trans Q).then aw λr a he=>by have he:r=P:=he;omega).put az Ω;have aC:=(O.trans H).trans aA;refine(iX (i:=i) (h.ext aC)).mono ?_;rintro _ bw _ ⟨⟨b,m,rfl,W⟩,aD⟩;refine(mC (b:=b) (n:=m)).mono ?_;rintro _ X _ ⟨aU,aZ,rfl,bx,Y⟩;have bA:=W.1;have aE:=kF W aM f;have B:=aD.trans aU;have y:=aC.trans B;have bB:=y.size;have bC:=B.size;have bD:=G.lt;have bE:=aD.size;have z12:=H.size;obtain⟨S,I⟩:∃S:af,S=λr=>r=P\/r=ga:=⟨_,rfl⟩;have K:∀r,S r->w.heap.size<=r:=λr a=>by rw[I]at a;rcases a with rfl|rfl<;>omega
 have Z:∀r,S r->r≠ap/\r≠aZ:=λr a=>by rw[I]at a;rcases a with rfl|rfl<;>omega
 let st:Nat->Int×Int:=λj=>((ay x).take j).foldl (eQ of) (n.k,-1);have aV:=G.ext (H.trans (aA.trans B));refine kf.old ⟨_,false,jd,#[Γ aZ],_,_,_,_,λj w'=>ae S X w'/\ad w' P al [Δ (st j).1]/\ad w' ga ah [Δ (st j).2],λ_ _ _=>False,rfl,(mB (g:=aZ) W.1).s,?_,
  λ_ _ f h=>⟨h.1.ext f,h.2.ext f⟩,λ_ _ _ f h=>⟨h.1.trans (f.V S),h.2.1.ext f,h.2.2.ext f⟩,λ_ _ _ _ _ h=>h,⟨Y,N.ext y⟩,⟨ae.refl _ _,aS.ext B,aR.ext B⟩,?_,?_,λ_ _ h=>h.elim,λ_ _ _ h=>h.elim⟩
 .rintro _ _ _ _ ⟨_,_,_,_,rfl⟩;rfl
 .rintro _ j _ aW ⟨_,_⟩ ⟨bF,rfl,v,aX,aY⟩ ⟨z,L,M⟩;cases aY;intro aa p _ _;have aF:(ay x)[j]?=σ (v:Int):=by rw[<-aE,x8,aX];rfl
  have aG:st (j+1)=eQ of (st j) v:=by
   show((ay x).take (j+1)).foldl _ _=_;rw[u7,aF,List.foldl_append];rfl
  have a1:Ext w aa:=((y.then z λr a h=>by have:=K r h;omega)).trans p;have a2:=(aV.V z λh=>(Z _ h).1 rfl).ext p;rw[aB (v:=.func (.func E) #[] cap) Ψ (a2.Qz rfl)];refine ai.mono (aN aa v a1 (x5 aF)) ?_;rintro _ aH _ ⟨rfl,ag⟩;have ak:=p.trans ag;have am:=L.ext ak;have an:=M.ext ak;refine aT (λr ao=>r= .bool (decide ((st j).2= -1\/of v<(st j).1))/\Ext aH ao) ?_ ?_
  .rintro _ ao ⟨rfl,C⟩;have aI:=ak.trans C;rw[aj];refine⟨λa6=>?_,λa7=>?_⟩
   .refine bk (v:=Δ (of v)) al.i rfl rfl (am.ext C) Ξ λbG aJ bH a8=>?_;refine bk (v:=Δ (v:Int)) ah.i rfl rfl ((an.ext C).V aJ Ω) Ξ λba aK bI bb=>?_;have bc:=a8.V aK Ω;have q:ae S X ba:=((z.trans (aI.V S)).trans (aJ.mono λr _ h=>by rw[I];exact .inl h)).trans (aK.mono λr _ h=>by rw[I];exact .inr h);have e:st (j+1)=(of v,(v:Int)):=by rw[aG];unfold eQ;rw[if_pos a6]
    refine⟨⟨Y.V q λh=>(Z _ h).2 rfl,(N.ext (y.then q λr a h=>by have:=K r h;omega))⟩,⟨q,?_,?_⟩,λh=>by cases h⟩
    .rw[e];exact bc
    .rw[e];exact bb
   .have e:st (j+1)=st j:=by rw[aG];unfold eQ;rw[if_neg a7]
    have q:ae S X ao:=z.trans (aI.V S);refine⟨⟨Y.V q λh=>(Z _ h).2 rfl,(N.ext (y.then q λr a h=>by have:=K r h;omega))⟩,⟨q,?_,?_⟩,λh=>by cases h⟩
    .rw[e];exact am.ext C
    .rw[e];exact an.ext C
  .intro ax aL;rw[aB (v:=Δ (st j).2) Ψ (an.Qz rfl),bd,aj];refine⟨λh1=>aL _ _ ⟨by rw[decide_eq_true (.inl h1)],Ext.refl _⟩,λh1=>?_⟩;rw[aB (v:=Δ (st j).1) Ψ (am.Qz rfl),aQ];refine aL _ _ ⟨?_,Ext.refl _⟩;congr 1;exact decide_eq_decide.2 ⟨.inr,λh=>h.resolve_left h1⟩
 .rintro k aW rfl ⟨z,L,M⟩;intro aa p _ _;have be:st (fR b m).length=dm n.k (ay x) of:=by
   show((ay x).take _).foldl _ _=_;rw[j0 (by rw[<-aE,u9];exact p8 _)];rfl
  rw[be]at L M;rw[aB (v:=Δ (dm n.k (ay x) of).1) Ψ ((L.ext p).Qz rfl),aB (v:=Δ (dm n.k (ay x) of).2) Ψ ((M.ext p).Qz rfl)];intro aH ag _;exact⟨((y.then z λr a h=>by have:=K r h;omega).trans p).trans ag,rfl⟩
end
theorem DC{x:bq}(h:v∈ay x):0<=v/\v<x.un.length:=by
 unfold ay at h;obtain⟨h,_⟩:=S4.1 h;obtain⟨q,a,rfl⟩:=l9.1 h;have:=Q3.1 a;omega
theorem Oz{s:am}{n:aI}{i:Int}{b m:Nat}{x:bq}(h:tk s n i b m)(f:0<=i)(j:s.vars[i.toNat]?=σ x):(decide (0<=v/\v<m)&&b.testBit v.toNat)=decide (v∈ay x):=by
 obtain⟨_,_,p⟩:=h;obtain⟨rfl,q⟩:=p x f j;by_cases a:0<=v/\v<x.un.length
 .rw[decide_eq_true a,T6,q,decide_eq_true (show v.toNat<x.un.length by omega),T6,show((v.toNat:Nat):Int)=v by omega];have:=Dx a;cases e:dropped x.mask v with
  |false=>rw[decide_eq_true (this.2 e)];rfl
  |true=>rw[decide_eq_false λh=>by rw[this.1 h]at e;cases e];rfl
 .rw[decide_eq_false a,decide_eq_false λh=>a (DC h)];rfl
def eA(n:aI)(s:am)(i v:Int):Int:=if eP n i v then fY s i.toNat v.toNat else 0
theorem wT{n:aI}{s:am}{i:Int}(a:bh n.k n.sizes s):0<=eA n s i v/\eA n s i v<=n.k:=by
 have hk:=a.fI;have p:=a.vars;unfold eA;split
 .rename_i h;obtain⟨x,e,f,_⟩:=h.var a;obtain⟨z,j⟩:∃z,n.sizes[i.toNat]?=σ z:=⟨_,x6 (by have:=(x4.1 e).1;omega)⟩;have:=(a.var i.toNat x z e j).2.1;unfold fY;rw[e];simp only;rw[v8,x6 f];exact this _ (S9 f)
 .omega
section
variable{w:x3}{ab ac:Nat}{A R:af}{n:aI}{s:am}{t:aw}
theorem OA{i:Int}(h:bp w ab ac A R n s t)(f:∀e w',Ext w w'->K (.tuple #[Δ (eA n s i v),Δ e]) w'):ai x7 yO [Γ ab,Δ i,Δ v] w K:=by
 refine(n5 h).mono ?_;rintro _ J _ ⟨rfl,a⟩;have:=f;unfold eA at this;split
 .rename_i I;rw[if_pos I]at this;exact this 0 J a
 .rename_i I;rw[if_neg I]at this;exact this 1 J a
theorem OB{i:Int}(h:bp w ab ac A R n s t):ai x7 GK [Γ ab,Δ i] w λr w'=>Ext w w'/\∃cap,r= .func (.func y1) #[] cap/\∀l,DB w' y1 cap l (eA n s i):=by
 refine az func100 ?_;refine bj λg1 J B x a=>?_;refine bj λy U C p f=>?_;rw[ki];have q:=x.trans p;refine⟨q,_,rfl,λl w' v j _=>?_⟩;refine az func155 ?_;have a:ad J g1 de [Γ ab]:=a;have f:ad U y ah [Δ i]:=f;rw[aB (v:=Γ ab) Ψ (((a.ext p).ext j).Qz rfl),aB (v:=Δ i) Ψ ((f.ext j).Qz rfl)];refine OA (h.ext (q.trans j)) λe E z=>?_;rw[br,bt];exact⟨rfl,z⟩
theorem DD{i:Int}(f:bh n.k n.sizes s)(h:jZ n s i=true):0<=i/\∃x,s.vars[i.toNat]?=σ x/\x.gone=0:=by
 unfold jZ at h;rw[U4]at h;have h1:=of_decide_eq_true h.1;have j:=f.vars;obtain⟨x,e⟩:=aF (l:=s.vars) (i:=i.toNat) Ω;have a:=h.2;unfold dM at a;rw[e]at a;exact⟨h1.1,x,e,by simpa using a⟩
theorem OC{i:Int}(h:bp w ab ac A R n s t)(p:Laid w):ai x7 yQ [Γ ab,Δ i] w λr w'=>Ext w w'/\(jZ n s i=false->r= .tuple #[Δ 0,Δ (-1),Δ 1])/\
  ∀x,jZ n s i=true->s.vars[i.toNat]?=σ x->r= .tuple #[Δ (dm n.k (ay x) (eA n s i)).1,Δ (dm n.k (ay x) (eA n s i)).2,Δ 0]:=by
 refine az func54 ?_;refine(Ox h).mono ?_;rintro _ J _ ⟨rfl,a⟩;cases q:jZ n s i with
 |false=>
  rw[if_neg Φ,bI,aj];exact⟨λ_=>⟨a,λ_=>rfl,λ_ h=>by cases h⟩,λh=>absurd Φ h⟩
 |true=>
  obtain⟨y,x,f,_⟩:=DD h.2.2.2.1 q;rw[if_pos rfl,bI,aj];refine⟨λh=>absurd rfl h,λ_=>?_⟩;refine(OB (i:=i) (h.ext a)).mono ?_;rintro _ U _ ⟨z,cap,rfl,B⟩;have e:=a.trans z;refine(Oy (h.ext e) (p.ext e) y f (B _)).mono ?_;rintro _ E _ ⟨C,rfl⟩;rw[br,bt];exact⟨e.trans C,(λh=>by cases h),λG _ j=>by rw[f]at j;cases j;rfl⟩
theorem wU{f:cL}(h:bp w ab ac A R n s t)(a:s.funs[j]?=σ f):ai x7 rM [Γ ab,Δ (j:Int)] w λr w'=>Ext w w'/\∃g,w.heap.size<=g/\aq .i64 ah w' g r f.sc:=by
 have I:=(x4.1 a).1;refine az func205 ?_;refine aT (λv J=>v= .bool false/\Ext w J) ?_ ?_
 .rintro _ J ⟨rfl,e⟩;rw[aU];obtain⟨K,M,N,O,aZ,P,L,Q,B,S,V,W,x,q⟩:=(h.ext e).1.parts;obtain⟨y,z⟩:∃y,L[j]?=σ y:=⟨_,x6 (by rw[q.1];omega)⟩;obtain⟨C,_,_⟩:=q.2 j y f z a;rw[aG bY.p 3 B rfl,dj rfl e1.u dI.i x (by rw[q.1];omega),aR dI.p rfl,aB (v:=y.aN) Ψ (x.range z 0 _ rfl)];have X:f.sc.length<=6:=(h.2.2.2.1.funs f (x5 a)).1.scope.2;refine(kX C.ls Ω).mono ?_;rintro v U _ ⟨E,g,Y,hm⟩;have:=e.size;exact⟨e.trans E,g,Ω,hm⟩
 intro ax G;rw[aQ,aj];refine⟨λZ=>Ω,λ_=>?_⟩;refine(wK h).mono ?_;rintro _ aa _ ⟨rfl,H⟩;rw[cI];exact G _ _ ⟨by rw[decide_eq_false Ω],H⟩
end
def bB(s:am)(i:Int):Λ:=match s.vars[i.toNat]? with
 |some x=>ay x
 |none=>[]
section
variable{ab ac:Nat}{A R:af}{n:aI}{s:am}{t:aw}
end
def jv(s:am)(pos:Nat)(v:Int):Λ->Nat->List (Λ)
 |[],_=>[]
 |u::sc,p=>(if p=pos then[v]else bB s u)::jv s pos v sc (p+1)
def ce(s:am)(sc:Λ)(pos:Nat)(v:Int):List (Λ):=iu (jv s pos v sc 0)
def oa(s:am)(pos:Nat)(v:Int):Λ->Nat->List (Int->Bool)
 |[],_=>[]
 |u::sc,p=>(λx=>(decide (p=pos->x=v))&&decide (x∈bB s u))::oa s pos v sc (p+1)
theorem OD(h:0<=v/\v<k):(hL k).filter (λx=>decide (x=v))=[v]:=by
 have f:(hL k).Nodup:=by
  unfold hL;exact List.Pairwise.map _ (λa b s=>Ω) List.nodup_range
 have hm:v∈hL k:=tq.2 h;generalize hL k=l at f hm;induction l with
 |nil=>cases hm
 |cons a l p=>
  have j:=List.nodup_cons.1 f;by_cases e:a=v
  .subst e;rw[List.filter_cons_of_pos Ξ,List.filter_eq_nil_iff.2 λx q=>by simp;intro r;exact j.1 (r▸q)]
  .rw[List.filter_cons_of_neg (by simpa using e)];exact p j.2 ((V3.1 hm).resolve_left (Ne.symm e))
section
variable{k:Int}{sizes:Λ}{s:am}{v:Int}{pos:Nat}
theorem OE{u:Int}(a:bh k sizes s)(h:0<=u/\u<sizes.length):(hL (sizes.getD u.toNat 0)).filter (λx=>decide (x∈bB s u))=bB s u:=by
 have w:=a.vars;obtain⟨x,j⟩:=aF (l:=s.vars) (i:=u.toNat) Ω;obtain⟨z,f⟩:=aF (l:=sizes) (i:=u.toNat) Ω;have h1:=(a.var _ x z j f).1;have e:bB s u=ay x:=by unfold bB;rw[j]
 have p:sizes.getD u.toNat 0=z:=by rw[v8,f];rfl
 have A:=a.eO.2.2 z (x5 f);have q:ay x=(hL z).filter λv=>!dropped x.mask v:=by unfold ay hL;rw[h1]
 rw[e,p,q];refine List.filter_congr λy r=>?_;simp[S4,r]
theorem DE(r:bh k sizes s):∀(sc:Λ)(p:Nat),(∀u∈sc,0<=u/\u<sizes.length)->(∀u,p<=pos->sc[pos-p]?=σ u->v∈bB s u)->
  jv s pos v sc p=(((bV sizes sc).map hL).zip (oa s pos v sc p)).map λq=>q.1.filter q.2
 |[],p,_,_=>rfl
 |u::sc,p,hu,w=>by
  have y:=DE r sc (p+1) (λu h=>hu u (.tail _ h)) λu' a h=>w u' Ω (by rw[show pos-p=(pos-(p+1))+1 by omega];exact h);have z:=hu u (.head _);have f:=OE (s:=s) r z;show(if p=pos then[v]else bB s u)::jv s pos v sc (p+1)=(hL (sizes.getD u.toNat 0)).filter (λx=>decide (p=pos->x=v)&&decide (x∈bB s u))::((((bV sizes sc).map hL).zip (oa s pos v sc (p+1))).map λq=>q.1.filter q.2);rw[<-y];congr 1;by_cases a:p=pos
  .rw[if_pos a];have j:v∈bB s u:=w u Ω (by rw[a,U2];rfl);have A:v∈hL (sizes.getD u.toNat 0):=by rw[<-f]at j;exact(S4.1 j).1
   rw[<-OD (tq.1 A)];refine List.filter_congr λx _=>?_;by_cases e:x=v
   .subst e;simp[j]
   .simp[e,a]
  .rw[if_neg a,<-f];refine(List.filter_congr λx B=>?_).symm;rw[f];simp[a]
theorem DF:∀(sc:Λ)(p:Nat),(oa s pos v sc p).length=sc.length
 |[],_=>rfl
 |u::sc,p=>by unfold oa;rw[c9,DF sc (p+1),c9]
theorem wV{sc:Λ}(a:bh k sizes s)(e:∀u∈sc,0<=u/\u<sizes.length)(f:∀u,sc[pos]?=σ u->v∈bB s u):
  ce s sc pos v=(bg (bV sizes sc)).filter (mQ (oa s pos v sc 0)):=by
 unfold ce;rw[DE a sc 0 e λu _ h=>f u h,Dz _ _ (by rw[DF,u9];unfold bV;rw[u9]),wR]
end
theorem wW{k:Int}:∀(l:Λ)(z:Int),z<=k->(∀c∈l,0<=c)->l.foldl (λa c=>min (a+c) k) z=min (z+l.sum) k
 |[],z,h,_=>Θ
 |c::l,z,h,e=>by
  have I:∀(l:Λ),(∀c∈l,0<=c)->0<=l.sum:=λl=>by
   induction l with
   |nil=>intro _;simp
   |cons a l f=>intro h;have:=f λc e=>h c (.tail _ e);have:=h a (.head _);rw[List.sum_cons];omega
  have h1:=e c (.head _);have j:=I l λc h=>e c (.tail _ h);rw[T9,wW l _ Ω λc h=>e c (.tail _ h),List.sum_cons];omega
def dv(p:bq×Int):Int:=if p.1.gone≠0 then 0 else p.1.un.getD p.2.toNat 0
def ff(a:Λ)(f:cL):Int:=if f.live≠0 then bn f.ag f.cs (qI a f.sc)else 0
theorem foldl_map'{α β e:Type}(g:α->β)(h:e->β->e)(h':e->α->e)(P:e->Prop)(ao:∀c a,P c->h' c a=h c (g a))(f:∀c a,P c->P (h' c a)):∀(l:List α)(c:e),P c->l.foldl h' c=(l.map g).foldl h c
 |[],_,_=>rfl
 |a::l,c,j=>by
  rw[T9,T4,T9,<-ao c a j];exact foldl_map' g h h' P ao f l _ (f c a j)
theorem wX{i:Nat}{x:Int}(h:l[i]?=σ x):(l.set i y).sum=l.sum-x+y:=by
 induction l generalizing i with
 |nil=>simp at h
 |cons a l e=>
  cases i with
  |zero=>simp at h;subst h;rw[List.set_cons_zero,List.sum_cons,List.sum_cons];omega
  |succ i=>
   rw[List.set_cons_succ,List.sum_cons,List.sum_cons,e (by simpa using h)];omega
def da(k a c:Int):Int:=if a=k then k else a-c
def cM(k a c:Int):Int:=min (a+c) k
theorem tr{r g u:Int}(a:0<=r)(e:c<=g/\g<=k)(hu:0<=u/\u<=k)(f:0<=c):min (r+da k g c+cM k u c) k=min (r+g+u) k:=by
 unfold da cM;split<;>omega
theorem qX:∀(l:Λ),(∀c∈l,0<=c)->0<=l.sum
 |[],_=>Ξ
 |a::l,h=>by have:=qX l λc e=>h c (.tail _ e);have:=h a (.head _);rw[List.sum_cons];omega
theorem qY:∀{l:Λ}{i:Nat}{x:Int},(∀c∈l,0<=c)->l[i]?=σ x->x<=l.sum
 |[],_,_,_,h=>by simp at h
 |a::l,0,x,e,h=>by
  simp at h;subst h;have:=qX l λc h=>e c (.tail _ h);rw[List.sum_cons];omega
 |a::l,i+1,x,e,h=>by
  have:=qY (λc h=>e c (.tail _ h)) (show l[i]?=σ x by simpa using h);have:=e a (.head _);rw[List.sum_cons];omega
theorem DG{i:Nat}(hk:0<=k)(h:∀c∈l,0<=c/\c<=k):0<=l.getD i 0/\l.getD i 0<=k:=by
 rw[v8];cases a:l[i]? with
 |none=>exact⟨Int.le_refl _,hk⟩
 |some c=>exact h c (x5 a)
theorem DH{f:Int->Int}{cs:Λ}{m:Int}(I:dE ag)(h:cs.length=(bg ag).length)(hi:cB ag t 0=σ m):bn ag (dz f L ag cs) t=if t∈L then f (bn ag cs t)else bn ag cs t:=by
 have a:=mD I hi;have j:=(x4.1 a).1;obtain⟨c,e⟩:=aF (l:=cs) (i:=m.toNat) Ω;have h1:=pr (f:=f) (L:=L) a e;unfold bn;rw[hi];simp only;rw[v8,h1,v8,e,V8,V8]
section
variable{k:Int}{sizes a:Λ}{s:am}
theorem OF{i:Nat}{p:bq×Int}(e:bh k sizes s)(h:(s.vars.zip a)[i]?=σ p):0<=dv p/\dv p<=k:=by
 have hk:=e.fI;obtain⟨h1,_⟩:=List.getElem?_zip_eq_some.1 h;have f:=(x4.1 h1).1;have j:=e.vars;have:=e.var i p.1 _ h1 (x6 Ω);unfold dv;split
 .omega
 .exact DG Ω this.2.1
theorem OG{f:cL}(e:bh k sizes s)(h:f∈s.funs):0<=ff a f/\ff a f<=k:=by
 have hk:=e.fI;have:=(e.funs f h).1.im;unfold ff;split
 .exact (s6 e.fI λc j=>⟨e.fI,this c j⟩).2
 .omega
theorem ts(e:bh k sizes s):∀c∈(s.vars.zip a).map dv,0<=c:=λc f=>by
 obtain⟨p,h,rfl⟩:=l9.1 f;obtain⟨i,hi⟩:=X5.1 h;exact(OF e hi).1
theorem qZ(e:bh k sizes s):∀c∈s.funs.map (ff a),0<=c:=λc f=>by
 obtain⟨p,h,rfl⟩:=l9.1 f;exact(OG e h).1
theorem ob(e:bh k sizes s):gA k s a=if(s.vars.zip a).all iq then min (s.zero+((s.vars.zip a).map dv).sum+(s.funs.map (ff a)).sum) k else k:=by
 have h1:(s.vars.zip a).foldl (qJ k) s.zero=((s.vars.zip a).map dv).foldl (λx c=>min (x+c) k) s.zero:=by
  refine foldl_map' dv (λx c=>min (x+c) k) (qJ k) (λc=>c<=k) (λc p f=>?_) (λc p f=>?_) _ _ e.zero.2
  .unfold qJ dv;split
   .omega
   .rfl
  .unfold qJ;split
   .exact f
   .omega
 have h:∀z,z<=k->s.funs.foldl (qK k a) z=(s.funs.map (ff a)).foldl (λx c=>min (x+c) k) z:=λz j=>by
  refine foldl_map' (ff a) (λx c=>min (x+c) k) (qK k a) (λc=>c<=k) (λc p f=>?_) (λc p f=>?_) _ _ j
  .unfold qK ff;split
   .rfl
   .omega
  .unfold qK;split
   .omega
   .exact f
 unfold gA;split
 .rw[h1,wW _ _ e.zero.2 (ts e),h _ Ω,wW _ _ Ω (qZ e)];have:=qX _ (qZ (a:=a) e);omega
 .rfl
theorem tt{α β:Type}:∀{l:List α}{m:List β}{i:Nat}{x:α}{y:β},m[i]?=σ y->(l.set i x).zip m=(l.zip m).set i (x,y)
 |[],_,_,_,_,_=>Ξ
 |_::_,[],_,_,_,h=>by simp at h
 |a::l,b::m,0,x,y,h=>by simp at h;subst h;rfl
 |a::l,b::m,i+1,x,y,h=>by
  rw[List.set_cons_succ,List.zip_cons_cons,List.zip_cons_cons,List.set_cons_succ,tt (by simpa using h)]
theorem tu{α:Type}{q:α->Bool}:∀{l:List α}{i:Nat}{x y:α},l[i]?=σ x->q y=q x->(l.set i y).all q=l.all q
 |[],_,_,_,h,_=>by simp at h
 |a::l,0,x,y,h,e=>by simp at h;subst h;rw[List.set_cons_zero,List.all_cons,List.all_cons,e]
 |a::l,i+1,x,y,h,e=>by rw[List.set_cons_succ,List.all_cons,List.all_cons,tu (by simpa using h) e]
def eH(s:am)(u:Nat)(x:bq)(un:Λ):am:={s with vars:=s.vars.set u {x with un:=un}}
def dN(s:am)(j:Nat)(f:cL)(cs:Λ):am:={s with funs:=s.funs.set j {f with cs:=cs}}
theorem wY{u:Nat}{x:bq}{un:Λ}(a:bh k sizes s)(e:s.vars[u]?=σ x)(f:un.length=x.un.length)(h:∀c∈un,0<=c/\c<=k):bh k sizes (eH s u x un):=by
 have j:=(x4.1 e).1;have p:=a.vars;have h1:=a.var u x _ e (x6 Ω);exact a.tn e f h h1.2.2
theorem DI{f:cL}{cs:Λ}(a:bh k sizes s)(e:s.funs[j]?=σ f)(h:cs.length=f.cs.length)(p:∀c∈cs,0<=c/\c<=k):bh k sizes (dN s j f cs):=a.Dv e rfl rfl h p
theorem OH{u:Nat}{x:bq}{f:cL}{un cs:Λ}{bb:Int}(e:bh k sizes s)(w:s.vars[u]?=σ x)(p:s.funs[j]?=σ f)(z:un.length=x.un.length)(A:∀c∈un,0<=c/\c<=k)(B:cs.length=f.cs.length)(C:∀c∈cs,0<=c/\c<=k)(y:a[u]?=σ bb)(h:(s.vars.zip a).all iq=true->∀r,0<=r->min (r+ff a {f with cs:=cs}+dv ({x with un:=un},bb)) k=min (r+ff a f+dv (x,bb)) k):gA k (eH (dN s j f cs) u x un) a=gA k s a:=by
 have E:=DI e p B C;have F:bh k sizes (eH (dN s j f cs) u x un):=wY E w z A;rw[ob F,ob e];have q:(s.vars.zip a)[u]?=σ (x,bb):=List.getElem?_zip_eq_some.2 ⟨w,y⟩;have G:((eH (dN s j f cs) u x un).vars.zip a)=(s.vars.zip a).set u ({x with un:=un},bb):=tt y;have H:((s.vars.zip a).set u ({x with un:=un},bb)).all iq=(s.vars.zip a).all iq:=tu q rfl;rw[G,H];split
 .rename_i I;have J:(((s.vars.zip a).set u ({x with un:=un},bb)).map dv).sum=((s.vars.zip a).map dv).sum-dv (x,bb)+dv ({x with un:=un},bb):=by
   rw[U6];exact wX (by rw[x8,q];rfl)
  have K:((eH (dN s j f cs) u x un).funs.map (ff a)).sum=(s.funs.map (ff a)).sum-ff a f+ff a {f with cs:=cs}:=by
   show((s.funs.set j {f with cs:=cs}).map (ff a)).sum=_;rw[U6];exact wX (by rw[x8,p];rfl)
  have h1:=qY (ts (a:=a) e) (i:=u) (x:=dv (x,bb)) (by rw[x8,q];rfl);have L:=qY (qZ (a:=a) e) (i:=j) (x:=ff a f) (by rw[x8,p];rfl);have M:=e.zero.1;have N:=h I (s.zero+(((s.vars.zip a).map dv).sum-dv (x,bb))+((s.funs.map (ff a)).sum-ff a f)) Ω;rw[J,K];show min (s.zero+_+_) k=_;omega
 .rfl
end
theorem wZ{s:am}{pos:Nat}{v:Int}:∀(sc:Λ)(p q:Nat),(jv s pos v sc p)[q]?=(sc[q]?).map λu=>if p+q=pos then[v]else bB s u
 |[],_,q=>by simp[jv]
 |u::sc,p,0=>by simp[jv]
 |u::sc,p,q+1=>by
  unfold jv;rw[List.getElem?_cons_succ,List.getElem?_cons_succ,wZ sc (p+1) q,show p+1+q=p+(q+1) by omega]
theorem DJ{s:am}{pos:Nat}{v:Int}:∀(sc:Λ)(p:Nat),(jv s pos v sc p).length=sc.length
 |[],_=>rfl
 |u::sc,p=>by unfold jv;rw[c9,DJ sc (p+1),c9]
theorem w1{s:am}{sc:Λ}:t∈ce s sc pos v↔t.length=sc.length/\∀(p:Nat)u w,sc[p]?=σ u->t[p]?=σ w->if p=pos then w=v else w∈bB s u:=by
 unfold ce;rw[tp,DJ];refine and_congr_right λ_=>⟨λh p u w hu hw=>?_,λh p d w a hw=>?_⟩
 .have:w∈if 0+p=pos then[v]else bB s u:=h p _ w (by rw[wZ,hu];rfl) hw;rw[X6]at this;split
  .rename_i e;rw[if_pos e]at this;exact l7.1 this
  .rename_i e;rw[if_neg e]at this;exact this
 .rw[wZ]at a;cases hu:sc[p]? with
  |none=>rw[hu]at a;cases a
  |some u=>
   rw[hu]at a;have a:(if 0+p=pos then[v]else bB s u)=d:=Z2 a;subst a;have:=h p u w hu hw;rw[X6];split
   .rename_i e;rw[if_pos e]at this;exact l7.2 this
   .rename_i e;rw[if_neg e]at this;exact this
theorem fb{x:bq}:v∈ay x↔(0<=v/\v<x.un.length)/\dropped x.mask v=false:=by
 unfold ay;rw[S4];refine and_congr ?_ Ξ;have:=tq (k:=(x.un.length:Int)) (v:=v);unfold hL at this;rw[u6]at this;exact this
theorem DK{f:Int->Int}{cs:Λ}(I:dE ag)(q:∀c∈cs,0<=c/\c<=k)(r:∀t∈L,0<=f (bn ag cs t)/\f (bn ag cs t)<=k):∀c∈dz f L ag cs,0<=c/\c<=k:=λc a=>by
 unfold dz at a;obtain⟨p,s,rfl⟩:=l9.1 a;obtain⟨i,hi⟩:=X5.1 s;obtain⟨h1,h⟩:=List.getElem?_zip_eq_some.1 hi;split
 .rename_i w;have j:=r p.1 w;have e:bn ag cs p.1=p.2:=by
   unfold bn;rw[jq I h1];simp only;rw[u6,v8,h];rfl
  rw[e]at j;exact j
 .exact q _ (x5 h)
section
variable{k:Int}{sizes a:Λ}{s:am}
def iY(s:am)(j:Nat)(f:cL)(pos u:Nat)(x:bq)(v:Int)(tup un:Int->Int):am:=
 eH (dN s j f (dz tup (ce s f.sc pos v) f.ag f.cs)) u x (x.un.set v.toNat (un (x.un.getD v.toNat 0)))
theorem ll{f:cL}(e:bh k sizes s)(q:f∈s.funs):dE f.ag/\f.cs.length=(bg f.ag).length:=by
 obtain⟨a,h,_⟩:=e.funs f q;have j:dE f.ag:=by rw[h];exact mI e.eO.2.2 λv p=>⟨(a.scope.1 v p).1,a.vars v p⟩
 refine⟨j,?_⟩;have h1:=a.len;rw[iI j,h];exact h1
theorem DL{u:Nat}{f:cL}{x:bq}{tup un:Int->Int}(a:bh k sizes s)(e:s.funs[j]?=σ f)(h:s.vars[u]?=σ x)(p:∀t∈ce s f.sc pos v,0<=tup (bn f.ag f.cs t)/\tup (bn f.ag f.cs t)<=k)(q:0<=un (x.un.getD v.toNat 0)/\un (x.un.getD v.toNat 0)<=k):bh k sizes (iY s j f pos u x v tup un):=by
 obtain⟨r,y⟩:=ll a (x5 e);have w:=(a.funs f (x5 e)).1;have z:=(x4.1 h).1;have A:=a.vars;have h1:=a.var u x _ h (x6 Ω);exact wY (DI a e (n8 _ _ _ _ Ω) (DK r w.im p)) h (by rw[Z6]) (qV h1.2.1 q)
theorem DM{u:Nat}{f:cL}{x:bq}{tup un:Int->Int}(p:bh k sizes s)(Q:jt s a)(G:s.funs[j]?=σ f)(R:f.live≠0)(hu:f.sc[pos]?=σ (u:Int))(B:s.vars[u]?=σ x)(Y:v∈ay x)(S:∀w∈f.sc,∀y,s.vars[w.toNat]?=σ y->y.gone=0)(Z:∀t∈ce s f.sc pos v,0<=tup (bn f.ag f.cs t)/\tup (bn f.ag f.cs t)<=k)(aa:0<=un (x.un.getD v.toNat 0)/\un (x.un.getD v.toNat 0)<=k)(ab:∀t∈ce s f.sc pos v,∀r,0<=r->min (r+tup (bn f.ag f.cs t)+un (x.un.getD v.toNat 0)) k=min (r+bn f.ag f.cs t+x.un.getD v.toNat 0) k):
  gA k (iY s j f pos u x v tup un) a=gA k s a:=by
 obtain⟨H,ac⟩:=ll p (x5 G);obtain⟨I,T,_⟩:=p.funs f (x5 G);have au:=(x4.1 B).1;have av:=p.vars;have h1:=p.var u x _ B (x6 Ω);have aw:=Q.1;obtain⟨bb,U⟩:=aF (l:=a) (i:=u) Ω;refine OH p B G (by rw[Z6]) (qV h1.2.1 aa) (n8 _ _ _ _ Ω) (DK H I.im Z) U λad r ae=>?_;have V:x.gone=0:=S u (x5 hu) x (by rw[u6];exact B);obtain⟨tl,C⟩:∃tl,tl=qI a f.sc:=⟨_,rfl⟩;have J:∀(q:Nat)w,f.sc[q]?=σ w->∃y,s.vars[w.toNat]?=σ y/\tl[q]?=σ (a.getD w.toNat 0)/\a.getD w.toNat 0∈ay y/\f.ag[q]?=σ (y.un.length:Int):=λq w hw=>by
  have hm:=x5 hw;have ax:=(I.scope.1 w hm).1;have az:=I.vars w hm;obtain⟨y,h⟩:=aF (l:=s.vars) (i:=w.toNat) Ω;obtain⟨z,K⟩:=aF (l:=sizes) (i:=w.toNat) Ω;obtain⟨L,M⟩:=aF (l:=a) (i:=w.toNat) Ω;have af:=S w hm y h;have aA:=(p.var _ y z h K).1;have aB:=p.eO.2.2 z (x5 K);have e:a.getD w.toNat 0=L:=by rw[v8,M];rfl
  have W:=List.all_eq_true.1 ad (y,L) (x5 (List.getElem?_zip_eq_some.2 ⟨h,M⟩));have ah:=(Q.2 _ y L h M).resolve_left Ω;refine⟨y,h,by rw[C];unfold qI;rw[x8,hw];rfl,?_,?_⟩
  .rw[e,fb];refine⟨ah,?_⟩;unfold iq at W;simpa[af]using W
  .rw[T];unfold bV;rw[x8,hw,Z7,v8,K,V8];congr 1;omega
 have ai:tl.length=f.sc.length:=by rw[C];unfold qI;rw[u9]
 have aC:f.ag.length=f.sc.length:=by rw[T];unfold bV;rw[u9]
 obtain⟨m,hm⟩:∃m,cB f.ag tl 0=σ m:=by
  have:tl∈bg f.ag:=by
   rw[wR,tp];refine⟨by rw[u9];omega,λq d w X hw=>?_⟩;obtain⟨b,A⟩:=aF (l:=f.sc) (i:=q) (by have:=(x4.1 hw).1;omega);obtain⟨y,_,N,O,aj⟩:=J q b A;rw[x8,aj]at X;cases X;rw[N]at hw;cases hw;exact tq.2 (fb.1 O).1
  obtain⟨i,hi⟩:=X5.1 this;exact⟨_,jq H hi⟩
 have ak:ff a f=bn f.ag f.cs tl:=by unfold ff;rw[if_pos R,C]
 have al:ff a {f with cs:=dz tup (ce s f.sc pos v) f.ag f.cs}=if tl∈ce s f.sc pos v then tup (bn f.ag f.cs tl)else bn f.ag f.cs tl:=by
  rw[<-DH H ac hm,C];unfold ff;rw[if_pos R]
 have am:dv (x,bb)=x.un.getD bb.toNat 0:=by unfold dv;rw[if_neg (by simp[V])]
 have an:dv ({x with un:=x.un.set v.toNat (un (x.un.getD v.toNat 0))},bb)=(x.un.set v.toNat (un (x.un.getD v.toNat 0))).getD bb.toNat 0:=by unfold dv;rw[if_neg (by simp[V])]
 obtain⟨y,h,E,P,_⟩:=J pos _ hu;rw[u6]at h E P;rw[B]at h;cases h;have ao:a.getD u 0=bb:=by rw[v8,U];rfl
 rw[ao]at E P;have aD:=(fb.1 Y).1;have aE:=(fb.1 P).1;rw[ak,al,am,an];by_cases he:bb=v
 .subst he;have F:tl∈ce s f.sc pos bb:=w1.2 ⟨ai,λq w b hw A=>by
   obtain⟨aG,ap,N,O,_⟩:=J q w hw;split
   .rename_i aq;subst aq;rw[E]at A;exact(Z2 A).symm
   .rw[N]at A;cases A;unfold bB;rw[ap];exact O⟩
  rw[if_pos F,v8 (l:=x.un.set _ _),Z0 Ω,V8];exact ab tl F r ae
 .have F:tl∉ce s f.sc pos v:=λhm=>by
   have:=(w1.1 hm).2 pos _ bb hu E;rw[if_pos rfl]at this;exact he this
  rw[if_neg F,v8 (l:=x.un.set _ _),Y8 Ω,<-v8]
end
def dV(g:Int->Int)(un L:Λ):Λ:=L.foldl (λun v=>un.set v.toNat (g (un.getD v.toNat 0))) un
theorem q0{g:Int->Int}:∀(L un:Λ),(dV g un L).length=un.length
 |[],_=>rfl
 |v::L,un=>by
  unfold dV;rw[T9];have:=q0 (g:=g) L (un.set v.toNat (g (un.getD v.toNat 0)));unfold dV at this;rw[this,Z6]
theorem tv{g:Int->Int}:∀(L un:Λ)(w:Int),L.Nodup->(∀v∈L,0<=v/\v<un.length)->0<=w->(dV g un L).getD w.toNat 0=if w∈L then g (un.getD w.toNat 0)else un.getD w.toNat 0
 |[],un,w,_,_,_=>by simp[dV]
 |v::L,un,w,j,a,hw=>by
  obtain⟨h1,p⟩:=List.nodup_cons.1 j;have r:=a v (.head _);have q:=tv (g:=g) L (un.set v.toNat (g (un.getD v.toNat 0))) w p (λu hu=>by rw[Z6];exact a u (.tail _ hu)) hw;have e:dV g un (v::L)=dV g (un.set v.toNat (g (un.getD v.toNat 0))) L:=rfl;rw[e,q];by_cases f:w=v
  .subst f;have I:(un.set w.toNat (g (un.getD w.toNat 0))).getD w.toNat 0=g (un.getD w.toNat 0):=by
    rw[v8 (l:=un.set _ _),Z0 Ω];rfl
   rw[if_neg h1,if_pos (.head _),I]
  .have I:(un.set v.toNat (g (un.getD v.toNat 0))).getD w.toNat 0=un.getD w.toNat 0:=by
    rw[v8 (l:=un.set _ _),Y8 Ω,<-v8]
   rw[I];by_cases hm:w∈L
   .rw[if_pos hm,if_pos (.tail _ hm)]
   .rw[if_neg hm,if_neg λh=>(V3.1 h).elim f hm]
theorem q1(x:bq):(ay x).Nodup:=by
 unfold ay;refine List.Nodup.sublist List.filter_sublist ?_;exact List.Pairwise.map _ (λa b e=>Ω) List.nodup_range
theorem DN{k:Int}{g:Int->Int}:∀(L un:Λ),(∀c∈un,0<=c/\c<=k)->L.Nodup->(∀v∈L,0<=v/\v<un.length)->(∀v∈L,0<=g (un.getD v.toNat 0)/\g (un.getD v.toNat 0)<=k)->∀c∈dV g un L,0<=c/\c<=k
 |[],un,h,_,_,_,c,a=>h c a
 |v::L,un,h,p,f,j,c,a=>by
  obtain⟨h1,q⟩:=List.nodup_cons.1 p;have r:=f v (.head _);refine DN (g:=g) L (un.set v.toNat (g (un.getD v.toNat 0))) (qV h (j v (.head _))) q (λu hu=>by rw[Z6];exact f u (.tail _ hu)) (λu hu=>?_) c a;have s:u≠v:=λe=>h1 (e▸hu);have w:=f u (.tail _ hu);rw[v8 (l:=un.set _ _),Y8 Ω,<-v8];exact j u (.tail _ hu)
section
variable{k:Int}{sizes a:Λ}{s:am}
def hl(s:am)(u:Nat)(x:bq)(g z:Int->Int):am:={eH s u x (dV g x.un (ay x))with zero:=z s.zero}
theorem bh.OI(a:bh k sizes s)(h:0<=c/\c<=k):bh k sizes {s with zero:=c}:=⟨a.fI,a.eO,h,a.vars,a.var,a.funs⟩
theorem w2{u:Nat}{x:bq}{g z:Int->Int}(a:bh k sizes s)(e:s.vars[u]?=σ x)(f:∀v∈ay x,0<=g (x.un.getD v.toNat 0)/\g (x.un.getD v.toNat 0)<=k)(h:0<=z s.zero/\z s.zero<=k):bh k sizes (hl s u x g z):=by
 have p:=(x4.1 e).1;have q:=a.vars;have h1:=a.var u x _ e (x6 Ω);exact(wY a e (q0 _ _) (DN _ _ h1.2.1 (q1 x) (λv j=>(fb.1 j).1) f)).OI h
theorem DO{u:Nat}{x:bq}{g z:Int->Int}(e:bh k sizes s)(q:jt s a)(f:s.vars[u]?=σ x)(j:x.gone=0)(C:∀v∈ay x,0<=g (x.un.getD v.toNat 0)/\g (x.un.getD v.toNat 0)<=k)(E:0<=z s.zero/\z s.zero<=k)(F:∀v∈ay x,∀r,0<=r->min (r+g (x.un.getD v.toNat 0)+z s.zero) k=min (r+x.un.getD v.toNat 0+s.zero) k):gA k (hl s u x g z) a=gA k s a:=by
 have G:=w2 e f C E;have O:=(x4.1 f).1;have P:=e.vars;have Q:=q.1;obtain⟨bb,p⟩:=aF (l:=a) (i:=u) Ω;rw[ob G,ob e];have h:(s.vars.zip a)[u]?=σ (x,bb):=List.getElem?_zip_eq_some.2 ⟨f,p⟩;obtain⟨un,w⟩:∃un,un=dV g x.un (ay x):=⟨_,rfl⟩;have H:((hl s u x g z).vars.zip a)=(s.vars.zip a).set u ({x with un:=un},bb):=by rw[w];exact tt p
 have I:((s.vars.zip a).set u ({x with un:=un},bb)).all iq=(s.vars.zip a).all iq:=tu h rfl;rw[H,I];split
 .rename_i J;have K:(((s.vars.zip a).set u ({x with un:=un},bb)).map dv).sum=((s.vars.zip a).map dv).sum-dv (x,bb)+dv ({x with un:=un},bb):=by
   rw[U6];exact wX (by rw[x8,h];rfl)
  have h1:=qY (ts (a:=a) e) (i:=u) (x:=dv (x,bb)) (by rw[x8,h];rfl);have R:=qX _ (qZ (a:=a) e);have y:=List.all_eq_true.1 J (x,bb) (x5 h);have A:=(q.2 _ x bb f p).resolve_left Ω;have B:bb∈ay x:=by
   rw[fb];refine⟨A,?_⟩;unfold iq at y;simpa[j]using y
  have L:dv (x,bb)=x.un.getD bb.toNat 0:=by unfold dv;rw[if_neg (by simp[j])]
  have M:dv ({x with un:=un},bb)=g (x.un.getD bb.toNat 0):=by
   unfold dv;rw[if_neg (by simp[j])];show un.getD bb.toNat 0=_;rw[w,tv _ _ _ (q1 x) (λv N=>(fb.1 N).1) A.1,if_pos B]
  rw[K,M];rw[L]at h1 ⊢;have S:=F bb B (((s.vars.zip a).map dv).sum-x.un.getD bb.toNat 0+(s.funs.map (ff a)).sum) Ω;show min (z s.zero+_+(s.funs.map (ff a)).sum) k=_;omega
 .rfl
theorem w3{m:Nat}{w:Int}(a:0<=v)(hw:0<=w):dropped ((m ||| 2 ^ v.toNat:Nat):Int) w=(dropped (m:Int) w||decide (w=v)):=by
 unfold dropped;rw[u6,u6,Nat.testBit_or,Nat.testBit_two_pow];congr 1;exact decide_eq_decide.2 ⟨λh=>Ω,λh=>Ω⟩
theorem jw{i:Nat}{x:bq}(a:s.vars[i]?=σ x):dH s i v.toNat={s with vars:=s.vars.set i {x with mask:=((x.mask.toNat ||| 2 ^ v.toNat:Nat):Int)}}:=by
 unfold dH;rw[a]
theorem w4{i:Nat}{x:bq}(a:bh k sizes s)(e:s.vars[i]?=σ x)(j:0<=v/\v<x.un.length):bh k sizes (dH s i v.toNat):=by
 rw[jw e];have p:=(x4.1 e).1;have q:=a.vars;have h1:=a.var i x _ e (x6 Ω);have r:=a.eO.2.2 _ (S9 (l:=sizes) (n:=i) Ω);refine a.tn e rfl h1.2.1 ⟨by simp only;omega,?_⟩;have f:x.mask.toNat<2 ^ 32:=by have:=h1.2.2;omega
 have h:2 ^ v.toNat<2 ^ 32:=Nat.pow_lt_pow_right Ω Ω;have:=Nat.or_lt_two_pow f h;simp only;omega
theorem DP{i:Nat}{bb:Int}{x:bq}(j:bh k sizes s)(C:jt s a)(f:s.vars[i]?=σ x)(E:x.gone=0)(z:0<=v/\v<x.un.length)(p:a[i]?=σ bb):gA k (dH s i v.toNat) a=if bb=v then k else gA k s a:=by
 have F:=w4 j f z;rw[ob F,ob j];have r:(s.vars.zip a)[i]?=σ (x,bb):=List.getElem?_zip_eq_some.2 ⟨f,p⟩;have G:=(C.2 _ x bb f p).resolve_left Ω;obtain⟨y,w⟩:∃y:bq,y={x with mask:=((x.mask.toNat ||| 2 ^ v.toNat:Nat):Int)}:=⟨_,rfl⟩;have H:((dH s i v.toNat).vars.zip a)=(s.vars.zip a).set i (y,bb):=by rw[jw f,w];exact tt p
 have A:(dH s i v.toNat).zero=s.zero/\(dH s i v.toNat).funs=s.funs:=by rw[jw f];exact⟨rfl,rfl⟩
 have B:iq (y,bb)=(iq (x,bb)&&decide (bb≠v)):=by
  unfold iq;rw[w];simp only[E];rw[w3 z.1 G.1];have hm:((x.mask.toNat:Nat):Int)=x.mask:=by
   have N:=(x4.1 f).1;have O:=j.vars;have h1:=j.var i x _ f (x6 Ω);omega
  rw[hm];by_cases e:bb=v
  .simp[e]
  .simp[e]
 rw[H,A.1,A.2];by_cases e:bb=v
 .rw[if_pos e,if_neg];intro I;have:=List.all_eq_true.1 I (y,bb) (x5 (Z0 (x4.1 r).1));rw[B]at this;simp[e]at this
 .have J:((s.vars.zip a).set i (y,bb)).all iq=(s.vars.zip a).all iq:=tu r (by rw[B];simp[e]);have K:((s.vars.zip a).set i (y,bb)).map dv=(s.vars.zip a).map dv:=by
   rw[U6];have L:dv (y,bb)=dv (x,bb):=by rw[w];rfl
   rw[L];refine X2 λq=>?_;rw[X1];split
   .rename_i M;subst M;split
    .rw[x8,r];rfl
    .rename_i h;rw[Y0 Ω]
   .rfl
  rw[if_neg e,J,K]
theorem OJ{i:Nat}{bb:Int}{x:bq}(h:jt s a)(e:s.vars[i]?=σ x)(j:x.gone=0)(f:a[i]?=σ bb)(p:bb∉ay x):gA k s a=k:=by
 have q:=(h.2 _ x bb e f).resolve_left Ω;unfold gA;rw[if_neg];intro r;have:=List.all_eq_true.1 r (x,bb) (x5 (List.getElem?_zip_eq_some.2 ⟨e,f⟩));unfold iq at this;have w:dropped x.mask bb=false:=by simpa[j]using this
 exact p (fb.2 ⟨q,w⟩)
end
end Go.Proofs.YtikkpokkcdocoaaGreatDoor
namespace Go.Vc
open Go Go.RowKit
section
variable{P:W9}{w:x3}{α:Type}[an α]{S R:af}
theorem DQ{k:Nat}{vs:List (List x1)}{i:Nat}{c:List x1}(h:∀x∈vs,x.length=k)(e:c.length=k)(hi:i<vs.length):over vs.flatten (i*k) c=(vs.set i c).flatten:=by
 have:=vD (f:=id) (k:=k) (L:=vs) (i:=i) (a:=c) h e hi;rw[List.flatMap_id,List.flatMap_id]at this;exact this
theorem OK{v:x1}{l:List α}{i:Nat}(h:bD S R w [v] l)(T:i<l.length):∃g cap full p,v= .slice (σ ⟨g,0,ν⟩) l.length cap/\ad w g p full/\S g/\i*an.n α+an.n α<=full.length/\
  ∀{A:af}{cs:List x1}{a:α},bD A R w cs a->(∀r,r<w.heap.size->S r->¬A r/\¬R r)->∀w',ae (λr=>r=g) w w'->ad w' g p (over full (i*an.n α) cs)->bD (λr=>S r\/A r) R w' [v] (l.set i a):=by
 obtain⟨vs,g,F,s,he,I,hm⟩:=jj h;obtain⟨U,p,W⟩:=hm rfl;obtain⟨ah,⟨rfl,ai⟩|⟨cap,full,rfl,E,H,X,J,Y⟩⟩:=id W
 .omega
 have K:vs.length=l.length:=he.1;have Z:(i+1)*an.n α<=l.length*an.n α:=Y4 _ T;have aa:l.length*an.n α<=full.length:=by rw[J];exact Y4 _ H
 rw[U8,Nat.one_mul]at Z;have y:S g:=U.resolve_left Ξ;refine⟨g,cap,full,p,rfl,E,y,Ω,λ{A cs a}L z w' M ab=>?_⟩;have N:=an.len L;have O:¬A g:=(z g E.lt y).1;have P:¬R g:=(z g E.lt y).2;have ac:∀c∈vs.set i cs,c.length=an.n α:=λc x=>by
  rcases W3 x with e|rfl
  .exact he.len c e
  .exact N
 have Q:bW w' g p (an.n α) (.slice (σ ⟨g,0,ν⟩) l.length cap) (l.set i a).length (vs.set i cs).flatten:=by
  refine⟨by rw[ji ac,Z6,Z6,K],.inr ⟨cap,_,by rw[Z6],ab,by rw[Z6];exact H,X,by rw[lQ,J],?_⟩⟩;rw[Z6,sF Ω aa,Y,DQ he.len N Ω]
 refine⟨_,rfl,vs.set i cs,g,λj r=>if j=i then A r/\r<w.heap.size else F j r/\r<w.heap.size,⟨λj r f=>?_,λ_ j f=>?_,λ_ j q r ag h1 e=>?_⟩,⟨by simp[K],λj c a' x B=>?_⟩,?_,λ_=>⟨.inr (.inl y),p,Q⟩⟩
 .split at f
  .exact .inr f.1
  .exact .inl (s.sub j r f.1)
 .split at f
  .exact O f.1
  .exact s.top rfl j f.1
 .split at h1<;>split at e
  .omega
  .exact (z r e.2 (s.sub q r e.1)).1 h1.1
  .exact (z r h1.2 (s.sub j r h1.1)).1 e.1
  .exact s.gI rfl j q r ag h1.1 e.1
 .by_cases C:j=i
  .subst C;rw[Z0 Ω]at x B;cases x;cases B;have G:bD (λr=>if j=j then A r/\r<w.heap.size else F j r/\r<w.heap.size) R w cs a:=an.mono L (λr f h=>by rw[if_pos rfl];exact⟨h,f⟩) λ_ _ h=>h;refine an.V G M λr f h1 e=>?_;have e:r=g:=e;subst e;rcases h1 with h1|h1
   .simp only[if_true]at h1;exact O h1.1
   .exact P h1
  .rw[Y8 (Ne.symm C)]at x B;have G:bD (λr=>if j=i then A r/\r<w.heap.size else F j r/\r<w.heap.size) R w c a':=an.mono (he.2 j c a' x B) (λr f h=>by rw[if_neg C];exact⟨h,f⟩) λ_ _ h=>h;refine an.V G M λr f h1 e=>?_;have e:r=g:=e;subst e;rcases h1 with h1|h1
   .simp only[if_neg C]at h1;exact s.top rfl j h1.1
   .exact P h1
 .have:=oM (S:=λr=>(S r\/A r)\/R r) Q (.inr (.inl (.inl y)));exact this
theorem DR{t:r9}{C:o4}{i b:Nat}{v x:x1}{l:List α}{a:α}{A:af}{K:Unit->x3->Prop}(j:an.n α=1)(E:y=(i:Int))(F:P.underlying t=σ (.slice e))(hi:aO P e 1 b z)(h:bD S R w [v] l)(q:i<l.length)(G:x.cells= #[x])(s:bD A R w [x] a)(H:∀r,r<w.heap.size->S r->¬A r/\¬R r)(I:∀w',ae S w w'->bD (λr=>S r\/A r) R w' [v] (l.set i a)->K () w'):aa P (j5 t v (.int C y)) w λp=>aC P (o6 e p x) w K:=by
 subst E;obtain⟨g,cap,full,Q,rfl,J,L,M,N⟩:=OK h q;rw[j]at M;rw[e3 F hi q λ_=>rfl];refine bk (o:=0+i*1) hi G (an.one s x (.head _)) J Ω λw' B _ O=>I w' (B.mono λr _ f=>by have f:r=g:=f;subst f;exact L) (N s H w' B ?_);rw[j,X6]at*;exact O
end
end Go.Vc
namespace Go.Proofs.YtikkpokkcdocoaaGreatDoor
open Go Go.Vc Go.RowKit Go.Proofs Go.Proofs.Tryz
set_option maxRecDepth 100000
abbrev jx:Type:=(Rd (Λ)×Rd (Λ)×Λ)×Bool
abbrev oc:Type:=Int×Rd (Λ)×Rd (Λ)
def iv(f:cL):jx:=((f.sc,f.ag,f.cs),decide (f.live≠0))
def DS(e:tc):oc:=(e.v,e.sc,e.pi)
def b9(m:Bool)(A:Nat->af)(R:af)(w:x3)(cs:List x1)(k:Int)(sizes:Λ)(zero:Int)(D:List (Λ))(G:List Bool)(aS:List (Λ))(H:List jx)(E:List oc):Prop:=
 ∃szv a e f h p,cs=[Δ k,szv,Δ zero,a,e,f,h,p]/\Seen R w [szv] sizes/\
 an.rep m (A 0) R w [a] D/\an.rep m (A 1) R w [e] G/\an.rep m (A 2) R w [f] aS/\an.rep m (A 3) R w [h] H/\an.rep m (A 4) R w [p] E/\
 (m=true->(∀i j r,i≠j->A i r->¬A j r)/\∀i r,A i r->¬R r)
abbrev iw(m:Bool)(A:Nat->af)(R:af)(w:x3)(cs:List x1)(k:Int)(sizes:Λ)(s:am):Prop:=
 b9 m A R w cs k sizes s.zero (s.vars.map ay) (s.vars.map λx=>decide (x.gone≠0)) (s.vars.map (·.un)) (s.funs.map iv) (s.c5.map DS)
def h6(w:x3)(v:x1)(k:Int)(sizes:Λ)(s:am):Prop:=∃cs,v= .agg cs.toArray/\iw false (λ_ _=>False) fm w cs k sizes s
def ix(A:Nat->af)(i:Nat)(B:af):Nat->af:=λj=>if j=i then B else A j
section
variable{m:Bool}{A:Nat->af}{R:af}{w w':x3}{cs:List x1}{k zero:Int}{sizes:Λ}{D:List (Λ)}{G:List Bool}{aS:List (Λ)}{H:List jx}{E:List oc}{s:am}
theorem b9.len(h:b9 m A R w cs k sizes zero D G aS H E):cs.length=8/\∀u∈cs,u.oneCell'=true:=by
 obtain⟨szv,q,r,s,x,y,rfl,h1,a,e,f,j,p,_⟩:=h;refine⟨rfl,λu hu=>?_⟩;simp only[V3,List.not_mem_nil,or_false]at hu;rcases hu with rfl|rfl|rfl|rfl|rfl|rfl|rfl|rfl
 .rfl
 .exact jk h1
 .rfl
 .exact jk a
 .exact jk e
 .exact jk f
 .exact jk j
 .exact jk p
theorem b9.V{T:af}(h:b9 m A R w cs k sizes zero D G aS H E)(a:ae T w w')(f:∀r,r<w.heap.size->(∃i,A i r)\/R r->¬T r):b9 m A R w' cs k sizes zero D G aS H E:=by
 obtain⟨szv,j,p,q,s,x,rfl,h1,y,z,B,C,F,I⟩:=h;have ao:∀i r,r<w.heap.size->A i r\/R r->¬T r:=λi r e h=>f r e (h.imp (λh=>⟨i,h⟩) id);exact⟨szv,j,p,q,s,x,rfl,an.V h1 a λr e h=>f r e (h.elim False.elim .inr),an.V y a (ao 0),an.V z a (ao 1),an.V B a (ao 2),an.V C a (ao 3),an.V F a (ao 4),I⟩
theorem b9.ext(h:b9 m A R w cs k sizes zero D G aS H E)(a:Ext w w'):b9 m A R w' cs k sizes zero D G aS H E:=h.V (a.V λ_=>False) λ_ _ _ h=>h
theorem iw.w5(h:iw m A R w cs k sizes s):h6 w (.agg cs.toArray) k sizes s:=by
 obtain⟨szv,a,e,f,j,p,rfl,h1,q,r,x,y,z,B⟩:=h;exact⟨_,rfl,szv,a,e,f,j,p,rfl,jM h1,jM q,jM r,jM x,jM y,jM z,λh=>by cases h⟩
theorem b9.old(h:b9 true A R w cs k sizes zero D G aS H E):b9 true (λi r=>A i r/\r<w.heap.size) R w cs k sizes zero D G aS H E:=by
 obtain⟨szv,f,p,q,s,x,rfl,h1,a,y,z,B,C,e⟩:=h;obtain⟨e,F⟩:=e rfl;have hm:∀i r,r<w.heap.size->A i r->A i r/\r<w.heap.size:=λi r I h=>⟨h,I⟩;exact⟨szv,f,p,q,s,x,rfl,h1,an.mono a (hm 0) λ_ _ h=>h,an.mono y (hm 1) λ_ _ h=>h,an.mono z (hm 2) λ_ _ h=>h,an.mono B (hm 3) λ_ _ h=>h,an.mono C (hm 4) λ_ _ h=>h,
  λ_=>⟨λi j r J h1 a=>e i j r J h1.1 a.1,λi r h=>F i r h.1⟩⟩
theorem tw{i:Nat}{B:af}(h:∀i j r,i≠j->A i r->¬A j r)(e:∀j r,j≠i->B r->¬A j r):∀p q r,p≠q->ix A i B p r->¬ix A i B q r:=λp q r f h1 a=>by
 unfold ix at h1 a;split at h1<;>split at a
 .omega
 .exact e q r (by assumption) h1 a
 .exact e p r (by assumption) a h1
 .exact h p q r f h1 a
theorem tx{i:Nat}{B:af}(h:∀i r,A i r->¬R r)(a:∀r,B r->¬R r):∀p r,ix A i B p r->¬R r:=λp r h1=>by
 unfold ix at h1;split at h1
 .exact a r h1
 .exact h p r h1
theorem b9.DT{B:af}{x:x1}{D':List (Λ)}(h:b9 true A R w cs k sizes zero D G aS H E){T:af}(e:ae T w w')(p:∀r,T r->A 0 r\/(∀j,¬A j r)/\¬R r)(y:bD B R w' [x] D')(z:∀j r,j≠0->B r->¬A j r)(C:∀r,B r->¬R r):b9 true (ix A 0 B) R w' (cs.set 3 x) k sizes zero D' G aS H E:=by
 obtain⟨szv,Q,F,I,J,K,rfl,h1,a,L,M,N,O,f⟩:=h;obtain⟨f,q⟩:=f rfl;have s:∀r,R r->¬T r:=λr h a=>(p r a).elim (λa=>q 0 r a h) λa=>a.2 h;have ao:∀j r,j≠0->r<w.heap.size->A j r\/R r->¬T r:=λj r P _ h a=>h.elim (λh=>(p r a).elim (λa=>f j 0 r P h a) λa=>a.1 j h) λh=>s r h a;refine⟨szv,x,F,I,J,K,rfl,an.V h1 e λr _ h=>h.elim False.elim (s r),?_,?_,?_,?_,?_,λ_=>⟨tw f z,tx q C⟩⟩
 .exact y
 .exact an.V L e λr=>ao 1 r Ω
 .exact an.V M e λr=>ao 2 r Ω
 .exact an.V N e λr=>ao 3 r Ω
 .exact an.V O e λr=>ao 4 r Ω
theorem b9.OL{B:af}{x:x1}{p:List Bool}(h:b9 true A R w cs k sizes zero D G aS H E){T:af}(e:ae T w w')(q:∀r,T r->A 1 r\/(∀j,¬A j r)/\¬R r)(z:bD B R w' [x] p)(C:∀j r,j≠1->B r->¬A j r)(F:∀r,B r->¬R r):b9 true (ix A 1 B) R w' (cs.set 4 x) k sizes zero D p aS H E:=by
 obtain⟨szv,I,Q,J,K,L,rfl,h1,a,S,M,N,O,f⟩:=h;obtain⟨f,s⟩:=f rfl;have y:∀r,R r->¬T r:=λr h a=>(q r a).elim (λa=>s 1 r a h) λa=>a.2 h;have ao:∀j r,j≠1->r<w.heap.size->A j r\/R r->¬T r:=λj r P _ h a=>h.elim (λh=>(q r a).elim (λa=>f j 1 r P h a) λa=>a.1 j h) λh=>y r h a;refine⟨szv,I,x,J,K,L,rfl,an.V h1 e λr _ h=>h.elim False.elim (y r),?_,?_,?_,?_,?_,λ_=>⟨tw f C,tx s F⟩⟩
 .exact an.V a e λr=>ao 0 r Ω
 .exact z
 .exact an.V M e λr=>ao 2 r Ω
 .exact an.V N e λr=>ao 3 r Ω
 .exact an.V O e λr=>ao 4 r Ω
theorem b9.kD{B:af}{x:x1}{p:List (Λ)}(h:b9 true A R w cs k sizes zero D G aS H E){T:af}(e:ae T w w')(q:∀r,T r->A 2 r\/(∀j,¬A j r)/\¬R r)(z:bD B R w' [x] p)(C:∀j r,j≠2->B r->¬A j r)(F:∀r,B r->¬R r):b9 true (ix A 2 B) R w' (cs.set 5 x) k sizes zero D G p H E:=by
 obtain⟨szv,I,J,Q,K,L,rfl,h1,a,M,S,N,O,f⟩:=h;obtain⟨f,s⟩:=f rfl;have y:∀r,R r->¬T r:=λr h a=>(q r a).elim (λa=>s 2 r a h) λa=>a.2 h;have ao:∀j r,j≠2->r<w.heap.size->A j r\/R r->¬T r:=λj r P _ h a=>h.elim (λh=>(q r a).elim (λa=>f j 2 r P h a) λa=>a.1 j h) λh=>y r h a;refine⟨szv,I,J,x,K,L,rfl,an.V h1 e λr _ h=>h.elim False.elim (y r),?_,?_,?_,?_,?_,λ_=>⟨tw f C,tx s F⟩⟩
 .exact an.V a e λr=>ao 0 r Ω
 .exact an.V M e λr=>ao 1 r Ω
 .exact z
 .exact an.V N e λr=>ao 3 r Ω
 .exact an.V O e λr=>ao 4 r Ω
theorem b9.kE{B:af}{x:x1}{p:List jx}(h:b9 true A R w cs k sizes zero D G aS H E){T:af}(e:ae T w w')(q:∀r,T r->A 3 r\/(∀j,¬A j r)/\¬R r)(z:bD B R w' [x] p)(C:∀j r,j≠3->B r->¬A j r)(F:∀r,B r->¬R r):b9 true (ix A 3 B) R w' (cs.set 6 x) k sizes zero D G aS p E:=by
 obtain⟨szv,I,J,K,Q,L,rfl,h1,a,M,N,S,O,f⟩:=h;obtain⟨f,s⟩:=f rfl;have y:∀r,R r->¬T r:=λr h a=>(q r a).elim (λa=>s 3 r a h) λa=>a.2 h;have ao:∀j r,j≠3->r<w.heap.size->A j r\/R r->¬T r:=λj r P _ h a=>h.elim (λh=>(q r a).elim (λa=>f j 3 r P h a) λa=>a.1 j h) λh=>y r h a;refine⟨szv,I,J,K,x,L,rfl,an.V h1 e λr _ h=>h.elim False.elim (y r),?_,?_,?_,?_,?_,λ_=>⟨tw f C,tx s F⟩⟩
 .exact an.V a e λr=>ao 0 r Ω
 .exact an.V M e λr=>ao 1 r Ω
 .exact an.V N e λr=>ao 2 r Ω
 .exact z
 .exact an.V O e λr=>ao 4 r Ω
theorem b9.OM{z:Int}(h:b9 m A R w cs k sizes zero D G aS H E):b9 m A R w (cs.set 2 (Δ z)) k sizes z D G aS H E:=by
 obtain⟨szv,a,e,f,j,p,rfl,h1,q,r,s,x,y,B⟩:=h;exact⟨szv,a,e,f,j,p,rfl,h1,q,r,s,x,y,B⟩
end
theorem tz{α:Type}[an α]{st t J:r9}{pl:List (Nat×Nat)}{gs c q b L:Nat}{M y v:x1}{box:List x1}{S A R:af}{l:List α}{a:α}{K:x3->Prop}(N:bE x7 st pl)(O:pl[c]?=σ (c,q+1))(P:x7.underlying t=σ (.slice e))(Q:aO x7 t 1 L M)(hi:aO x7 e (an.n α) b z)(T:z.cells.size=an.n α)(C:ad w gs st box)(W:box[c]?=σ v)(h:bD S R w [v] l)(I:cc w (an.n α) y 1 cs)(X:bD A R w cs a)(Y:∀r,r<w.heap.size->S r->¬A r/\¬R r)(p:¬S gs/\¬A gs/\¬R gs)(ah:(l.length+1)*b<=140737488355328)(ai:l.length+1<=1000000)(Z:∀j w',ae (λr=>S r\/r=gs) w w'->ad w' gs st (box.set c j)->bD (λr=>S r\/A r\/w.heap.size<=r) R w' [j] (l++[a])->K w'):
  aC x7 (Z3 #[t,t] J #[v,y]) w λj U=>aa x7 (u5 st (Γ gs) c) U λab=>aC x7 (o6 t ab j) U λ_ s=>K s:=by
 have ac:=(x4.1 W).1;refine nC (A:=A) P hi T h I X (λr E I f=>?_) Ω Ω λj U x F=>?_
 .have:=Y r E I;exact f.elim this.1 this.2
 have ag:ad U gs st box:=C.V F p.1;rw[aR N O];refine bk (o:=0+c) Q (pV x) (jk x) ag (by rw[X6];exact ac) λs G aj H=>?_;refine Z j s ((F.mono λr _ h=>.inl h).trans (G.mono λr _ h=>.inr h)) (by rw[X6]at H;exact H) (an.V x G λr E f B=>?_);have B:r=gs:=B;subst B;have ak:=C.lt;rcases f with f|f
 .rcases f with f|f|f
  .exact p.1 f
  .exact p.2.1 f
  .omega
 .exact p.2.2 f
section
variable{A:Nat->af}{B R:af}{w:x3}{cs xs:List x1}{gs:Nat}{y v:x1}{k zero:Int}{sizes:Λ}{D:List (Λ)}{G:List Bool}{aS:List (Λ)}{H:List jx}{E:List oc}{K:x3->Prop}
theorem b9.ON{a:Λ}{S:r9}(h:b9 true A R w cs k sizes zero D G aS H E)(J:ad w gs aX cs)(x:cs[3]?=σ v)(f:∀j r,A j r->gs<r)(s:∀r,R r->r<gs)(I:cc w 1 y 1 xs)(V:bD B R w xs a)(q:∀r,r<w.heap.size->B r->(∀j,¬A j r)/\gs<r)(aj:D.length<=1000)(W:∀aE b8 w',ae (λr=>gs<=r) w w'->ad w' gs aX b8->b9 true aE R w' b8 k sizes zero (D++[a]) G aS H E->(∀j r,aE j r->gs<r)->(∀j,j≠3->b8[j]?=cs[j]?)->K w'):
  aC x7 (Z3 #[dn,dn] S #[v,y]) w λL U=>aa x7 (u5 aX (Γ gs) 3) U λX=>aC x7 (o6 dn X L) U λ_ z=>K z:=by
 have M:=h.old;have Y:=J.lt;obtain⟨szv,Z,ak,al,am,N,ab,h1,ac,ao,aq,au,av,C⟩:=id M;obtain⟨C,O⟩:=C rfl;have N:v=Z:=by rw[ab]at x;exact(Z2 x).symm
 subst N;have af:bD (λr=>B r/\r<w.heap.size) R w xs a:=an.mono V (λr e h=>⟨h,e⟩) λ_ _ h=>h;refine tz (pl:=_) (l:=D) aX.p rfl dn.u dn.i ap.i rfl J x ac I af (λr e P=>⟨λag=>(q r e ag.1).1 0 P.1,O 0 r P⟩) ⟨λh=>by have:=f 0 gs h.1;omega,λh=>by have:=(q gs Y h.1).2;omega,λh=>by have:=s gs h;omega⟩ Ω Ω λL z Q ah ai=>?_;refine W _ _ z (Q.mono λr _ h=>h.elim (λh=>by have:=f 0 r h.1;omega) λh=>Ω) ah (M.DT Q (λr e=>?_) ai (λj r F e=>?_) λr e=>?_) (λj r e=>?_) λj F=>?_
 .rcases e with e|rfl
  .exact .inl e
  .exact .inr ⟨λj h=>by have:=f j r h.1;omega,λh=>by have:=s r h;omega⟩
 .rcases e with e|e|e
  .exact C 0 j r (Ne.symm F) e
  .exact λh=>(q r e.2 e.1).1 j h.1
  .exact λh=>by have:=h.2;omega
 .rcases e with e|e|e
  .exact O 0 r e
  .exact λh=>by have:=(q r e.2 e.1).2;have:=s r h;omega
  .exact λh=>by have:=s r h;omega
 .unfold ix at e;split at e
  .rcases e with e|e|e
   .exact f 0 r e.1
   .exact (q r e.2 e.1).2
   .omega
  .exact f j r e.1
 .rw[Y8 (Ne.symm F)]
theorem b9.OO{a:Bool}{S:r9}(h:b9 true A R w cs k sizes zero D G aS H E)(J:ad w gs aX cs)(x:cs[4]?=σ v)(f:∀j r,A j r->gs<r)(s:∀r,R r->r<gs)(I:cc w 1 y 1 xs)(V:bD B R w xs a)(q:∀r,r<w.heap.size->B r->(∀j,¬A j r)/\gs<r)(aj:G.length<=1000)(W:∀aE b8 w',ae (λr=>gs<=r) w w'->ad w' gs aX b8->b9 true aE R w' b8 k sizes zero D (G++[a]) aS H E->(∀j r,aE j r->gs<r)->(∀j,j≠4->b8[j]?=cs[j]?)->K w'):
  aC x7 (Z3 #[jI,jI] S #[v,y]) w λL U=>aa x7 (u5 aX (Γ gs) 4) U λX=>aC x7 (o6 jI X L) U λ_ z=>K z:=by
 have M:=h.old;have Y:=J.lt;obtain⟨szv,ak,Z,al,am,N,ab,h1,ao,ac,ap,aq,au,C⟩:=id M;obtain⟨C,O⟩:=C rfl;have N:v=Z:=by rw[ab]at x;exact(Z2 x).symm
 subst N;have af:bD (λr=>B r/\r<w.heap.size) R w xs a:=an.mono V (λr e h=>⟨h,e⟩) λ_ _ h=>h;refine tz (pl:=_) (l:=G) aX.p rfl jI.u jI.i ek.i rfl J x ac I af (λr e P=>⟨λag=>(q r e ag.1).1 1 P.1,O 1 r P⟩) ⟨λh=>by have:=f 1 gs h.1;omega,λh=>by have:=(q gs Y h.1).2;omega,λh=>by have:=s gs h;omega⟩ Ω Ω λL z Q ah ai=>?_;refine W _ _ z (Q.mono λr _ h=>h.elim (λh=>by have:=f 1 r h.1;omega) λh=>Ω) ah (M.OL Q (λr e=>?_) ai (λj r F e=>?_) λr e=>?_) (λj r e=>?_) λj F=>?_
 .rcases e with e|rfl
  .exact .inl e
  .exact .inr ⟨λj h=>by have:=f j r h.1;omega,λh=>by have:=s r h;omega⟩
 .rcases e with e|e|e
  .exact C 1 j r (Ne.symm F) e
  .exact λh=>(q r e.2 e.1).1 j h.1
  .exact λh=>by have:=h.2;omega
 .rcases e with e|e|e
  .exact O 1 r e
  .exact λh=>by have:=(q r e.2 e.1).2;have:=s r h;omega
  .exact λh=>by have:=s r h;omega
 .unfold ix at e;split at e
  .rcases e with e|e|e
   .exact f 1 r e.1
   .exact (q r e.2 e.1).2
   .omega
  .exact f j r e.1
 .rw[Y8 (Ne.symm F)]
theorem b9.OP{a:Λ}{S:r9}(h:b9 true A R w cs k sizes zero D G aS H E)(J:ad w gs aX cs)(x:cs[5]?=σ v)(f:∀j r,A j r->gs<r)(s:∀r,R r->r<gs)(I:cc w 1 y 1 xs)(V:bD B R w xs a)(q:∀r,r<w.heap.size->B r->(∀j,¬A j r)/\gs<r)(aj:aS.length<=1000)(W:∀aE b8 w',ae (λr=>gs<=r) w w'->ad w' gs aX b8->b9 true aE R w' b8 k sizes zero D G (aS++[a]) H E->(∀j r,aE j r->gs<r)->(∀j,j≠5->b8[j]?=cs[j]?)->K w'):
  aC x7 (Z3 #[ei,ei] S #[v,y]) w λL U=>aa x7 (u5 aX (Γ gs) 5) U λX=>aC x7 (o6 ei X L) U λ_ z=>K z:=by
 have M:=h.old;have Y:=J.lt;obtain⟨szv,ak,al,Z,am,N,ab,h1,ao,ap,ac,aq,av,C⟩:=id M;obtain⟨C,O⟩:=C rfl;have N:v=Z:=by rw[ab]at x;exact(Z2 x).symm
 subst N;have af:bD (λr=>B r/\r<w.heap.size) R w xs a:=an.mono V (λr e h=>⟨h,e⟩) λ_ _ h=>h;refine tz (pl:=_) (l:=aS) aX.p rfl ei.u ei.i au.i rfl J x ac I af (λr e P=>⟨λag=>(q r e ag.1).1 2 P.1,O 2 r P⟩) ⟨λh=>by have:=f 2 gs h.1;omega,λh=>by have:=(q gs Y h.1).2;omega,λh=>by have:=s gs h;omega⟩ Ω Ω λL z Q ah ai=>?_;refine W _ _ z (Q.mono λr _ h=>h.elim (λh=>by have:=f 2 r h.1;omega) λh=>Ω) ah (M.kD Q (λr e=>?_) ai (λj r F e=>?_) λr e=>?_) (λj r e=>?_) λj F=>?_
 .rcases e with e|rfl
  .exact .inl e
  .exact .inr ⟨λj h=>by have:=f j r h.1;omega,λh=>by have:=s r h;omega⟩
 .rcases e with e|e|e
  .exact C 2 j r (Ne.symm F) e
  .exact λh=>(q r e.2 e.1).1 j h.1
  .exact λh=>by have:=h.2;omega
 .rcases e with e|e|e
  .exact O 2 r e
  .exact λh=>by have:=(q r e.2 e.1).2;have:=s r h;omega
  .exact λh=>by have:=s r h;omega
 .unfold ix at e;split at e
  .rcases e with e|e|e
   .exact f 2 r e.1
   .exact (q r e.2 e.1).2
   .omega
  .exact f j r e.1
 .rw[Y8 (Ne.symm F)]
theorem b9.OQ{a:jx}{S:r9}(h:b9 true A R w cs k sizes zero D G aS H E)(J:ad w gs aX cs)(x:cs[6]?=σ v)(f:∀j r,A j r->gs<r)(s:∀r,R r->r<gs)(I:cc w 4 y 1 xs)(V:bD B R w xs a)(q:∀r,r<w.heap.size->B r->(∀j,¬A j r)/\gs<r)(aj:H.length<=1000)(W:∀aE b8 w',ae (λr=>gs<=r) w w'->ad w' gs aX b8->b9 true aE R w' b8 k sizes zero D G aS (H++[a]) E->(∀j r,aE j r->gs<r)->(∀j,j≠6->b8[j]?=cs[j]?)->K w'):
  aC x7 (Z3 #[gh,gh] S #[v,y]) w λL U=>aa x7 (u5 aX (Γ gs) 6) U λX=>aC x7 (o6 gh X L) U λ_ z=>K z:=by
 have M:=h.old;have Y:=J.lt;obtain⟨szv,ak,al,am,Z,N,ab,h1,ao,ap,aq,ac,au,C⟩:=id M;obtain⟨C,O⟩:=C rfl;have N:v=Z:=by rw[ab]at x;exact(Z2 x).symm
 subst N;have af:bD (λr=>B r/\r<w.heap.size) R w xs a:=an.mono V (λr e h=>⟨h,e⟩) λ_ _ h=>h;refine tz (pl:=_) (l:=H) aX.p rfl gh.u gh.i fz.i rfl J x ac I af (λr e P=>⟨λag=>(q r e ag.1).1 3 P.1,O 3 r P⟩) ⟨λh=>by have:=f 3 gs h.1;omega,λh=>by have:=(q gs Y h.1).2;omega,λh=>by have:=s gs h;omega⟩ Ω Ω λL z Q ah ai=>?_;refine W _ _ z (Q.mono λr _ h=>h.elim (λh=>by have:=f 3 r h.1;omega) λh=>Ω) ah (M.kE Q (λr e=>?_) ai (λj r F e=>?_) λr e=>?_) (λj r e=>?_) λj F=>?_
 .rcases e with e|rfl
  .exact .inl e
  .exact .inr ⟨λj h=>by have:=f j r h.1;omega,λh=>by have:=s r h;omega⟩
 .rcases e with e|e|e
  .exact C 3 j r (Ne.symm F) e
  .exact λh=>(q r e.2 e.1).1 j h.1
  .exact λh=>by have:=h.2;omega
 .rcases e with e|e|e
  .exact O 3 r e
  .exact λh=>by have:=(q r e.2 e.1).2;have:=s r h;omega
  .exact λh=>by have:=s r h;omega
 .unfold ix at e;split at e
  .rcases e with e|e|e
   .exact f 3 r e.1
   .exact (q r e.2 e.1).2
   .omega
  .exact f j r e.1
 .rw[Y8 (Ne.symm F)]
end
theorem mS{R:af}{v:x1}{g:Nat}(h:aq .i64 e w g v l):bD (λr=>leads v r) R w [v] l:=by
 have h1:=nD (R:=R) h;by_cases f:v= .slice ν 0 0
 .subst f;have:l=[]:=by
   obtain⟨j,⟨_,a⟩|⟨_,_,a,_⟩⟩:=h
   .exact j4 a
   .cases a
  subst this;exact hA
 .obtain⟨j,⟨a,_⟩|⟨cap,cs,a,_⟩⟩:=id h
  .exact absurd a f
  .refine an.mono h1 (λr _ p=>?_) λ_ _ h=>h;rw[a];exact⟨_,_,_,rfl,p.symm⟩
theorem w6{R:af}{v:x1}{g:Nat}(e:∀r c,B<=r->ad w r ah c->R r)(h:aq .i64 ah w g v l)(f:∀r,leads v r->B<=r):Seen R w [v] l:=pU (mS (R:=λ_=>False) h) λr p a=>by
 rcases a with a|a
 .obtain⟨c,j⟩:=qR h r a;exact e r c (f r a) j
 .exact a.elim
theorem OR{R:af}{zero:Int}(h:Seen R w [szv] sizes):b9 true (λ_ _=>False) R w [Δ k,szv,Δ zero,.slice ν 0 0,.slice ν 0 0,.slice ν 0 0,.slice ν 0 0,.slice ν 0 0] k sizes zero [] [] [] [] []:=
 ⟨_,_,_,_,_,_,rfl,h,hA,hA,hA,hA,hA,λ_=>⟨λ_ _ _ _ h=>h.elim,λ_ _ h=>h.elim⟩⟩
theorem b9.at{m:Bool}{A:Nat->af}{R:af}{zero:Int}{D:List (Λ)}{G:List Bool}{aS:List (Λ)}{H:List jx}{E:List oc}(h:b9 m A R w cs k sizes zero D G aS H E)(c:Nat)(a:c<8):∃v,cs[c]?=σ v:=⟨_,x6 (by rw[h.len.1];exact a)⟩
def OS(R:af)(w:x3)(e gt gs:Nat)(n:aI)(f:List x1)(i j:Nat)(a:x3):Prop:=Ext w a/\ad a e dB f/\ad a gt aX z12/\∃A cs,ad a gs aX cs/\(∀q r,A q r->gs<r)/\
 b9 true A R a cs n.k n.sizes n.zero ((n.unary.take i).map λu=>ay (newVar u)) (p9 i false) (n.unary.take i) ((n.funs.take j).map λg=>iv (ky n.sizes g)) []
theorem DU{bE:x1}{n:aI}{R:af}(ax:∀r,R r->r<w.heap.size)(a2:∀r c,B<=r->ad w r ah c->R r)(cz:wE w B bE n)(ac:jV n)(dY:n.funs.length<=256):ai x7 Gg [bE] w λv w'=>Ext w w'/\∃A cs,v= .agg cs.toArray/\iw true A R w' cs n.k n.sizes (dq n)/\∀q r,A q r->w.heap.size<=r:=by
 have dZ:=ac.sizes.2.1;have cA:=ac.kx;refine az func63 ?_;refine bj λg1 J ea a7 cB=>?_;obtain⟨szv,gz,cC,eb,bF,cD,ec,a8,aA,aC,cE,bG,ba,cF,bI,cG,bJ⟩:=Od cz cB;refine bz aX.i λgt U ed aD aE=>?_;have aE:ad U gt aX z12:=aE;have bb:=aA.ext aD;rw[aL dB.p 0 bb rfl,aL dB.p 1 bb rfl,aL dB.p 2 bb rfl,
  dh (cs:=#[Δ n.k,szv,Δ n.zero,.slice ν 0 0,.slice ν 0 0,.slice ν 0 0,.slice ν 0 0,.slice ν 0 0]) (by obtain⟨_,_,_,e⟩:=dg aC.ls;rw[e];kernel_rfl)]
 refine bz aX.i λgs ee ef aG cH=>?_;have cI:Seen R w [szv] n.sizes:=w6 a2 aC cG;have eg:=a7.size;have eh:=aD.size;have z3:=aG.size;have cJ:=(a7.trans aD).trans aG;have bK:=OR (k:=n.k) (zero:=n.zero) (bT cI cJ);refine b6 (vs:=[Δ n.k,szv,Δ n.zero,.slice ν 0 0,.slice ν 0 0,.slice ν 0 0,.slice ν 0 0,.slice ν 0 0]) aX.i rfl rfl bK.len.2 cH λcK bc ej cL=>?_;have em:=aE.lt;have eo:=aA.lt;have cM:gt≠gs:=Ω
 have bd:Ext J cK:=(aD.trans aG).put bc Ω;have bL:=a7.trans bd;have cN:=(aE.ext aG).V bc λhe=>cM he;have ep:w.heap.size<gs:=Ω
 rw[aL dB.p 1 (aA.ext bd) rfl,aW ap.u (aC.ext bL).ls];have cO:=bK.V bc λr f h he=>by
  have he:r=gs:=he;rcases h with⟨_,h⟩|h
  .exact h
  .have:=ax r h;omega
 refine bZ.range n.sizes.length (λi O=>OS R w g1 gt gs n [Δ n.k,szv,Δ n.zero,cC,cD] i 0 O) Ω ⟨bL,aA.ext bd,cN,_,_,cL,(λ_ _ h=>h.elim),cO⟩ ?_ ?_
 .rintro i O cP hi ⟨P,bf,bg,A,cs,ag,bh,aH⟩ cQ;obtain⟨z,bi⟩:=aF (l:=n.sizes) hi;obtain⟨u,hu⟩:=aF (l:=n.unary) (i:=i) Ω;have er:=ac.sizes.2.2 z (x5 bi);obtain⟨es,_⟩:=ac.unary i z u bi hu;refine bQ Ω ?_;rw[be ap.u ah.i Ψ (aC.ext P).ls bi];obtain⟨bM,rfl⟩:∃m:Nat,z=m:=⟨z.toNat,Ω⟩;refine cd.range bM (λj aj aJ=>Ext O aJ/\∃g,aq .i64 ah aJ g aj ((V0 j).map λv:Nat=>(v:Int))/\∀r,leads aj r->O.heap.size<=r) Ω
   ⟨Ext.refl _,0,aq.nil _ _ _ _,λr f=>by obtain⟨a,n,c,I,Q⟩:=f;cases I⟩ ?_ ?_
  .rintro j aj aJ bk bl ⟨K,cR,S,aK⟩ bm;refine bQ Ω ?_;refine en (k:=.i64) ap.u ah.i rfl λet eu cT ev H cU=>?_;refine gN ap.u ah.i rfl (S.ext H) cU.ls Θ Θ λew cV cW cX cY W=>?_;rw[aP];have cZ:=K.size;have c0:=H.size;refine bm _ _ ⟨(K.trans H).then W λr f he=>by have:=aK r he;omega,cV,?_,λr f=>(cY r f).elim (aK r) λh=>Ω⟩;rw[List.range_succ,Z4];exact cX
  rintro aj aJ bk ⟨K,cR,S,aK⟩;refine cn Ω ?_;have c1:(V0 bM).map (λv:Nat=>(v:Int))=ay (newVar u):=by rw[Oe];congr 2;omega
  rw[c1]at S;have cZ:=K.size;have ey:=P.size;have eA:=ag.lt;have ak:∀r,R r->r<gs:=λr f=>by have:=ax r f;omega
  have low:∀{s C:x3}{b:Nat}{e:r9}{c:List x1},ae (λr=>gs<=r) s C->b<gs->ad s b e c->ad C b e c:=λL c2 h=>h.V L λX=>by have X:gs<=_:=X;omega
  have am:∀{s C:x3},Ext w s->ae (λr=>gs<=r) s C->Ext w C:=λbn L=>bn.then L λr f h=>by have h:gs<=r:=h;omega
  have bN:=aH.old.ext K;have c3:∀q r,(A q r/\r<O.heap.size)->gs<r:=λq r h=>bh q r h.1;obtain⟨eB,bP⟩:=bN.at 3 Ω;rw[aL aX.p 3 (ag.ext K) bP];refine kl dn.u ap.i Φ (a:=ay (newVar u)) (cs:=[aj]) S.ls.cells.1 (mS (R:=R) S) λeC cT H _ c4=>?_;have c0:=H.size;have aM:=K.trans H;refine b9.ON (bN.ext H) (ag.ext aM) bP c3 ak c4 (bT (mS (R:=R) S) H) (λr f h=>?_) Θ λeD eE cW W bR bS c5 _=>?_
  .have:=aK r h;exact⟨λj h=>Ω,Ω⟩
  have eF:=W.size;obtain⟨eH,bU⟩:=bS.at 4 Ω;rw[aL aX.p 4 bR bU];refine kl (a:=false) (cs:=[.bool false]) (A:=λ_=>False) (R:=R) jI.u ek.i Φ rfl rfl λeI eJ Y _ c6=>?_;refine b9.OO (a:=false) (xs:=[.bool false]) (B:=λ_=>False) (bS.ext Y) (bR.ext Y) bU c5 ak c6 rfl (λr f h=>h.elim) Θ λc7 eK bV aO bW c8 c9 _=>?_;have z9:=Y.size;have eL:=aO.size;have da:Ext w bV:=am ((am (P.trans aM) W).trans Y) aO;have db:=low aO Ω ((low W Ω (bf.ext aM)).ext Y);have dc:=low aO Ω ((low W Ω (bg.ext aM)).ext Y);intro bo Z _ _;have bX:=bW.ext Z;have bY:=db.ext Z;have b0:=da.trans Z;obtain⟨aa,aQ⟩:∃aa,bF[i]?=σ aa:=⟨_,x6 (by have:=congrArg R6 bG;rw[u9]at this;omega)⟩;have dd:aa.l=u:=by
   have b1:(bF.map (·.l))[i]?=σ aa.l:=by rw[x8,aQ];rfl
   rw[bG,hu]at b1;exact(Z2 b1).symm
  have bp:=cE.ext b0;obtain⟨eM,b2⟩:=bp.2 aa (x5 aQ);rw[dd]at b2;have b3:=c8.old.ext Z;have de:∀q r,(c7 q r/\r<bV.heap.size)->gs<r:=λq r h=>c9 q r h.1;obtain⟨eN,b4⟩:=b3.at 5 Ω;rw[aL aX.p 5 bX b4,aL dB.p 3 bY rfl,dj rfl ei.u au.i bp.1 (x4.1 aQ).1,aB (v:=aa.v) (o:=i*1) Ψ (bp.1.range aQ 0 _ rfl)];refine wH (k:=.i64) au.u al.i λdf eO eP eQ aR b5=>?_;refine⟨.inl aR,?_⟩;refine gN au.u al.i rfl b5 (b2.ext aR).ls Θ Θ λb7 eR di aS dk dm=>?_;rw[List.nil_append]at aS;have eS:=Z.size;have eU:=aR.size;have b8:∀r,leads df r->bo.heap.size<=r:=λr f=>by have:=(bO b5 f).1;omega
  have dp:∀r,leads b7 r->bo.heap.size<=r:=λr f=>(dk r f).elim (b8 r) λh=>Ω
  have bq:Ext bo di:=aR.then dm λr f he=>by have:=b8 r he;omega
  refine⟨.inl bq,?_⟩;have eV:=bq.size;refine kl ei.u au.i Φ (a:=u) (cs:=[b7]) aS.ls.cells.1 (mS (R:=R) aS) λeW eX br _ dr=>?_;have eY:=br.size;have ab:=bq.trans br;refine⟨.inl ab,?_⟩;refine b9.OP (b3.ext ab) (bX.ext ab) b4 de ak dr (bT (mS (R:=R) aS) br) (λr f h=>?_) Θ λds dt eZ bt dv dw dx _=>?_
  .have:=dp r h;have:=bW.lt;exact⟨λj h=>Ω,Ω⟩
  rw[aP];refine cQ _ ⟨am (b0.trans ab) bt,low bt Ω (bY.ext ab),low bt Ω ((dc.ext Z).ext ab),ds,dt,dv,dx,?_⟩;rw[u7,hu,o8,Z4,T4,List.map_nil,List.replicate_succ'];exact dw
 rintro O cP ⟨P,bf,bg,A,cs,ag,bh,aH⟩;refine cn Ω ?_;rw[j0 Ω]at aH;have e0:a8.length=n.funs.length:=by rw[<-bI,u9]
 have dy:=ba.ext P;rw[aL dB.p 4 bf rfl,ez cS.u dy];have ak:∀r,R r->r<gs:=λr f=>by have:=ax r f;omega
 have low:∀{s C:x3}{b:Nat}{e:r9}{c:List x1},ae (λr=>gs<=r) s C->b<gs->ad s b e c->ad C b e c:=λL c2 h=>h.V L λX=>by have X:gs<=_:=X;omega
 have am:∀{s C:x3},Ext w s->ae (λr=>gs<=r) s C->Ext w C:=λbn L=>bn.then L λr f h=>by have h:gs<=r:=h;omega
 refine bZ.range a8.length (λj G=>Ext w G/\ad G gt aX z12/\∃A cs,ad G gs aX cs/\(∀q r,A q r->gs<r)/\
  b9 true A R G cs n.k n.sizes n.zero (n.unary.map λu=>ay (newVar u)) (p9 n.sizes.length false) n.unary ((n.funs.take j).map λg=>iv (ky n.sizes g)) []) ba.le ⟨P,bg,A,cs,ag,bh,aH⟩ ?_ ?_
 .rintro j G bk bl ⟨M,bu,bw,aT,aU,aV,an⟩ bm;obtain⟨y,ao⟩:=aF (l:=a8) bl;have ca:n.funs[j]?=σ (du y):=by rw[<-bI,x8,ao];rfl
  have cb:=(ac.funs (du y) (x5 ca)).1;have e1:y.cs.length<=4096:=by
   have h1:y.cs.length=_:=cb.len;have X:=cb.small;omega
  have cc:=cF y (x5 ao);have ce:=cc.ext M;have cg:=ba.ext M;refine bQ Ω ?_;rw[dj rfl cS.u a6.i cg bl,bH a6.p a6.i rfl (cg.range ao)];refine bz a6.i λe2 e3 e4 dz dA=>?_;refine b6 (vs:=dl y) a6.i rfl rfl ce.one dA λdC dD e5 dE=>?_;have dF:Ext G dC:=dz.put dD Ω;intro bx ch _ _;have N:=dF.trans ch;have ci:=aU.ext N;have bA:=dE.ext ch;have dG:=ce.ext N;obtain⟨⟨e6,cj⟩,⟨e7,ck⟩,e8,dH⟩:=id dG;have cl:=an.old.ext N;have dI:∀q r,(bw q r/\r<G.heap.size)->gs<r:=λq r h=>aV q r h.1;obtain⟨e9,cm⟩:=cl.at 6 Ω;rw[aL aX.p 6 ci cm,aL a6.p 0 bA rfl,aL a6.p 1 bA rfl,aL a6.p 2 bA rfl];refine wH (k:=.i64) au.u al.i λv25 fa fb fc aY cp=>?_;refine⟨.inl aY,?_⟩;refine gN au.u al.i rfl cp (dH.ext aY).ls Θ Θ λE fd cq aZ dJ dK=>?_;rw[List.nil_append]at aZ;have fe:=N.size;have z25:=aY.size;have cr:∀r,leads v25 r->bx.heap.size<=r:=λr f=>by have:=(bO cp f).1;omega
  have dL:∀r,leads E r->bx.heap.size<=r:=λr f=>(dJ r f).elim (cr r) λh=>Ω
  have a1:Ext bx cq:=aY.then dK λr f he=>by have:=cr r he;omega
  refine⟨.inl a1,?_⟩;rw[dh (cs:=#[y.aN,y.szv,E]) (by obtain⟨_,_,_,I⟩:=dg cj.ls;obtain⟨_,_,_,Q⟩:=dg ck.ls;obtain⟨_,_,_,av⟩:=dg aZ.ls;rw[I,Q,av];kernel_rfl),
   dh (cs:=#[y.aN,y.szv,E,.bool true]) (by obtain⟨_,_,_,I⟩:=dg cj.ls;obtain⟨_,_,_,Q⟩:=dg ck.ls;obtain⟨_,_,_,av⟩:=dg aZ.ls;rw[I,Q,av];kernel_rfl)]
  have ff:=a1.size;have ct:=(M.trans N).trans a1;obtain⟨⟨ga,dM⟩,⟨fg,dN⟩,_⟩:=id cc;have own:bD (α:=jx) (λr=>leads E r) R cq [y.aN,y.szv,E,.bool true] (iv (ky n.sizes (du y))):=by
   refine⟨[y.aN,y.szv,E],[.bool true],λr=>leads E r,λ_=>False,rfl,λ_ h=>h,λ_ h=>h.elim,λ_ _ _ h=>h,⟨[y.aN],[y.szv,E],λ_=>False,λr=>leads E r,rfl,λ_ h=>h.elim,λ_ h=>h,λ_ _ h=>h.elim,?_,[y.szv],[E],λ_=>False,λr=>leads E r,rfl,λ_ h=>h.elim,λ_ h=>h,λ_ _ h=>h.elim,?_,?_⟩,rfl⟩
   .exact bT (w6 a2 dM λr f=>bJ y (x5 ao) r (.inr (.inl f))) ct
   .exact bT (w6 a2 dN λr f=>bJ y (x5 ao) r (.inr (.inr f))) ct
   .exact mS aZ
  refine kl gh.u fz.i Φ rfl own λfh fi bB _ dO=>?_;have fj:=bB.size;have aw:=a1.trans bB;refine⟨.inl aw,?_⟩;refine b9.OQ (cl.ext aw) (ci.ext aw) cm dI ak dO (bT own bB) (λr f h=>?_) Θ λdP dQ fk cu dR dS dT _=>?_
  .have:=dL r h;have:=aU.lt;exact⟨λj h=>Ω,Ω⟩
  rw[aP];refine bm _ ⟨am (M.trans (N.trans aw)) cu,low cu Ω (bu.ext (N.trans aw)),dP,dQ,dR,dT,?_⟩;rw[u7,ca,o8,Z4,T4,List.map_nil];exact dS
 rintro G bk ⟨M,bu,bw,aT,aU,aV,an⟩;rw[j0 Ω]at an;refine cn Ω ?_;obtain⟨bC,dU⟩:=an.len;rw[bH aX.p aX.i bC (show G.rangeAt gs 0 aT from aU.range)];refine b6 (vs:=aT) aX.i bC rfl dU bu λfm cw fo dV=>?_;rw[fC aX.p aX.i bC dV.range];have dW:=an.V cw λr f h he=>by
  have he:r=gt:=he;rcases h with⟨q,h⟩|h
  .have:=aV q r h;omega
  .have:=ax r h;omega
 have fp:=M.size;refine⟨M.then cw λr f he=>by have he:r=gt:=he;omega,bw,aT,rfl,?_,λq r h=>by have:=aV q r h;omega⟩;have I:(dq n).vars.map ay=n.unary.map λu=>ay (newVar u):=by show(n.unary.map newVar).map ay=_;rw[Q0];rfl
 have Q:(dq n).vars.map (λx=>decide (x.gone≠0))=p9 n.sizes.length false:=by
  show(n.unary.map newVar).map _=_;rw[Q0,<-cA];exact List.map_const' ..
 have av:(dq n).vars.map (·.un)=n.unary:=by show(n.unary.map newVar).map _=_;rw[Q0];exact List.map_id _
 have dX:(dq n).funs.map iv=n.funs.map λg=>iv (ky n.sizes g):=by show(n.funs.map (ky n.sizes)).map iv=_;rw[Q0];rfl
 unfold iw;rw[I,Q,av,dX];exact dW
def l3(w:x3)(g:Nat)(k:Int)(sizes:Λ)(s:am):Prop:=∃szv a e f h j,ad w g aX [Δ k,szv,Δ s.zero,a,e,f,h,j]/\aH .i64 w szv sizes/\Seen fm w [szv] sizes/\
 Seen fm w [a] (s.vars.map ay)/\Seen fm w [e] (s.vars.map λx=>decide (x.gone≠0))/\Seen fm w [f] (s.vars.map (·.un))/\Seen fm w [h] (s.funs.map iv)/\Seen fm w [j] (s.c5.map DS)
section
variable{w w':x3}{g:Nat}{v:x1}{k:Int}{sizes:Λ}{s:am}
theorem l3.ext(h:l3 w g k sizes s)(a:Ext w w'):l3 w' g k sizes s:=by
 obtain⟨szv,e,f,j,p,q,r,h1,x,y,z,A,B,C⟩:=h;exact⟨szv,e,f,j,p,q,r.ext a,h1.ext a,bT x a,bT y a,bT z a,bT A a,bT B a,bT C a⟩
theorem h6.box(h:h6 w v k sizes s)(f:Ext w w')(j:ad w' g aX v.cells.toList):l3 w' g k sizes s:=by
 obtain⟨cs,rfl,szv,z,B,C,E,F,rfl,h1,p,q,r,x,y,_⟩:=h;obtain⟨_,_,_,G⟩:=dg (ew h1);have c:∀{α:Type}[an α]{v:x1}{l:List α}{A:af},an.rep false A fm w [v] l->∃a n c,v= .slice a n c:=λh=>by
  obtain⟨_,_,_,_,_,⟨_,b,o,base,cap,e,_⟩,_⟩:=jj h;exact⟨_,_,_,e⟩
 obtain⟨_,_,_,H⟩:=c p;obtain⟨_,_,_,I⟩:=c q;obtain⟨_,_,_,J⟩:=c r;obtain⟨_,_,_,K⟩:=c x;obtain⟨_,_,_,L⟩:=c y;refine⟨szv,z,B,C,E,F,?_,(ew h1).ext f,bT h1 f,bT p f,bT q f,bT r f,bT x f,bT y f⟩;rw[G,H,I,J,K,L]at j ⊢;exact j
theorem l3.load{K:x1->Prop}(h:l3 w g k sizes s)(a:∀u,h6 w u k sizes s->K u):aa x7 (u4 aX (Γ g)) w K:=by
 obtain⟨szv,e,f,j,q,r,x,h1,y,z,A,B,C,E⟩:=h;rw[bH aX.p aX.i rfl x.range];exact a _ ⟨_,rfl,szv,e,f,j,q,r,rfl,y,z,A,B,C,E,λh=>by cases h⟩
theorem OT{i:Int}(h:h6 w v k sizes s):ai x7 G7 [v,Δ i] w λr w'=>r= .bool (decide (0<=i/\i<sizes.length))/\Ext w w':=by
 refine az func143 ?_;refine bj λg1 J x a e=>?_;obtain⟨szv,y,z,A,B,C,e,q,_⟩:=h.box a e;refine aT (λv U=>v= .bool (decide (0<=i/\i<sizes.length))/\Ext w U) (λ_ _ h=>h) λax f=>?_;rw[cI,aj];refine⟨λj=>?_,λj=>f _ _ ⟨by rw[decide_eq_false];omega,a⟩⟩;rw[aL aX.p 1 e rfl,aW ap.u q,aQ];refine f _ _ ⟨?_,a⟩;congr 1;exact decide_eq_decide.2 ⟨λh=>⟨j,h⟩,λh=>h.2⟩
theorem ps{m:Bool}{S R:af}{f:cL}(h:an.rep (α:=jx) m S R w cs (iv f)):∃aN szv aV,cs=[aN,szv,aV,.bool (decide (f.live≠0))]/\Seen fm w [aN] f.sc/\Seen fm w [szv] f.ag/\Seen fm w [aV] f.cs:=by
 obtain⟨E,p,A,B,rfl,_,_,_,⟨q,F,aE,G,rfl,_,_,_,h1,r,s,H,x,rfl,_,_,_,a,e⟩,j⟩:=h;have one:∀{α:Type}[an α]{m:Bool}{S R:af}{c:List x1}{l:List α},an.rep m S R w c l->∃v,c=[v]:=λh=>by obtain⟨v,y,_⟩:=h;exact⟨v,y⟩
 have h1:Seen _ w q f.sc:=h1;have a:Seen _ w r f.ag:=a;have j:p=[.bool (decide (f.live≠0))]:=j;have e:an.rep m x R w s f.cs:=e;obtain⟨z,rfl⟩:=one h1;obtain⟨C,rfl⟩:=one a;obtain⟨v3,rfl⟩:=one e;subst j;exact⟨z,C,v3,rfl,jM h1,jM a,jM e⟩
theorem OU{j:Int}(h:h6 w v k sizes s):ai x7 Ii [v,Δ j] w λr w'=>r= .bool (decide (0<=j)&&gC s j.toNat)/\Ext w w':=by
 refine az func248 ?_;refine bj λg1 J C a e=>?_;obtain⟨szv,E,G,H,I,K,e,L,_,_,_,_,y,_⟩:=h.box a e;refine aT (λv U=>v= .bool (decide (0<=j)&&gC s j.toNat)/\Ext w U) (λ_ _ h=>h) λax q=>?_;rw[cI,aj];refine⟨λx=>?_,λx=>q _ _ ⟨by rw[decide_eq_false x];rfl,a⟩⟩;rw[aL aX.p 6 e rfl,jl gh.u y,aQ,aj,u9];refine⟨λM=>?_,λN=>q _ _ ⟨by unfold gC;rw[Y0 Ω,Bool.and_false],a⟩⟩;obtain⟨f,z⟩:=aF (l:=s.funs) (i:=j.toNat) Ω;rw[aL aX.p 6 e rfl];refine lS (i:=j.toNat) Ω gh.u fz.i y (by rw[x8,z];rfl) λb o cs A B=>?_;obtain⟨O,P,v3,rfl,_⟩:=ps B;rw[aR fz.p rfl,aB (v:=.bool (decide (f.live≠0))) Ψ (A 3 _ rfl)];exact q _ _ ⟨by unfold gC;rw[z,decide_eq_true x,T6],a⟩
end
theorem q2{T:Nat->Prop}(h:ae S w w')(k:ae T w w'):ae (λr=>S r/\T r) w w':=
 ⟨h.size,λr o a I f=>by
  by_cases e:S r
  .exact k.aY r o a I λj=>f ⟨e,j⟩
  .exact h.aY r o a I e⟩
theorem q3{A R:af}{n:aI}{s:am}{t:aw}(h:bp w ab ac A R n s t):∀r,A r\/R r->r<w.heap.size:=λr a=>by
 obtain⟨j,p,q,x,⟨_,_,e,f⟩,_⟩:=h.1;exact a.elim (f r) (e r)
structure ca(w:x3)(ab ac ak:Nat)(A R:af)(A9:Nat->af)(aA:af)(n:aI)(s u:am)(t:aw)(h:List aw)(cs:List x1):Prop where
 eh:bp w ab ac A R n s t
 ft:ey t h
 box:ad w ak aX cs
 doc:iw true A9 aA w cs n.k n.sizes u
 apart:∀q r,A9 q r->¬A r/\¬R r/\r≠ak
 read:∀r,aA r->¬eg w r/\r<w.heap.size/\r≠ak
 out:¬A ak/\¬R ak
section
variable{w w':x3}{ab ac ak:Nat}{A R:af}{A9:Nat->af}{aA:af}{n:aI}{s u:am}{t:aw}{h:List aw}{cs:List x1}
theorem ca.ext(p:ca w ab ac ak A R A9 aA n s u t h cs)(a:Ext w w'):ca w' ab ac ak A R A9 aA n s u t h cs:=
 ⟨p.eh.ext a,p.ft,p.box.ext a,p.doc.ext a,p.apart,λr e=>⟨λh=>(p.read r e).1 (mL (λo f I _=>a.aY r o f I) h),by have:=(p.read r e).2.1;have:=a.size;omega,(p.read r e).2.2⟩,p.out⟩
theorem ca.prog{aE R':af}{s':am}{bi:aw}{h':List aw}(p:ca w ab ac ak A R A9 aA n s u t h cs)(x:ae (eg w) w w')(f:Grow A w aE w')(C:bp w' ab ac aE R' n s' bi)(j:ey bi h')(y:∀r,R' r->R r\/B<=r)(E:∀q r,A9 q r->r<w.heap.size->r<B)(J:ak<B):
  ca w' ab ac ak aE R' (λq r=>A9 q r/\r<w.heap.size) aA n s' u bi h' cs:=by
 have K:=p.box.lt;have z:=x.size;refine⟨C,j,p.box.V f.1 p.out.1,b9.V p.doc.old (q2 x f.1) λr e h j=>?_,λq r h=>⟨λa=>?_,λe=>(y r e).elim (p.apart q r h.1).2.1 λF=>by have:=E q r h.1 h.2;omega,(p.apart q r h.1).2.2⟩,λr e=>⟨λh=>?_,by have:=(p.read r e).2.1;omega,(p.read r e).2.2⟩,λa=>?_,λe=>(y ak e).elim p.out.2 λF=>Ω⟩
 .rcases h with⟨q,h⟩|h
  .exact (p.apart q r h.1).1 j.2
  .exact (p.read r h).1 j.1
 .rcases f.2.1 r a with a|a
  .exact (p.apart q r h.1).1 a
  .have:=h.2;omega
 .exact (p.read r e).1 (mL (λo G I H=>x.aY r o G I H) h)
 .rcases f.2.1 ak a with a|a
  .exact p.out.1 a
  .omega
theorem ca.OV{S:af}{cg:Nat->af}{u':am}{b8:List x1}(p:ca w ab ac ak A R A9 aA n s u t h cs)(f:ae S w w')(y:∀r,r<w.heap.size->S r->(∃q,A9 q r)\/r=ak)(B:ad w' ak aX b8)(C:iw true cg aA w' b8 n.k n.sizes u')(E:∀q r,cg q r->(∃j,A9 j r)\/(¬A r/\¬R r/\r≠ak)):
  ca w' ab ac ak A R cg aA n s u' t h b8:=by
 have J:=p.box.lt;have z:=f.size;have F:∀q r,A9 q r->¬aA r:=by obtain⟨_,_,_,_,_,_,_,_,_,_,_,_,_,G⟩:=p.doc;exact(G rfl).2
 refine⟨⟨p.eh.1.V f λr e h I=>?_,p.eh.2⟩,p.ft,B,C,λq r h=>?_,λr e=>⟨λh=>(p.read r e).1 (mL (λo H I _=>f.aY r o H I λa=>?_) h),by have:=(p.read r e).2.1;omega,(p.read r e).2.2⟩,p.out⟩
 .rcases y r e I with⟨q,a⟩|a
  .exact h.elim (p.apart q r a).1 (p.apart q r a).2.1
  .subst a;exact h.elim p.out.1 p.out.2
 .rcases E q r h with⟨j,a⟩|a
  .exact p.apart j r a
  .exact a
 .rcases y r (p.read r e).2.1 a with⟨q,x⟩|x
  .exact F q r x e
  .exact (p.read r e).2.2 x
theorem ca.OW{S:af}{cg:Nat->af}{u':am}{b8:List x1}(p:ca w ab ac ak A R A9 aA n s u t h cs)(e:∀r,A r\/R r->r<B)(E:ak<B)(f:ae S w w')(j:∀r,r<w.heap.size->S r->(∃q,A9 q r)\/r=ak)(x:ad w' ak aX b8)(y:iw true cg aA w' b8 n.k n.sizes u')(z:∀q r,cg q r->(∃C,A9 C r)\/B<=r):
  ca w' ab ac ak A R cg aA n s u' t h b8:=
 p.OV f j x y λq r h=>(z q r h).imp id λF=>⟨λa=>by have:=e r (.inl a);omega,λa=>by have:=e r (.inr a);omega,Ω⟩
theorem ca.DV{S:af}{cg:Nat->af}{u':am}{b8:List x1}(p:ca w ab ac ak A R A9 aA n s u t h cs)(a:ae S w w')(e:∀r,r<w.heap.size->S r->(∃q,A9 q r)\/r=ak)(f:ad w' ak aX b8)(j:iw true cg aA w' b8 n.k n.sizes u')(x:∀q r,cg q r->(∃y,A9 y r)\/w.heap.size<=r):
  ca w' ab ac ak A R cg aA n s u' t h b8:=p.OW (q3 p.eh) p.box.lt a e f j x
theorem ca.look(p:ca w ab ac ak A R A9 aA n s u t h cs):l3 w ak n.k n.sizes u:=by
 refine h6.box p.doc.w5 (Ext.refl _) ?_;have:=p.box;exact this
theorem ca.od(p:ca w ab ac ak A R A9 aA n s u t h cs):∃szv a e f j q,cs=[Δ n.k,szv,Δ u.zero,a,e,f,j,q]/\aH .i64 w szv n.sizes:=by
 obtain⟨szv,a,e,f,j,q,h1,r,_⟩:=p.doc;exact⟨szv,a,e,f,j,q,h1,ew r⟩
end
end Go.Proofs.YtikkpokkcdocoaaGreatDoor
namespace Go.Vc
open Go Go.RowKit
section
variable{P:W9}{w:x3}{α:Type}[an α]{S R:af}
theorem tA{v:x1}{l:List α}{i:Nat}{a:α}(h:bD S R w [v] l)(H:l[i]?=σ a)(Z:∀r,r<w.heap.size->S r->¬R r):∃g cap c F,v= .slice (σ ⟨g,0,ν⟩) l.length cap/\w.rangeAt g (i*an.n α) c/\bD F R w c a/\(∀r,F r->S r)/\
  ∀{w':x3}{a':α}{T z:af},ae T w w'->(∀r,r<w.heap.size->T r->F r)->bD z R w' c a'->(∀r,z r->F r\/w.heap.size<=r)->bD (λr=>S r\/w.heap.size<=r) R w' [v] (l.set i a'):=by
 have ao:=(x4.1 H).1;obtain⟨vs,g,F,s,he,I,hm⟩:=jj h;obtain⟨aa,J,K⟩:=hm rfl;obtain⟨ap,⟨rfl,aq⟩|⟨cap,full,rfl,L,au,av,aw,ax⟩⟩:=id K
 .omega
 have ab:vs.length=l.length:=he.1;have M:S g:=aa.resolve_left Ξ;obtain⟨c,B⟩:∃c,vs[i]?=σ c:=⟨_,x6 Ω⟩;have ac:=he.2 i c a B H;refine⟨g,cap,c,F i,rfl,?_,ac,λr p=>s.sub i r p,λ{w' a' T z}N O P C=>?_⟩
 .obtain⟨_,ay,o',az,aA,ad,_,_,ag,_,ah⟩:=I;cases ad;cases ag Ω;intro j u ai;have Q:=ah (i*an.n α+j) u (by rw[<-List.flatMap_id];exact nR (f:=id) (k:=an.n α) (λx aj=>he.len x aj) B ai);rw[X6]at Q;exact Q
 have ak:¬T g:=λh=>s.top rfl i (O g L.lt h);have aB:=an.len P;have aC:vs.set i c=vs:=by
  refine X2 λq=>?_;rw[X1];by_cases U:i=q
  .subst U;rw[if_pos rfl,if_pos Ω,B]
  .rw[if_neg U]
 have W:bW w' g J (an.n α) (.slice (σ ⟨g,0,ν⟩) l.length cap) (l.set i a').length vs.flatten:=by
  rw[Z6];exact K.V N λ_=>ak
 refine⟨_,rfl,vs,g,λj r=>if j=i then z r else F j r/\r<w.heap.size,⟨λj r p=>?_,λ_ j p=>?_,λ_ j q r al h1 y=>?_⟩,⟨by simp[ab],λj X Y G E=>?_⟩,?_,λ_=>⟨.inr (.inl M),J,W⟩⟩
 .split at p
  .exact (C r p).imp (s.sub i r) id
  .exact .inl (s.sub j r p.1)
 .split at p
  .rcases C g p with h|h
   .exact s.top rfl i h
   .have:=L.lt;omega
  .exact s.top rfl j p.1
 .split at h1<;>split at y
  .omega
  .rcases C r h1 with h|h
   .rename_i e _;exact s.gI rfl i q r Ω h y.1
   .have:=y.2;omega
  .rcases C r y with h|h
   .exact s.gI rfl j i r Ω h1.1 h
   .have:=h1.2;omega
  .exact s.gI rfl j q r al h1.1 y.1
 .by_cases A:j=i
  .subst A;rw[B]at G;rw[Z0 Ω]at E;cases G;cases E;exact an.mono P (λr _ h=>by simpa using h) λ_ _ h=>h
  .rw[Y8 (Ne.symm A)]at E;have am:bD (λr=>if j=i then z r else F j r/\r<w.heap.size) R w X Y:=an.mono (he.2 j X Y G E) (λr p h=>by rw[if_neg A];exact⟨h,p⟩) λ_ _ h=>h;refine an.V am N λr p h1 y=>?_;have y:=O r p y;rcases h1 with h1|h1
   .simp only[if_neg A]at h1;exact s.gI rfl j i r A h1.1 y
   .exact Z r p (s.sub i r y) h1
 .have:=oM (S:=λr=>(S r\/w.heap.size<=r)\/R r) W (.inr (.inl (.inl M)));exact this
theorem DW{v:x1}{l:List α}{i:Nat}{a:α}(h:bD S R w [v] l)(N:l[i]?=σ a)(O:∀r,r<w.heap.size->S r->¬R r):∃g cap full z c F,v= .slice (σ ⟨g,0,ν⟩) l.length cap/\ad w g z full/\S g/\i*an.n α+an.n α<=full.length/\(∀(q:Nat)x,c[q]?=σ x->full[i*an.n α+q]?=σ x)/\bD F R w c a/\(∀r,F r->S r)/\¬F g/\
  ∀{w':x3}{a':α}{A:List x1}{T C:af},ae T w w'->(∀r,r<w.heap.size->T r->F r\/r=g)->ad w' g z (over full (i*an.n α) A)->bD C R w' A a'->(∀r,C r->F r\/w.heap.size<=r)->bD (λr=>S r\/w.heap.size<=r) R w' [v] (l.set i a'):=by
 have ag:=(x4.1 N).1;obtain⟨vs,g,F,y,he,I,hm⟩:=jj h;obtain⟨ah,z,ai⟩:=hm rfl;obtain⟨ay,⟨rfl,az⟩|⟨cap,full,rfl,P,Q,aj,U,W⟩⟩:=id ai
 .omega
 have X:vs.length=l.length:=he.1;have G:S g:=ah.resolve_left Ξ;obtain⟨c,K⟩:∃c,vs[i]?=σ c:=⟨_,x6 Ω⟩;have ak:=he.2 i c a K N;have al:(i+1)*an.n α<=l.length*an.n α:=Y4 _ ag;have am:l.length*an.n α<=full.length:=by rw[U];exact Y4 _ Q
 rw[U8,Nat.one_mul]at al;refine⟨g,cap,full,z,c,F i,rfl,P,G,Ω,λq x Y=>?_,ak,λr s=>y.sub i r s,y.top rfl i,λ{w' a' A T C}ao ap aq Z H=>?_⟩
 .have L:=nR (f:=id) (k:=an.n α) (λx au=>he.len x au) K Y;rw[List.flatMap_id,<-W]at L;have aA:=(x4.1 Y).1;have M:=he.len c (x5 K);rw[Z9 Ω]at L;exact L
 have M:=an.len Z;have av:∀c∈vs.set i A,c.length=an.n α:=λc B=>by
  rcases W3 B with p|rfl
  .exact he.len c p
  .exact M
 have aa:bW w' g z (an.n α) (.slice (σ ⟨g,0,ν⟩) l.length cap) (l.set i a').length (vs.set i A).flatten:=by
  refine⟨by rw[ji av,Z6,Z6,X],.inr ⟨cap,_,by rw[Z6],aq,by rw[Z6];exact Q,aj,by rw[lQ,U],?_⟩⟩;rw[Z6,sF Ω am,W,DQ he.len M Ω]
 refine⟨_,rfl,vs.set i A,g,λj r=>if j=i then C r else F j r/\r<w.heap.size,⟨λj r s=>?_,λ_ j s=>?_,λ_ j q r aw h1 p=>?_⟩,⟨by simp[X],λj ab ac B J=>?_⟩,?_,λ_=>⟨.inr (.inl G),z,aa⟩⟩
 .split at s
  .exact (H r s).imp (y.sub i r) id
  .exact .inl (y.sub j r s.1)
 .split at s
  .rcases H g s with h|h
   .exact y.top rfl i h
   .have:=P.lt;omega
  .exact y.top rfl j s.1
 .split at h1<;>split at p
  .omega
  .rcases H r h1 with h|h
   .rename_i e _;exact y.gI rfl i q r Ω h p.1
   .have:=p.2;omega
  .rcases H r p with h|h
   .exact y.gI rfl j i r Ω h1.1 h
   .have:=h1.2;omega
  .exact y.gI rfl j q r aw h1.1 p.1
 .by_cases E:j=i
  .subst E;rw[Z0 Ω]at B;rw[Z0 Ω]at J;cases B;cases J;exact an.mono Z (λr _ h=>by simpa using h) λ_ _ h=>h
  .rw[Y8 (Ne.symm E)]at B J;have ax:bD (λr=>if j=i then C r else F j r/\r<w.heap.size) R w ab ac:=an.mono (he.2 j ab ac B J) (λr s h=>by rw[if_neg E];exact⟨h,s⟩) λ_ _ h=>h;refine an.V ax ao λr s h1 p=>?_;have p:=ap r s p;rcases h1 with h1|h1
   .simp only[if_neg E]at h1;rcases p with p|rfl
    .exact y.gI rfl j i r E h1.1 p
    .exact y.top rfl j h1.1
   .rcases p with p|rfl
    .exact O r s (y.sub i r p) h1
    .exact O r s G h1
 .have:=oM (S:=λr=>(S r\/w.heap.size<=r)\/R r) aa (.inr (.inl (.inl G)));exact this
end
end Go.Vc
namespace Go.Proofs.YtikkpokkcdocoaaGreatDoor
open Go Go.Vc Go.RowKit Go.Proofs Go.Proofs.Tryz
set_option maxRecDepth 100000
section
variable{w0 w:x3}{ab ac ak ga:Nat}{A R:af}{A9 cg:Nat->af}{aA:af}{n:aI}{s u:am}{t:aw}{h:List aw}{cs b8:List x1}{aM aN ln:x1}{Q:x1->x3->Prop}
theorem ca.olds(p:ca w0 ab ac ak A R A9 aA n s u t h cs):ca w0 ab ac ak A R (λq r=>A9 q r/\r<w0.heap.size) aA n s u t h cs:=
 ⟨p.eh,p.ft,p.box,p.doc.old,λq r a=>p.apart q r a.1,p.read,p.out⟩
end
theorem pt{α β:Type}{l:List α}{i:Nat}{a b:α}{f:α->β}(h:l[i]?=σ a)(j:f b=f a):(l.set i b).map f=l.map f:=by
 rw[U6,j];refine X2 λq=>?_;rw[X1];by_cases e:i=q
 .subst e;rw[if_pos rfl,x8,h,if_pos (by rw[u9];exact(x4.1 h).1)];rfl
 .rw[if_neg e]
theorem w7{T:Nat->Prop}(h:ae T w w'):ae (λr=>T r/\r<w.heap.size) w w':=⟨h.size,λr o a I e=>h.aY r o a I λf=>e ⟨f,(n9.1 a).1⟩⟩
section
variable{w0 w w':x3}{ab ac ak ga:Nat}{A R:af}{A9:Nat->af}{aA:af}{n:aI}{s u u':am}{t:aw}{h:List aw}{cs:List x1}{aM aN ln v:x1}{Q:x1->x3->Prop}
theorem b9.qa{m:Bool}{zero:Int}{D:List (Λ)}{G:List Bool}{aS:List (Λ)}{H:List jx}{E:List oc}{i:Nat}(a:cs[i]?=σ v)(h:b9 m A9 aA w (cs.set i v) k sizes zero D G aS H E):b9 m A9 aA w cs k sizes zero D G aS H E:=by
 have:cs.set i v=cs:=by
  refine X2 λq=>?_;rw[X1];by_cases e:i=q
  .subst e;have:=(x4.1 a).1;rw[if_pos rfl,if_pos this,a]
  .rw[if_neg e]
 rw[this]at h;exact h
theorem ca.row{T:af}{cg:Nat->af}{q:Nat}(p:ca w ab ac ak A R A9 aA n s u t h cs)(a:ae T w w')(e:∀r,r<w.heap.size->T r->A9 q r)(f:iw true cg aA w' cs n.k n.sizes u')(j:∀q r,cg q r->(∃x,A9 x r)\/w.heap.size<=r):
  ca w' ab ac ak A R cg aA n s u' t h cs:=
 p.DV a (λr y h=>.inl ⟨q,e r y h⟩) (p.box.V a λh=>(p.apart q ak (e ak p.box.lt h)).2.2 rfl) f j
theorem w8{q:Nat}{B:af}(a:∀r,B r->A9 q r\/w.heap.size<=r):∀j r,ix A9 q B j r->(∃e,A9 e r)\/w.heap.size<=r:=λj r h=>by
 unfold ix at h;split at h
 .exact (a r h).imp (λh=>⟨q,h⟩) id
 .exact .inl ⟨j,h⟩
end
theorem OX{sv:x1}{q:Nat}{cap:Array x1}{p:Int->Bool}(h:aH .i64 w sv l)(z:∀w' x,Ext w w'->x∈l->ai x7 q (Δ x::cap.toList) w' λr A=>r= .bool (p x)/\Ext w' A):
  ai x7 uM [sv,.func (.func q) #[] cap] w λv w'=>Ext w w'/\((v=Δ (-1)/\∀x∈l,p x=false)\/∃i:Nat,v=Δ (i:Int)/\i<l.length/\(∀x∈l.take i,p x=false)/\∀x,l[i]?=σ x->p x=true):=by
 refine az func138 ?_;rw[aW ap.u h];refine cd.range l.length (λi _ J=>Ext w J/\∀x∈l.take i,p x=false) h.le ⟨Ext.refl _,Ξ⟩ ?_ ?_
 .rintro i _ J k hi ⟨e,f⟩ hk;refine bQ Ω ?_;obtain⟨y,j⟩:=aF (l:=l) hi;rw[be ap.u ah.i Ψ (h.ext e) j];refine ai.mono (z J y e (x5 j)) ?_;rintro _ U _ ⟨rfl,s⟩;rw[b7];refine⟨λB=>⟨e.trans s,.inr ⟨i,rfl,hi,f,λx a=>by rw[j]at a;cases a;exact B⟩⟩,λC=>?_⟩;rw[aP];refine hk _ _ ⟨e.trans s,λx a=>?_⟩;rw[u7,j]at a;rcases o9.1 a with a|a
  .exact f x a
  .simp at a;subst a;exact C
 .rintro _ J k ⟨e,f⟩;rw[o5]at f;rw[aQ,aj];exact⟨λh=>Ω,λ_=>⟨e,.inl ⟨rfl,f⟩⟩⟩
theorem OY{sv:x1}{g R:Nat}{cap:Array x1}{p:Int->Bool}(h:aq .i64 e w g sv l)(aJ:l.length<=100000000)(S:∀w' x,ae (λr=>leads sv r) w w'->x∈l->ai x7 R (Δ x::cap.toList) w' λr aa=>r= .bool (p x)/\Ext w' aa):
  ai x7 Gq [sv,.func (.func R) #[] cap] w λv w'=>ae (λr=>leads sv r) w w'/\aq .i64 e w' g v (l.filter λx=>!p x)/\∀r,leads v r->leads sv r:=by
 refine az func72 ?_;refine(OX h.ls λw' x B=>S w' x (B.V _)).mono ?_;rintro _ J _ ⟨C,⟨rfl,L⟩|⟨i,rfl,hi,L,ab⟩⟩
 .rw[bd,aj];refine⟨λ_=>⟨C.V _,?_⟩,λh=>absurd rfl h⟩;rw[List.filter_eq_self.2 λx B=>by rw[L x B];rfl];exact⟨h.ext C,λ_ h=>h⟩
 rw[bd,aj];refine⟨λh=>Ω,λ_=>?_⟩;rw[aP,wrap_i64 Ω Ω];obtain⟨n,M⟩:∃n,l.length=n:=⟨_,rfl⟩;obtain⟨s,rfl⟩:∃s,sv= .slice (σ ⟨g,0,ν⟩) n s:=by
  obtain⟨_,⟨_,h1⟩|⟨s,cs,h1,_⟩⟩:=id h
  .omega
  .exact⟨s,by rw[h1,M]⟩
 obtain⟨_,_,_,_,aK,ac,_⟩:=qB h Ω;have U:∀r,r=g->leads (.slice (σ ⟨g,0,ν⟩) n s) r:=λr N=>⟨_,_,_,rfl,N.symm⟩;have ad:(l.take (i+1)).filter (λx=>!p x)=l.take i:=by
  obtain⟨y,z⟩:=aF (l:=l) hi;rw[u7,z,List.filter_append,List.filter_eq_self.2 λx B=>by rw[L x B];rfl];simp[ab y z]
 refine⟨λO P E=>∃(q j:Nat)(f:Λ),O=Δ (q:Int)/\P=Δ (j:Int)/\q<j/\j<=n/\ae (λr=>r=g) w E/\aq .i64 e E g (.slice (σ ⟨g,0,ν⟩) n s) f/\f.length=n/\f.take q=(l.take j).filter (λx=>!p x)/\∀k,j<=k->f[k]?=l[k]?,
  λ_ P _=>n-(bS P).toNat,⟨i,i+1,l,rfl,rfl,Ω,Ω,C.V _,h.ext C,M,ad.symm,λ_ _=>rfl⟩,?_⟩
 rintro _ _ E ⟨q,j,f,rfl,rfl,aL,aM,G,H,W,A,Q⟩;have aN:q=((l.take j).filter λx=>!p x).length:=by rw[<-A,o7];omega
 rw[hy ap.u,aQ,aj];refine⟨λaf=>?_,λaO=>?_⟩
 .have af:j<n:=Ω
  obtain⟨y,z⟩:=aF (l:=l) (i:=j) Ω;have ag:f[j]?=σ y:=by rw[Q j (p8 _),z]
  refine aT (λO I=>∃(q:Nat)(f:Λ),O=Δ (q:Int)/\q<j+1/\ae (λr=>r=g) w I/\aq .i64 e I g (.slice (σ ⟨g,0,ν⟩) n s) f/\f.length=n/\f.take q=(l.take (j+1)).filter (λx=>!p x)/\∀k,j+1<=k->f[k]?=l[k]?) ?_ ?_
  .rintro _ I ⟨q,f,rfl,h1,ak,al,am,an,ao⟩;rw[aP,wrap_i64 Ω Ω];exact⟨⟨q,j+1,f,rfl,rfl,h1,Ω,ak,al,am,an,ao⟩,by simp only[bS];omega⟩
  intro ax X;rw[be ap.u ah.i Ψ H.ls ag];refine ai.mono (S E y (G.mono λr _=>U r) (x5 z)) ?_;rintro _ I _ ⟨rfl,K⟩;have Y:(l.take (j+1)).filter (λx=>!p x)=(l.take j).filter (λx=>!p x)++[y].filter (λx=>!p x):=by rw[u7,z,List.filter_append];rfl
  rw[bC,b7];refine⟨λau=>?_,λav=>?_⟩
  .have Z:=H.ext K;rw[ic rfl ap.u ah.i Z Ω];refine ie ah.i Z Ω λaR aw aS ay=>?_;rw[aP,wrap_i64 Ω Ω];refine X _ _ ⟨q+1,_,rfl,Ω,(G.trans (K.V _)).trans aw,ay,by simpa using W,?_,λk hk=>?_⟩
   .rw[Y,u7,Z0 Ω,List.take_set_of_le (p8 _),A];simp only[o8];rw[show[y].filter (λx=>!p x)=[y] by simpa using au]
   .rw[Y8 Ω];exact Q k Ω
  .refine X _ _ ⟨q,f,rfl,Ω,G.trans (K.V _),H.ext K,W,?_,λk hk=>Q k Ω⟩;rw[Y,show[y].filter (λx=>!p x)=[] by simpa using av,W7];exact A
 .have aA:j=n:=Ω
  subst aA;rw[<-M,o5]at A;obtain⟨_,_,cs,aB,_,_,aU,aC⟩:=qB H Ω;simp only[maxLen]at ac;rw[gk ap.u ah.i (l:=q) (h:=j) (m:=s) nt iH eU Ω Ω Ω,if_neg Ω];have aD:U3 (λx:Addr=>x.add (q*1)) (σ ⟨g,0,ν⟩)=σ ⟨g,q,ν⟩:=by simp[T2]
  rw[aD];refine zP ap.u ah.i rfl rfl aB Ω Ω λaV aE aW aG=>?_;rw[gk ap.u ah.i (l:=0) (h:=q) (m:=s) iG nw eU Ω Ω Ω,if_neg Ω];have aH:U3 (λx:Addr=>x.add (0*1)) (σ ⟨g,0,ν⟩)=σ ⟨g,0,ν⟩:=by simp[T2]
  rw[aH];refine⟨(G.trans aE).mono λr _=>U r,?_⟩;have aX:(l.filter λx=>!p x).length=q:=by rw[<-A,o7];omega
  rw[<-A,Nat.sub_zero];refine⟨?_,λr N=>by obtain⟨a,_,_,e,aI⟩:=N;cases e;exact⟨_,_,_,rfl,aI⟩⟩;refine aq.of (n:=q) ⟨Θ,.inr ⟨s,_,Ξ,aG,Ω,by simp only[maxLen];omega,by rw[lQ];omega,?_⟩⟩;rw[T0];apply X2;intro k;by_cases hk:k<q
  .rw[Z9 hk,nx _ _ _ Θ,if_neg Ω,ints,x8,Z9 hk];have:(cs.take j)[k]?=(ints .i64 f)[k]?:=by rw[aC]
   rw[Z9 Ω,ints,x8]at this;exact this
  .rw[Y0 Θ,Y0 Θ]
theorem DX{full c:List x1}{o q:Nat}{x:x1}(f:∀(k:Nat)y,c[k]?=σ y->full[o+k]?=σ y)(h:o+c.length<=full.length)(j:q<c.length):full.set (o+q) x=over full o (c.set q x):=by
 refine X2 λk=>?_;rw[nx _ _ _ (by rw[Z6];exact h),X1,Z6];by_cases h1:o<=k/\k<o+c.length
 .rw[if_pos h1,X1];by_cases a:o+q=k
  .rw[if_pos a,if_pos Ω,if_pos Ω,if_pos Ω]
  .rw[if_neg a,if_neg Ω];have e:k-o<c.length:=Ω
   have:=f (k-o) c[k-o] (x6 e);rw[x6 e,<-this];congr 1;omega
 .rw[if_neg h1,if_neg Ω]
section
variable{w0 w w':x3}{ab ac ak ga:Nat}{A R:af}{A9:Nat->af}{aA:af}{n:aI}{s u u':am}{t:aw}{h:List aw}{cs:List x1}{aM aN ln v:x1}{Q:x1->x3->Prop}
theorem ca.gI(p:ca w ab ac ak A R A9 aA n s u t h cs):(∀i j r,i≠j->A9 i r->¬A9 j r)/\∀i r,A9 i r->¬aA r:=by
 obtain⟨_,_,_,_,_,_,_,_,_,_,_,_,_,a⟩:=p.doc;exact a rfl
theorem ca.OZ{T:af}(p:ca w ab ac ak A R A9 aA n s u t h cs)(y:∀q r,A9 q r->r<w.heap.size)(z:cs[6]?=σ v)(e:ae T w w')(f:∀r,r<w.heap.size->T r->A9 3 r)(C:bD (λr=>A9 3 r\/w.heap.size<=r) aA w' [v] (u'.funs.map iv))(E:u'.zero=u.zero)(F:u'.vars=u.vars)(G:u'.c5=u.c5):∃cg,ca w' ab ac ak A R cg aA n s u' t h cs/\∀q r,cg q r->(∃H,A9 H r)\/w.heap.size<=r:=by
 have I:=b9.kE p.doc (w7 e) (λr a=>.inl (f r a.2 a.1)) C (λj r J a=>?_) (λr a=>?_)
 .have x:=w8 (w:=w) (A9:=A9) (q:=3) (B:=λr=>A9 3 r\/w.heap.size<=r) λr h=>h;refine⟨_,p.row e f ?_ x,x⟩;have:=b9.qa z I;unfold iw;rw[E,F,G];exact this
 .rcases a with a|a
  .exact p.gI.1 3 j r (Ne.symm J) a
  .exact λh=>by have:=y j r h;omega
 .rcases a with a|a
  .exact p.gI.2 3 r a
  .exact λh=>by have:=(p.read r h).2.1;omega
end
theorem O0{m:Int}{w:Int}(a:0<=v)(hw:0<=w):dropped (((m.toNat ||| 2 ^ v.toNat:Nat):Int)) w=(dropped m w||decide (w=v)):=by
 unfold dropped;rw[u6,Nat.testBit_or,Nat.testBit_two_pow];congr 1;exact decide_eq_decide.2 ⟨λh=>Ω,λh=>Ω⟩
theorem w9{x:bq}(a:0<=v):ay {x with mask:=((x.mask.toNat ||| 2 ^ v.toNat:Nat):Int)}=(ay x).filter λy=>!decide (y=v):=by
 unfold ay;rw[List.filter_filter];refine List.filter_congr λy e=>?_;obtain⟨q,_,rfl⟩:=l9.1 e;rw[O0 a Ω];cases dropped x.mask (q:Int)<;>simp
section
variable{w0 w w':x3}{ab ac ak ga:Nat}{A R:af}{A9:Nat->af}{aA:af}{n:aI}{s u u':am}{t:aw}{h:List aw}{cs:List x1}{aM aN ln v:x1}{Q:x1->x3->Prop}
theorem ca.oe{T:af}(p:ca w ab ac ak A R A9 aA n s u t h cs)(z:∀q r,A9 q r->r<w.heap.size)(C:cs[3]?=σ v)(e:ae T w w')(f:∀r,r<w.heap.size->T r->A9 0 r)(E:bD (λr=>A9 0 r\/w.heap.size<=r) aA w' [v] (u'.vars.map ay))(F:u'.zero=u.zero)(G:u'.vars.map (·.un)=u.vars.map (·.un))(H:(u'.vars.map λx=>decide (x.gone≠0))=u.vars.map λx=>decide (x.gone≠0))(I:u'.funs=u.funs)(J:u'.c5=u.c5):
  ∃cg,ca w' ab ac ak A R cg aA n s u' t h cs/\∀q r,cg q r->(∃K,A9 K r)\/w.heap.size<=r:=by
 have L:=b9.DT p.doc (w7 e) (λr a=>.inl (f r a.2 a.1)) E (λj r M a=>?_) (λr a=>?_)
 .have y:=w8 (w:=w) (A9:=A9) (q:=0) (B:=λr=>A9 0 r\/w.heap.size<=r) λr h=>h;refine⟨_,p.row e f ?_ y,y⟩;have:=b9.qa C L;unfold iw;rw[F,G,H,I,J];exact this
 .rcases a with a|a
  .exact p.gI.1 0 j r (Ne.symm M) a
  .exact λh=>by have:=z j r h;omega
 .rcases a with a|a
  .exact p.gI.2 0 r a
  .exact λh=>by have:=(p.read r h).2.1;omega
end
section
variable{w0 w w':x3}{ab ac ak ga:Nat}{A R:af}{A9:Nat->af}{aA:af}{n:aI}{s u u':am}{t:aw}{h:List aw}{cs:List x1}{aM aN ln v:x1}{Q:x1->x3->Prop}
theorem O1{F:af}{c:List x1}{f:cL}(h:bD (α:=jx) F R w c (iv f))(z:∀r,F r->¬R r):∃aN szv aV e,c=[aN,szv,aV,.bool (decide (f.live≠0))]/\bD e R w [aV] f.cs/\(∀r,e r->F r)/\
  ∀{w':x3}{b8:Λ},ae e w w'->bD e R w' [aV] b8->bD (α:=jx) F R w' c (iv {f with cs:=b8}):=by
 obtain⟨ab,M,A,B,rfl,C,N,O,h1,p⟩:=h;obtain⟨P,ac,aE,Q,rfl,S,E,G,H,T⟩:=h1;obtain⟨U,W,X,q,rfl,Y,s,I,J,K⟩:=T;have p:M=[.bool (decide (f.live≠0))]:=p;subst p;obtain⟨x,rfl⟩:=V1.1 (show P.length=1 from an.len H);obtain⟨j,rfl⟩:=V1.1 (show U.length=1 from an.len J);obtain⟨v3,rfl⟩:=V1.1 (show W.length=1 from an.len K);have y:∀r,q r->F r:=λr h=>C r (E r (s r h));refine⟨x,j,v3,q,rfl,K,y,λ{w' b8}L Z=>?_⟩;refine⟨[x,j,v3],[.bool (decide (f.live≠0))],A,B,rfl,C,N,O,⟨[x],[j,v3],aE,Q,rfl,S,E,G,an.V H L λr aa a he=>?_,[j],[v3],X,q,rfl,Y,s,I,an.V J L λr aa a he=>?_,Z⟩,rfl⟩
 .exact a.elim (λa=>G rfl r a (s r he)) (z r (y r he))
 .exact a.elim (λa=>I rfl r a he) (z r (y r he))
end
theorem cr.vars{s:am}{i:Nat}{x y:bq}(h:cr s)(r:s.vars[i]?=σ x)(w:y.gone=x.gone):cr {s with vars:=s.vars.set i y}:=λf j p v q z a=>by
 have a:(s.vars.set i y)[v.toNat]?=σ z:=a;rw[X1]at a;split at a
 .rename_i e;split at a
  .cases a;subst e;rw[w];exact h f j p v q x r
  .cases a
 .exact h f j p v q z a
theorem cr.funs{s:am}{f g:cL}(h:cr s)(r:s.funs[j]?=σ f)(I:g.sc=f.sc)(w:g.live≠0->f.live≠0):cr {s with funs:=s.funs.set j g}:=λx a e v p z q=>by
 rcases W3 a with a|rfl
 .exact h x a e v p z q
 .exact h f (x5 r) (w e) v (by rw[<-I];exact p) z q
structure fZ where
 kind:Nat
 i:Int
 pos:Int
 v:Int
 c:Int
def dA(s:am)(i v:Int):Option bq:=if 0<=i then match s.vars[i.toNat]? with
 |some x=>if x.gone=0/\v∈ay x then σ x else ν
 |none=>ν else ν
def er(s:am)(j pos v:Int):Option (cL×Int×bq):=if 0<=j/\0<=pos then match s.funs[j.toNat]? with
 |some f=>if f.live≠0 then match f.sc[pos.toNat]? with
  |some u=>(dA s u v).map λx=>(f,u,x)
  |none=>ν
  else ν
 |none=>ν else ν
def l4(k:Int)(s:am)(f:cL)(pos:Nat)(v:Int):Int:=((ce s f.sc pos v).map (bn f.ag f.cs)).foldl min k
def db(k c most:Int):Int:=if¬(0<=c/\c<=k)then 3 else if most<c then 7 else 0
def gQ(x:bq):Int:=match(ay x).map λv=>x.un.getD v.toNat 0 with
 |[]=>-1
 |c::l=>l.foldl min c
def gb(s:am)(i:Nat)(v:Int):Λ->am
 |[]=>s
 |w::L=>gb (if w≠v then dH s i w.toNat else s) i v L
def bf(k:Int)(s:am)(a:fZ):am×Int:=
 if a.kind=0 then match er s a.i a.pos a.v with
  |none=>(s,1)
  |some (f,u,x)=>if db k a.c (l4 k s f a.pos.toNat a.v)≠0 then(s,db k a.c (l4 k s f a.pos.toNat a.v))else(iY s a.i.toNat f a.pos.toNat u.toNat x a.v (λg=>da k g a.c) λg=>cM k g a.c,0)
 else if a.kind=1 then match er s a.i a.pos a.v with
  |none=>(s,1)
  |some (f,u,x)=>if db k a.c (x.un.getD a.v.toNat 0)≠0 then(s,db k a.c (x.un.getD a.v.toNat 0))else(iY s a.i.toNat f a.pos.toNat u.toNat x a.v (λg=>cM k g a.c) λg=>da k g a.c,0)
 else if a.kind=2 then match(if 0<=a.i then s.vars[a.i.toNat]? else ν)with
  |none=>(s,1)
  |some x=>if x.gone≠0 then(s,1)else if db k a.c (gQ x)≠0 then(s,db k a.c (gQ x))else(hl s a.i.toNat x (λg=>da k g a.c) λg=>cM k g a.c,0)
 else if a.kind=3 then match(if 0<=a.i then s.vars[a.i.toNat]? else ν)with
  |none=>(s,1)
  |some x=>if x.gone≠0 then(s,1)else if db k a.c (if ay x=[]then-1 else s.zero)≠0 then(s,db k a.c (if ay x=[]then-1 else s.zero))else(hl s a.i.toNat x (λg=>cM k g a.c) λg=>da k g a.c,0)
 else if a.kind=4 then match dA s a.i a.v with
  |none=>(s,1)
  |some x=>if cM k s.zero (x.un.getD a.v.toNat 0)<k then(s,7)else(dH s a.i.toNat a.v.toNat,0)
 else match dA s a.i a.v with
  |none=>(s,1)
  |some x=>(gb s a.i.toNat a.v (ay x),0)
theorem og:∀(l:Λ)(z c:Int),c<=l.foldl min z↔c<=z/\∀x∈l,c<=x
 |[],z,c=>Ξ
 |a::l,z,c=>by
  rw[T9,og l (min z a) c];rw[List.forall_mem_cons];exact⟨λ⟨h1,e⟩=>⟨Ω,Ω,e⟩,λ⟨h1,e,f⟩=>⟨Ω,f⟩⟩
theorem lp{most:Int}(h:¬db k c most≠0):(0<=c/\c<=k)/\c<=most:=by
 unfold db at h;split at h
 .exact absurd Φ h
 .rename_i h1;split at h
  .exact absurd Φ h
  .exact⟨X3.1 h1,Ω⟩
theorem jy{s:am}{i:Int}{x:bq}(h:dA s i v=σ x):0<=i/\s.vars[i.toNat]?=σ x/\x.gone=0/\v∈ay x:=by
 unfold dA at h;split at h
 .rename_i e;split at h
  .rename_i y f;split at h
   .rename_i a;cases h;exact⟨e,f,a.1,a.2⟩
   .cases h
  .cases h
 .cases h
theorem mT{s:am}{j pos u:Int}{f:cL}{x:bq}(h:er s j pos v=σ (f,u,x)):0<=j/\0<=pos/\s.funs[j.toNat]?=σ f/\f.live≠0/\f.sc[pos.toNat]?=σ u/\dA s u v=σ x:=by
 unfold er at h;split at h
 .rename_i e;split at h
  .rename_i g p;split at h
   .rename_i q;split at h
    .rename_i w hw;cases a:dA s w v with
     |none=>rw[a]at h;cases h
     |some y=>
      rw[a]at h;cases h;exact⟨e.1,e.2,p,q,hw,a⟩
    .cases h
   .cases h
  .cases h
 .cases h
section
variable{k:Int}{sizes a:Λ}{s:am}
theorem mU{g:Int}(a:0<=g/\g<=k)(e:0<=c/\c<=g):0<=da k g c/\da k g c<=k:=by
 unfold da;split<;>omega
theorem mV{g:Int}(a:0<=g/\g<=k)(e:0<=c):0<=cM k g c/\cM k g c<=k:=by
 unfold cM;omega
theorem hn{u:Nat}{v:Nat}{x:bq}(a:bh k sizes s)(e:s.vars[u]?=σ x):0<=x.un.getD v 0/\x.un.getD v 0<=k:=by
 have hk:=a.fI;have f:=(x4.1 e).1;have h:=a.vars;exact DG Ω (a.var u x _ e (x6 Ω)).2.1
theorem oh{f:cL}(a:bh k sizes s)(e:f∈s.funs):0<=bn f.ag f.cs t/\bn f.ag f.cs t<=k:=(s6 a.fI λc h=>⟨a.fI,(a.funs f e).1.im c h⟩).2
theorem xb{x:bq}(h:v∈ay x)(a:c<=gQ x):c<=x.un.getD v.toNat 0:=by
 unfold gQ at a;have hm:x.un.getD v.toNat 0∈(ay x).map λv=>x.un.getD v.toNat 0:=l9.2 ⟨v,h,rfl⟩;generalize (ay x).map (λv=>x.un.getD v.toNat 0)=l at a hm;cases l with
 |nil=>cases hm
 |cons b l=>
  have h1:=(og l b c).1 a;rcases V3.1 hm with e|e
  .rw[e];exact h1.1
  .exact h1.2 _ e
theorem q4{i:Nat}{v:Int}{x:bq}:∀(L:Λ)(s:am),bh k sizes s->s.vars[i]?=σ x->(∀w∈L,0<=w/\w<x.un.length)->bh k sizes (gb s i v L)/\(cr s->cr (gb s i v L))/\
  ∀bb,jt s a->x.gone=0->a[i]?=σ bb->gA k (gb s i v L) a=if bb∈L/\bb≠v then k else gA k s a
 |[],s,z,j,_=>⟨z,id,λbb _ _ _=>by rw[if_neg Ξ];rfl⟩
 |w::L,s,z,j,C=>by
  unfold gb;by_cases hw:w≠v
  .rw[if_pos hw];have G:=C w (.head _);have J:=w4 z j G;have H:=(x4.1 j).1;have K:(dH s i w.toNat).vars[i]?=σ {x with mask:=((x.mask.toNat ||| 2 ^ w.toNat:Nat):Int)}:=by rw[jw j];exact Z0 H
   obtain⟨h1,E,F⟩:=q4 L (dH s i w.toNat) J K λu hu=>C u (.tail _ hu);refine⟨h1,λM=>E ?_,λbb p A B=>?_⟩
   .rw[jw j];exact cr.vars M j rfl
   .have N:jt (dH s i w.toNat) a:=by
     rw[jw j];refine⟨by show a.length=(s.vars.set _ _).length;rw[Z6];exact p.1,λq y b r I=>?_⟩;have r:(s.vars.set i {x with mask:=((x.mask.toNat ||| 2 ^ w.toNat:Nat):Int)})[q]?=σ y:=r;by_cases e:i=q
     .subst e;rw[Z0 H]at r;cases r;exact p.2 i x b j I
     .rw[Y8 e]at r;exact p.2 q y b r I
    rw[F bb N A B,DP z p j A G B];by_cases e:bb=w
    .subst e;rw[if_pos rfl,if_pos (show bb∈bb::L/\bb≠v from⟨.head _,hw⟩)];split<;>rfl
    .rw[if_neg e];by_cases f:bb∈L/\bb≠v
     .rw[if_pos f,if_pos ⟨.tail _ f.1,f.2⟩]
     .rw[if_neg f,if_neg λh=>f ⟨(V3.1 h.1).resolve_left e,h.2⟩]
  .rw[if_neg hw];obtain⟨h1,E,F⟩:=q4 L s z j λu hu=>C u (.tail _ hu);refine⟨h1,E,λbb p A B=>?_⟩;rw[F bb p A B];have hw:=X3.1 hw;by_cases f:bb∈L/\bb≠v
   .rw[if_pos f,if_pos ⟨.tail _ f.1,f.2⟩]
   .rw[if_neg f,if_neg λh=>f ⟨(V3.1 h.1).resolve_left λe=>h.2 (e.trans hw),h.2⟩]
theorem cr.zero(h:cr s):cr {s with zero:=c}:=h
theorem DY{u:Nat}{f:cL}{x:bq}{tup un:Int->Int}(h:cr s)(a:s.funs[j]?=σ f)(e:s.vars[u]?=σ x):cr (iY s j f pos u x v tup un):=
 cr.vars (s:=dN s j f (dz tup (ce s f.sc pos v) f.ag f.cs)) (cr.funs h a rfl id) e rfl
theorem DZ{u:Nat}{x:bq}{g z:Int->Int}(h:cr s)(a:s.vars[u]?=σ x):cr (hl s u x g z):=cr.zero (cr.vars h a rfl)
def oi(k:Int)(s:am)(m:fZ)(s':am)(e:Int)(a:Λ):Prop:=gA k s' a=if 5<=m.kind/\e=0/\a[m.i.toNat]? ≠σ m.v then k else gA k s a
theorem D0{m:fZ}(p:bh k sizes s)(G:cr s):bh k sizes (bf k s m).1/\cr (bf k s m).1/\∀a,jt s a->oi k s m (bf k s m).1 (bf k s m).2 a:=by
 have hk:=p.fI;have C:∀e:Int,e≠0->bh k sizes s/\cr s/\∀a,jt s a->oi k s m s e a:=λe he=>⟨p,G,λa _=>by unfold oi;rw[if_neg λh=>he h.2.1]⟩;have low:∀{s':am}{e:Int},m.kind<5->bh k sizes s'->cr s'->(∀a,jt s a->gA k s' a=gA k s a)->bh k sizes s'/\cr s'/\∀a,jt s a->oi k s m s' e a:=λhm h1 L U=>⟨h1,L,λa y=>by unfold oi;rw[if_neg λh=>Ω];exact U a y⟩;unfold bf;split
 .rename_i Q;cases z:er s m.i m.pos m.v with
  |none=>exact C 1 Φ
  |some q=>
   obtain⟨f,u,x⟩:=q;simp only;split
   .rename_i he;exact C _ he
   .rename_i he;obtain⟨A,hm⟩:=lp he;simp only;obtain⟨_,_,H,M,hu,B⟩:=mT z;obtain⟨ab,j,F,R⟩:=jy B;have I:=x5 H;have V:∀t∈ce s f.sc m.pos.toNat m.v,m.c<=bn f.ag f.cs t:=λt E=>((og _ _ _).1 hm).2 _ (l9.2 ⟨t,E,rfl⟩);have S:f.sc[m.pos.toNat]?=σ ((u.toNat:Nat):Int):=by rw[hu];congr 1;omega
    have E:∀t∈ce s f.sc m.pos.toNat m.v,0<=da k (bn f.ag f.cs t) m.c/\da k (bn f.ag f.cs t) m.c<=k:=λt E=>mU (oh p I) ⟨A.1,V t E⟩;have N:=mV (k:=k) (hn (v:=m.v.toNat) p j) A.1;refine low Ω (DL p H j E N) (DY G H j) λa y=>DM p y H M S j R (G f I M) E N λt E r J=>?_;have:=oh (t:=t) p I;exact tr J ⟨V t E,this.2⟩ (hn p j) A.1
 split
 .rename_i _ Q;cases z:er s m.i m.pos m.v with
  |none=>exact C 1 Φ
  |some q=>
   obtain⟨f,u,x⟩:=q;simp only;split
   .rename_i he;exact C _ he
   .rename_i he;obtain⟨A,hm⟩:=lp he;simp only;obtain⟨_,_,H,M,hu,B⟩:=mT z;obtain⟨ab,j,F,R⟩:=jy B;have I:=x5 H;have S:f.sc[m.pos.toNat]?=σ ((u.toNat:Nat):Int):=by rw[hu];congr 1;omega
    have E:∀t∈ce s f.sc m.pos.toNat m.v,0<=cM k (bn f.ag f.cs t) m.c/\cM k (bn f.ag f.cs t) m.c<=k:=λt E=>mV (oh p I) A.1;have N:=mU (k:=k) (hn (v:=m.v.toNat) p j) ⟨A.1,hm⟩;refine low Ω (DL p H j E N) (DY G H j) λa y=>DM p y H M S j R (G f I M) E N λt E r J=>?_;have h1:=oh (t:=t) p I;have L:=hn (v:=m.v.toNat) p j;have:=tr (k:=k) J ⟨hm,L.2⟩ h1 A.1;omega
 split
 .rename_i _ _ Q;cases z:(if 0<=m.i then s.vars[m.i.toNat]? else ν)with
  |none=>exact C 1 Φ
  |some x=>
   have j:s.vars[m.i.toNat]?=σ x:=by split at z;exact z;cases z
   simp only;split
   .exact C 1 Φ
   split
   .rename_i he;exact C _ he
   .rename_i F he;obtain⟨A,hm⟩:=lp he;simp only;have W:∀v∈ay x,m.c<=x.un.getD v.toNat 0:=λv B=>xb B hm;have O:∀v∈ay x,0<=da k (x.un.getD v.toNat 0) m.c/\da k (x.un.getD v.toNat 0) m.c<=k:=λv B=>mU (hn p j) ⟨A.1,W v B⟩;have P:=mV (k:=k) p.zero A.1;refine low Ω (w2 p j O P) (DZ G j) λa y=>DO p y j (X3.1 F) O P λv B r J=>?_;exact tr J ⟨W v B,(hn p j).2⟩ p.zero A.1
 split
 .rename_i _ _ _ Q;cases z:(if 0<=m.i then s.vars[m.i.toNat]? else ν)with
  |none=>exact C 1 Φ
  |some x=>
   have j:s.vars[m.i.toNat]?=σ x:=by split at z;exact z;cases z
   simp only;obtain⟨X,Y⟩:∃X,X=(if ay x=[]then-1 else s.zero):=⟨_,rfl⟩;rw[<-Y];split
   .exact C 1 Φ
   split
   .rename_i he;exact C _ he
   .rename_i F he;obtain⟨A,hm⟩:=lp he;simp only;have Z:m.c<=s.zero:=by
     rw[Y]at hm;split at hm
     .omega
     .exact hm
    have O:∀v∈ay x,0<=cM k (x.un.getD v.toNat 0) m.c/\cM k (x.un.getD v.toNat 0) m.c<=k:=λv B=>mV (hn p j) A.1;have P:=mU (k:=k) p.zero ⟨A.1,Z⟩;refine low Ω (w2 p j O P) (DZ G j) λa y=>DO p y j (X3.1 F) O P λv B r J=>?_;have:=tr (k:=k) J ⟨Z,p.zero.2⟩ (hn (v:=v.toNat) p j) A.1;omega
 split
 .rename_i _ _ _ _ Q;cases z:dA s m.i m.v with
  |none=>exact C 1 Φ
  |some x=>
   obtain⟨_,j,F,B⟩:=jy z;simp only;split
   .exact C 7 Φ
   .rename_i he;have aa:=(fb.1 B).1;simp only;refine low Ω (w4 p j aa) (by rw[jw j];exact cr.vars G j rfl) λa y=>?_;have ac:=(x4.1 j).1;have ad:=y.1;obtain⟨bb,K⟩:=aF (l:=a) (i:=m.i.toNat) Ω;rw[DP p y j F aa K];split
    .rename_i e;subst e;rw[ob p];split
     .have ae:(s.vars.zip a)[m.i.toNat]?=σ (x,m.v):=List.getElem?_zip_eq_some.2 ⟨j,K⟩;have h1:=qY (ts (a:=a) p) (i:=m.i.toNat) (x:=dv (x,m.v)) (by rw[x8,ae];rfl);have L:=qX _ (qZ (a:=a) p);have ah:dv (x,m.v)=x.un.getD m.v.toNat 0:=by unfold dv;rw[if_neg (by simp[F])]
      unfold cM at he;omega
     .rfl
    .rfl
 .rename_i h1 L U ai aj;cases z:dA s m.i m.v with
  |none=>exact C 1 Φ
  |some x=>
   obtain⟨_,j,F,B⟩:=jy z;simp only;have T:∀w∈ay x,0<=w/\w<x.un.length:=λw hw=>(fb.1 hw).1;refine⟨(q4 (a:=[]) (ay x) s p j T).1,(q4 (a:=[]) (ay x) s p j T).2.1 G,λa y=>?_⟩;have ac:=(x4.1 j).1;have ad:=y.1;obtain⟨bb,K⟩:=aF (l:=a) (i:=m.i.toNat) Ω;unfold oi;rw[(q4 (ay x) s p j T).2.2 bb y F K,K];by_cases e:bb=m.v
   .rw[if_neg λh=>h.2 e,if_neg λh=>h.2.2 (by rw[e])]
   .rw[if_pos (c:=5<=m.kind/\_) ⟨Ω,rfl,λh=>e (Z2 h)⟩];split
    .rfl
    .rename_i af;exact OJ y j F K λh=>af ⟨h,e⟩
end
theorem O2{f:Int->Int}{cs:Λ}(I:dE ag)(q:cs.length<=(bg ag).length)(h:∀t∈L,f (bn ag cs t)=bn ag cs t):dz f L ag cs=cs:=by
 apply X2;intro i;cases a:cs[i]? with
 |none=>
  have h1:=List.getElem?_eq_none_iff.1 a;rw[Y0 (by rw[n8]<;>omega)]
 |some c=>
  obtain⟨t,j⟩:=aF (l:=bg ag) (i:=i) (by have:=(x4.1 a).1;omega);rw[pr j a];split
  .rename_i p;have e:bn ag cs t=c:=by
    unfold bn;rw[jq I j];simp only;rw[u6,v8,a];rfl
   have:=h t p;rw[e]at this;rw[this]
  .rfl
section
variable{k:Int}{sizes:Λ}{s:am}
theorem O3{i:Int}{u:Nat}{x y:bq}{s':am}(a:s.vars[u]?=σ x)(f:s'.vars=s.vars.set u y)(h:ay y=ay x):bB s' i=bB s i:=by
 unfold bB;rw[f,X1];by_cases e:u=i.toNat
 .subst e;rw[if_pos rfl,if_pos (x4.1 a).1,a];exact h
 .rw[if_neg e]
theorem O4{x:bq}{un:Λ}(h:un.length=x.un.length):ay {x with un:=un}=ay x:=by
 unfold ay;rw[h]
end
section
variable{k:Int}{sizes:Λ}{s:am}
theorem tB{f:cL}(a:bh k sizes s)(e:f∈s.funs)(p:∀u,f.sc[pos]?=σ u->v∈bB s u)(h:t∈ce s f.sc pos v):∃m:Nat,cB f.ag t 0=σ (m:Int):=by
 obtain⟨j,q,_⟩:=a.funs f e;obtain⟨r,_⟩:=ll a e;rw[wV a (λu hu=>⟨(j.scope.1 u hu).1,j.vars u hu⟩) p,<-q]at h;obtain⟨i,hi⟩:=X5.1 (S4.1 h).1;exact⟨i,jq r hi⟩
end
theorem O5{x:bq}(p:ay x≠[])(h:∀v∈ay x,c<=x.un.getD v.toNat 0):c<=gQ x:=by
 unfold gQ;have a:∀y∈(ay x).map λv=>x.un.getD v.toNat 0,c<=y:=λy f=>by
  obtain⟨v,q,rfl⟩:=l9.1 f;exact h v q
 have j:(ay x).map (λv=>x.un.getD v.toNat 0)≠[]:=λe=>p (List.map_eq_nil_iff.1 e);generalize (ay x).map (λv=>x.un.getD v.toNat 0)=l at a j;cases l with
 |nil=>exact absurd rfl j
 |cons b l=>exact(og l b c).2 ⟨a b (.head _),λy f=>a y (.tail _ f)⟩
section
variable{k:Int}{sizes:Λ}{s:am}
theorem D1{x:bq}{g:Int->Int}{L:Λ}:ay {x with un:=dV g x.un L}=ay x:=O4 (q0 _ _)
theorem O6{a:fZ}{x:bq}(w:0<=a.i)(y:s.vars[a.i.toNat]?=σ x)(f:x.gone=0):
  (a.kind=2->(bf k s a).2=0->bf k s a=(hl s a.i.toNat x (λg=>da k g a.c) λg=>cM k g a.c,0)/\(0<=a.c/\a.c<=k)/\a.c<=gQ x)/\
  (a.kind=2->(0<=a.c/\a.c<=k)->a.c<=gQ x->bf k s a=(hl s a.i.toNat x (λg=>da k g a.c) λg=>cM k g a.c,0))/\
  (a.kind=3->(bf k s a).2=0->bf k s a=(hl s a.i.toNat x (λg=>cM k g a.c) λg=>da k g a.c,0)/\(0<=a.c/\a.c<=k)/\a.c<=(if ay x=[]then-1 else s.zero))/\
  (a.kind=3->(0<=a.c/\a.c<=k)->a.c<=(if ay x=[]then-1 else s.zero)->bf k s a=(hl s a.i.toNat x (λg=>cM k g a.c) λg=>da k g a.c,0)):=by
 have q:∀{m:Int},(0<=a.c/\a.c<=k)->a.c<=m->db k a.c m=0:=λh1 j=>by
  unfold db;rw[if_neg (λh=>h h1),if_neg Ω]
 generalize r:(if ay x=[]then-1 else s.zero)=z;have p:(if 0<=a.i then s.vars[a.i.toNat]? else ν)=σ x:=by rw[if_pos w,y]
 refine⟨λhk he=>?_,λhk h1 j=>?_,λhk he=>?_,λhk h1 j=>?_⟩
 .unfold bf at he ⊢;rw[if_neg Ω,if_neg Ω,if_pos hk,p]at he ⊢;simp only at he ⊢;rw[if_neg (λh=>h f)]at he ⊢;split at he
  .rename_i e;exact absurd he e
  .rename_i e;rw[if_neg e];exact⟨rfl,lp e⟩
 .unfold bf;rw[if_neg Ω,if_neg Ω,if_pos hk,p];simp only;rw[if_neg (λh=>h f),if_neg (λh=>h (q h1 j))]
 .unfold bf at he ⊢;rw[if_neg Ω,if_neg Ω,if_neg Ω,if_pos hk,p]at he ⊢;simp only[r]at he ⊢;rw[if_neg (λh=>h f)]at he ⊢;split at he
  .rename_i e;exact absurd he e
  .rename_i e;rw[if_neg e];exact⟨rfl,lp e⟩
 .unfold bf;rw[if_neg Ω,if_neg Ω,if_neg Ω,if_pos hk,p];simp only[r];rw[if_neg (λh=>h f),if_neg (λh=>h (q h1 j))]
end
section
variable{k:Int}{sizes:Λ}{s:am}
theorem O7{m:fZ}(h:(bf k s m).2≠0):(bf k s m).1=s:=by
 generalize hm:bf k s m=r at h ⊢;unfold bf at hm
 repeat' split at hm
 all_goals (subst hm;first|rfl|exact absurd rfl h)
end
theorem D2{of:Int->Int}(hk:0<=k)(h:∀v∈l,0<=of v/\of v<=k):0<=(dm k l of).1/\(dm k l of).1<=k:=by
 unfold dm;have:∀(l:Λ)(p:Int×Int),(0<=p.1/\p.1<=k)->(∀v∈l,0<=of v/\of v<=k)->0<=(l.foldl (eQ of) p).1/\(l.foldl (eQ of) p).1<=k:=λl=>by
  induction l with
  |nil=>exact λp a _=>a
  |cons v l f=>
   intro p a e;refine f _ ?_ λu hu=>e u (.tail _ hu);unfold eQ;split
   .exact e v (.head _)
   .exact a
 exact this l (k,-1) ⟨hk,Int.le_refl _⟩ h
section
variable{w:x3}{ab ac:Nat}{A R:af}{n:aI}{s:am}{t:aw}
end
def dw(n:aI)(s:am)(i:Int):Int×Int:=dm n.k (bB s i) (eA n s i)
section
variable{k:Int}{n:aI}{s:am}
end
theorem xc{of:Int->Int}{c:Int}:∀(l:Λ)(b w:Int),w≠ -1->(∀v∈l,v≠ -1)->(c<=(l.foldl (eQ of) (b,w)).1↔c<=b/\∀v∈l,c<=of v)
 |[],b,w,_,_=>Ξ
 |v::l,b,w,hw,e=>by
  rw[T9,List.forall_mem_cons];have j:=e v (.head _);have f:=λu hu=>e u (.tail _ hu);unfold eQ;by_cases h:of v<b
  .rw[if_pos (.inr h)];show c<=(l.foldl (eQ of) (of v,v)).1↔_;rw[xc l _ _ j f];exact⟨λ⟨h1,a⟩=>⟨Ω,h1,a⟩,λ⟨_,h1,a⟩=>⟨h1,a⟩⟩
  .rw[if_neg (by rintro (h1|h1)<;>contradiction)];show c<=(l.foldl (eQ of) (b,w)).1↔_;rw[xc l _ _ hw f];exact⟨λ⟨h1,a⟩=>⟨h1,Ω,a⟩,λ⟨h1,_,a⟩=>⟨h1,a⟩⟩
theorem O8{of:Int->Int}(h:∀v∈l,v≠ -1/\of v<=k):c<=(dm k l of).1↔c<=k/\∀v∈l,c<=of v:=by
 cases l with
 |nil=>simp[dm]
 |cons v l=>
  have f:=h v (.head _);have e:dm k (v::l) of=l.foldl (eQ of) (of v,v):=by
   unfold dm;rw[T9];congr 1
  rw[e,xc l _ _ f.1 λu hu=>(h u (.tail _ hu)).1,List.forall_mem_cons];exact⟨λ⟨h1,a⟩=>⟨Ω,h1,a⟩,λ⟨_,h1,a⟩=>⟨h1,a⟩⟩
section
variable{n:aI}{s:am}
theorem O9{i:Int}(e:bh n.k n.sizes s):∀v∈bB s i,v≠ -1/\eA n s i v<=n.k:=λv a=>by
 refine⟨?_,(wT e).2⟩;unfold bB at a;split at a
 .have:=DC a;omega
 .cases a
theorem D3{i:Int}(a:bh n.k n.sizes s):0<=(dw n s i).1/\(dw n s i).1<=n.k:=by
 have hk:=a.fI;exact D2 Ω λv _=>wT a
theorem D4{w:Nat}{x:bq}{i u:Int}(f:bh n.k n.sizes s)(a:s.vars[w]?=σ x)(j:0<=v):u∈bB (dH s w v.toNat) i↔u∈bB s i/\(i.toNat=w->u≠v):=by
 have p:=(x4.1 a).1;have r:=f.vars;have h1:=f.var w x _ a (x6 Ω);have hm:((x.mask.toNat:Nat):Int)=x.mask:=Ω
 unfold bB;rw[jw a];simp only[X1];by_cases e:w=i.toNat
 .subst e;rw[if_pos rfl,if_pos p,a];simp only;rw[fb,fb];by_cases hu:0<=u
  .simp only;rw[w3 j hu,hm,U5];simp[and_assoc]
  .exact⟨λh=>Ω,λh=>Ω⟩
 .rw[if_neg e];exact⟨λh=>⟨h,λq=>absurd q.symm e⟩,λh=>h.1⟩
theorem Pa{w:Nat}{i u:Int}{x:bq}(a:s.vars[w]?=σ x):eA n (dH s w v.toNat) i u=eA n s i u:=by
 unfold eA fY;rw[jw a];simp only[X1];by_cases e:w=i.toNat
 .subst e;rw[if_pos rfl,if_pos (x4.1 a).1,a]
 .rw[if_neg e]
end
structure dO(s s':am):Prop where
 vars:s'.vars.length=s.vars.length
 var:∀(i:Nat)x y,s.vars[i]?=σ x->s'.vars[i]?=σ y->y.gone=x.gone/\y.un.length=x.un.length
 funs:s'.funs.length=s.funs.length
 fn:∀(j:Nat)f g,s.funs[j]?=σ f->s'.funs[j]?=σ g->g.sc=f.sc/\g.ag=f.ag/\g.live=f.live/\g.cs.length=f.cs.length
 c5:s'.c5=s.c5
theorem dO.rfl{s:am}:dO s s:=⟨Eq.refl _,λ_ _ _ h1 a=>by rw[h1]at a;cases a;exact⟨Eq.refl _,Eq.refl _⟩,Eq.refl _,λ_ _ _ h1 a=>by rw[h1]at a;cases a;exact⟨Eq.refl _,Eq.refl _,Eq.refl _,Eq.refl _⟩,Eq.refl _⟩
theorem dO.trans{a b c:am}(h:dO a b)(k:dO b c):dO a c:=by
 refine⟨k.vars.trans h.vars,λi x z p A=>?_,k.funs.trans h.funs,λj f q r B=>?_,k.c5.trans h.c5⟩
 .have C:=(x4.1 p).1;have E:=h.vars;obtain⟨y,s⟩:=aF (l:=b.vars) (i:=i) Ω;have h1:=h.var i x y p s;have e:=k.var i y z s A;exact⟨e.1.trans h1.1,e.2.trans h1.2⟩
 .have C:=(x4.1 r).1;have E:=h.funs;obtain⟨g,w⟩:=aF (l:=b.funs) (i:=j) Ω;have h1:=h.fn j f g r w;have e:=k.fn j g q w B;exact⟨e.1.trans h1.1,e.2.1.trans h1.2.1,e.2.2.1.trans h1.2.2.1,e.2.2.2.trans h1.2.2.2⟩
section
variable{k:Int}{sizes:Λ}{s:am}
theorem xd{i:Nat}{x y:bq}(r:s.vars[i]?=σ x)(w:y.gone=x.gone)(z:y.un.length=x.un.length):dO s {s with vars:=s.vars.set i y}:=by
 refine⟨Z6,λj a b q h=>?_,rfl,λj f g h1 p=>?_,rfl⟩
 .have h:(s.vars.set i y)[j]?=σ b:=h;by_cases e:i=j
  .subst e;rw[Z0 (x4.1 r).1]at h;rw[r]at q;cases q;cases h;exact⟨w,z⟩
  .rw[Y8 e,q]at h;cases h;exact⟨rfl,rfl⟩
 .have p:s.funs[j]?=σ g:=p;rw[h1]at p;cases p;exact⟨rfl,rfl,rfl,rfl⟩
theorem Pb{f g:cL}(w:s.funs[j]?=σ f)(h:g.sc=f.sc/\g.ag=f.ag/\g.live=f.live/\g.cs.length=f.cs.length):dO s {s with funs:=s.funs.set j g}:=by
 refine⟨rfl,λi a b r p=>?_,Z6,λq a b r p=>?_,rfl⟩
 .have p:s.vars[i]?=σ b:=p;rw[r]at p;cases p;exact⟨rfl,rfl⟩
 .have p:(s.funs.set j g)[q]?=σ b:=p;by_cases e:j=q
  .subst e;rw[Z0 (x4.1 w).1]at p;rw[w]at r;cases r;cases p;exact h
  .rw[Y8 e,r]at p;cases p;exact⟨rfl,rfl,rfl,rfl⟩
theorem Pc:dO s {s with zero:=c}:=⟨rfl,λ_ _ _ h1 a=>by have a:s.vars[_]?=σ _:=a;rw[h1]at a;cases a;exact⟨rfl,rfl⟩,rfl,λ_ _ _ h1 a=>by have a:s.funs[_]?=σ _:=a;rw[h1]at a;cases a;exact⟨rfl,rfl,rfl,rfl⟩,rfl⟩
theorem xe{i:Nat}:dO s (dH s i v.toNat):=by
 cases a:s.vars[i]? with
 |none=>unfold dH;rw[a];exact .rfl
 |some x=>rw[jw a];exact xd a rfl rfl
theorem xf{i:Nat}{v:Int}:∀(L:Λ)(s:am),dO s (gb s i v L)
 |[],_=>.rfl
 |w::L,s=>by
  unfold gb;split
  .exact xe.trans (xf L _)
  .exact xf L s
theorem D5{u:Nat}{x:bq}{g z:Int->Int}(a:s.vars[u]?=σ x):dO s (hl s u x g z):=
 (xd (y:={x with un:=dV g x.un (ay x)}) a rfl (q0 _ _)).trans Pc
theorem D6{u:Nat}{f:cL}{x:bq}{t un:Int->Int}(e:bh k sizes s)(a:s.funs[j]?=σ f)(h:s.vars[u]?=σ x):dO s (iY s j f pos u x v t un):=by
 obtain⟨_,p⟩:=ll e (x5 a);have h1:dO s (dN s j f (dz t (ce s f.sc pos v) f.ag f.cs)):=Pb a ⟨rfl,rfl,rfl,n8 _ _ _ _ Ω⟩;exact h1.trans (xd (s:=dN s j f (dz t (ce s f.sc pos v) f.ag f.cs)) (y:={x with un:=x.un.set v.toNat (un (x.un.getD v.toNat 0))}) h rfl Z6)
theorem D7{m:fZ}(w:bh k sizes s):dO s (bf k s m).1:=by
 by_cases he:(bf k s m).2=0
 .generalize a:bf k s m=r at he ⊢;unfold bf at a;split at a
  .split at a
   .subst a;exact .rfl
   .rename_i f u x e;obtain⟨_,_,j,_,_,p⟩:=mT e;obtain⟨_,q,_,_⟩:=jy p;split at a
    .subst a;exact .rfl
    .subst a;simp only;exact D6 w j q
  split at a
  .split at a
   .subst a;exact .rfl
   .rename_i f u x e;obtain⟨_,_,j,_,_,p⟩:=mT e;obtain⟨_,q,_,_⟩:=jy p;split at a
    .subst a;exact .rfl
    .subst a;simp only;exact D6 w j q
  have key:∀{x:bq},(if 0<=m.i then s.vars[m.i.toNat]? else ν)=σ x->s.vars[m.i.toNat]?=σ x:=λh=>by
   split at h
   .exact h
   .cases h
  split at a
  .split at a
   .subst a;exact .rfl
   .rename_i x e;split at a
    .subst a;exact .rfl
    .split at a
     .subst a;exact .rfl
     .subst a;simp only;exact D5 (key e)
  split at a
  .split at a
   .subst a;exact .rfl
   .rename_i x e;generalize (if ay x=[]then-1 else s.zero)=y at a;split at a
    .subst a;exact .rfl
    .split at a
     .subst a;exact .rfl
     .subst a;simp only;exact D5 (key e)
  split at a
  .split at a
   .subst a;exact .rfl
   .split at a
    .subst a;exact .rfl
    .subst a;exact xe
  .split at a
   .subst a;exact .rfl
   .subst a;exact xf _ _
 .rw[O7 he];exact .rfl
def et(i v:Int):fZ:=⟨4,i,0,v,0⟩
def kG(i c:Int):fZ:=⟨2,i,0,0,c⟩
def dc(k:Int)(i:Int):Λ->am×Bool->am×Bool
 |[],p=>p
 |v::L,p=>dc k i L ((bf k p.1 (et i v)).1,decide ((bf k p.1 (et i v)).2=0)||p.2)
def eZ(n:aI)(i:Int)(p:am×Bool):am×Bool×Bool:=
 if dM p.1 i.toNat=true then(p.1,p.2,false)else
 let q:=dc n.k i (bB p.1 i) (p.1,false)
 if(dw n q.1 i).2<0 then(q.1,false,true)else
 if 0<(dw n q.1 i).1 then((bf n.k q.1 (kG i (dw n q.1 i).1)).1,true,false)else(q.1,q.2||p.2,false)
def gD(n:aI):List Nat->am×Bool->am×Bool×Bool
 |[],p=>(p.1,p.2,false)
 |i::L,p=>if(eZ n (i:Int) p).2.2=true then((eZ n (i:Int) p).1,false,true)else gD n L ((eZ n (i:Int) p).1,(eZ n (i:Int) p).2.1)
def eI(n:aI)(s:am):am×Bool×Bool:=gD n (V0 n.sizes.length) (s,false)
structure hM(k:Int)(sizes:Λ)(s s':am):Prop where
 ok:bh k sizes s'
 l5:cr s'
 same:dO s s'
 val:∀a,jt s a->gA k s' a=gA k s a
 pu:∀i u,u∈bB s' i->u∈bB s i
 zero:s.zero<=s'.zero
theorem Pd{a:Λ}{s':am}(h:dO s s')(e:jt s a):jt s' a:=by
 refine⟨e.1.trans h.vars.symm,λi y v f p=>?_⟩;have q:=(x4.1 f).1;have r:=h.vars;obtain⟨x,j⟩:=aF (l:=s.vars) (i:=i) Ω;have h1:=h.var i x y j f;rw[h1.1,h1.2];exact e.2 i x v j p
theorem hM.rfl(a:bh k sizes s)(e:cr s):hM k sizes s s:=⟨a,e,.rfl,λ_ _=>Eq.refl _,λ_ _ h=>h,Int.le_refl _⟩
theorem hM.trans{a b c:am}(h:hM k sizes a b)(g:hM k sizes b c):hM k sizes a c:=
 ⟨g.ok,g.l5,h.same.trans g.same,λx e=>(g.val x (Pd h.same e)).trans (h.val x e),λi u hu=>h.pu i u (g.pu i u hu),Int.le_trans h.zero g.zero⟩
theorem D8{m:fZ}(e:bh k sizes s)(f:cr s)(hm:m.kind<5)(h:∀i u,u∈bB (bf k s m).1 i->u∈bB s i)(j:s.zero<=(bf k s m).1.zero):hM k sizes s (bf k s m).1:=by
 obtain⟨h1,p,q⟩:=D0 (m:=m) e f;refine⟨h1,p,D7 e,λa r=>?_,h,j⟩;have:=q a r;unfold oi at this;rw[if_neg Ω]at this;exact this
end
def tC(B:Nat)(w:x3)(a:x1)(cs:List x1)(f:b2):Prop:=∃ab ac A R t N A9 aA,fe N f/\a=Γ ab/\bp w ab ac A R (c3 f) (dq (c3 f)) t/\Plain t/\(∀r,A r->B<=r)/\
 iw true A9 aA w cs (c3 f).k (c3 f).sizes (dq (c3 f))/\(∀q r,A9 q r->¬A r/\¬R r/\B<=r)/\(∀r,aA r->¬eg w r/\r<w.heap.size/\B<=r)/\∀r,R r->B<=r
def Pe(w:x3)(q:Λ)(v:x1)(w':x3):Prop:=Ext w w'/\∃a cs ok,v= .tuple #[a,.agg cs.toArray,.bool ok]/\(cs.length=8/\∀u∈cs,u.oneCell'=true)/\((ok=false/\a= .pointer ν)\/(ok=true/\∃f,gp q=σ f/\tC w.heap.size w' a cs f))/\∀f,gp q=σ f->lY f.funs<=16384->ok=true
theorem Pf(I:dE ag):(bg ag).Nodup:=by
 rw[List.nodup_iff_pairwise_ne,V9];intro i j hi a f he;have h1:=jq I (x6 hi);have e:=jq I (x6 a);rw[he,e]at h1;have:=Z2 h1;omega
section
variable{k:Int}{sizes:Λ}{s:am}
theorem D9{f:cL}(a:bh k sizes s)(e:f∈s.funs)(j:∀u,f.sc[pos]?=σ u->v∈bB s u):(ce s f.sc pos v).Nodup:=by
 obtain⟨h,p,_⟩:=a.funs f e;obtain⟨q,_⟩:=ll a e;rw[wV a (λu hu=>⟨(h.scope.1 u hu).1,h.vars u hu⟩) j,<-p];exact(Pf q).sublist List.filter_sublist
theorem xg{α:Type}{l:List α}{q:Nat}{a:α}(e:l.Nodup)(h:l[q]?=σ a):a∉l.take q:=λhm=>by
 obtain⟨i,hi⟩:=X5.1 hm;have f:i<q:=by have:=(x4.1 hi).1;rw[o7]at this;omega
 rw[Z9 f]at hi;have h1:=(x4.1 hi).1;have j:=(x4.1 h).1;have:=(List.getElem_inj e (h₀:=h1) (h₁:=j)).1 (by rw[(x4.1 hi).2,(x4.1 h).2]);omega
theorem Ea{m q:Nat}{f:cL}{g:Int->Int}(y:bh k sizes s)(p:s.funs[j]?=σ f)(z:L.Nodup)(r:L[q]?=σ t)(hi:cB f.ag t 0=σ (m:Int)):
  bn f.ag (dz g (L.take q) f.ag f.cs) t=bn f.ag f.cs t/\kE (dN s j f (dz g (L.take q) f.ag f.cs)) j m (g (bn f.ag f.cs t))=dN s j f (dz g (L.take (q+1)) f.ag f.cs):=by
 obtain⟨a,A⟩:=ll y (x5 p);have w:=xg z r;refine⟨by rw[DH a A hi,if_neg w],?_⟩;have h:=mD a hi;rw[u6]at h;have E:=(x4.1 h).1;obtain⟨c,x⟩:=aF (l:=f.cs) (i:=m) Ω;have e:bn f.ag f.cs t=c:=by
  unfold bn;rw[hi];simp only;rw[u6,v8,x];rfl
 have B:=(Ou (f:=g) a Ω h x w).2;unfold kE;have C:(dN s j f (dz g (L.take q) f.ag f.cs)).funs[j]?=σ {f with cs:=dz g (L.take q) f.ag f.cs}:=Z0 (x4.1 p).1;rw[C,e];simp only;rw[B,u7,r];unfold dN;simp only[List.set_set];rfl
end
section
variable{w:x3}{ab ac:Nat}{A R:af}{n:aI}{s:am}{t:aw}
theorem xh{i:Int}(h:bp w ab ac A R n s t):ai x7 Hc [Γ ab,Δ i,Δ v] w λr w'=>Ext w w'/\r=Δ (if(dA s i v).isSome=true then 0 else 1):=by
 have L:=h.2.2.2.1.vars;refine az func148 ?_;rw[cP de.u];simp only[j9,aU];refine aT (λr J=>r= .bool (!(dA s i v).isSome)/\Ext w J) ?_ ?_
 .rintro _ J ⟨rfl,C⟩;rw[b7];exact⟨λp=>⟨C,by rw[if_neg (by simpa using p)]⟩,λp=>⟨C,by rw[if_pos (by simpa using p)]⟩⟩
 intro ax E;refine(qU (i:=i) h).mono ?_;rintro _ U _ ⟨rfl,q⟩;rw[b7];refine⟨λa=>E _ _ ⟨?_,q⟩,λa=>?_⟩
 .rw[U4,decide_eq_true_eq]at a;have y:dA s i v=ν:=by
   unfold dA;rw[if_pos a.1];have z:=a.2;unfold dM at z;cases e:s.vars[i.toNat]? with
   |none=>rfl
   |some x=>
    rw[e]at z;simp only;rw[if_neg λh=>by simp[h.1]at z]
  rw[y];rfl
 refine(iX (i:=i) (h.ext q)).mono ?_;rintro _ M _ ⟨⟨b,m,rfl,B⟩,H⟩;refine(Dp (v:=v) B.1).mono ?_;rintro _ N _ ⟨rfl,I⟩;rw[bC];refine E _ _ ⟨?_,(q.trans H).trans I⟩;congr 2;by_cases f:0<=i/\i<n.sizes.length
 .obtain⟨x,e⟩:=aF (l:=s.vars) (i:=i.toNat) Ω;rw[Oz B f.1 e];unfold dA;rw[if_pos f.1,e];have K:x.gone=0:=by
   rw[decide_eq_true f.1,T6]at a;unfold dM at a;rw[e]at a;simpa using a
  simp only;by_cases j:v∈ay x
  .rw[decide_eq_true j,if_pos ⟨K,j⟩];rfl
  .rw[decide_eq_false j,if_neg λh=>j h.2];rfl
 .obtain⟨rfl,rfl⟩:=B.2.1 f;have y:dA s i v=ν:=by
   unfold dA;by_cases G:0<=i
   .rw[if_pos G,Y0 Ω]
   .rw[if_neg G]
  rw[y,decide_eq_false Ω];rfl
def Pg(s:am)(j pos v:Int)(u e:Int):Prop:=(e=0/\∃f x,er s j pos v=σ (f,u,x))\/(e=1/\er s j pos v=ν)
theorem Eb{j pos:Int}(h:bp w ab ac A R n s t):ai x7 G9 [Γ ab,Δ j,Δ pos,Δ v] w λr w'=>Ext w w'/\∃u e,r= .tuple #[Δ u,Δ e]/\Pg s j pos v u e:=by
 refine az func145 ?_;rw[cP de.u];simp only[j9,aU];have key:∀(K:x1->x3->Prop),(∀r w',Ext w w'->(∀f,0<=j->s.funs[j.toNat]?=σ f->aH .i64 w' r f.sc)->K r w')->ai x7 rM [Γ ab,Δ j] w K:=λK W=>by
  by_cases X:0<=j/\j<s.funs.length
  .obtain⟨f,p⟩:=aF (l:=s.funs) (i:=j.toNat) Ω;have:=wU h p;rw[show((j.toNat:Nat):Int)=j by omega]at this;refine this.mono ?_;rintro r J _ ⟨C,g,_,hm⟩;exact W r J C λH _ Y=>by rw[p]at Y;cases Y;exact hm.ls
  .refine (Ot h X).mono ?_;rintro r J _ ⟨rfl,C⟩;exact W _ J C λf E p=>absurd ⟨E,by have:=(x4.1 p).1;omega⟩ X
 refine key _ λr J C Z=>?_;have M:∀{P:Prop},(¬∃f u,0<=j/\0<=pos/\s.funs[j.toNat]?=σ f/\f.live≠0/\f.sc[pos.toNat]?=σ u)->(er s j pos v=ν->P)->P:=λz am=>am (by
  cases I:er s j pos v with
  |none=>rfl
  |some q=>
   obtain⟨f,u,x⟩:=q;obtain⟨N,O,a3,a4,a5,_⟩:=mT I;exact absurd ⟨f,u,N,O,a3,a4,a5⟩ z)
 refine aT (λaa U=>Ext J U/\((aa= .bool true/\er s j pos v=ν)\/(aa= .bool false/\∃f u,0<=j/\0<=pos/\s.funs[j.toNat]?=σ f/\f.live≠0/\f.sc[pos.toNat]?=σ u))) ?_ ?_
 .rintro _ U ⟨Q,⟨rfl,z⟩|⟨rfl,f,u,E,ad,p,an,hu⟩⟩
  .rw[bL];exact⟨C.trans Q,0,1,rfl,.inr ⟨rfl,z⟩⟩
  .rw[aU];intro ao B _ _;have ae:=(Z f E p).ext (Q.trans B);refine pZ (y:=pos) (i:=pos.toNat) Ω ap.u ah.i ae hu λb o aq=>?_;rw[aB (v:=Δ u) Ψ aq,gl (y:=pos) (i:=pos.toNat) Ω ap.u ah.i Ψ ae hu];have af:=(C.trans Q).trans B;refine(xh (i:=u) (v:=v) (h.ext af)).mono ?_;rintro _ av _ ⟨ag,rfl⟩;refine⟨.inl ag,af.trans ag,u,_,rfl,?_⟩;have I:er s j pos v=(dA s u v).map λx=>(f,u,x):=by
    unfold er;rw[if_pos ⟨E,ad⟩,p];simp only;rw[if_pos an,hu]
   cases ak:dA s u v with
   |none=>exact .inr ⟨rfl,by rw[I,ak];rfl⟩
   |some x=>exact .inl ⟨rfl,f,x,by rw[I,ak];rfl⟩
 intro ax L;refine(wM (j:=j) (h.ext C)).mono ?_;rintro _ ao _ ⟨rfl,B⟩;have same:∀{f H:cL},s.funs[j.toNat]?=σ f->s.funs[j.toNat]?=σ H->H=f:=λa b=>by rw[a]at b;exact(Z2 b).symm
 rw[bC,b7];refine⟨λS=>M (λ⟨f,u,N,O,a3,a4,a5⟩=>?_) λz=>L _ _ ⟨B,.inl ⟨rfl,z⟩⟩,λV=>?_⟩
 .unfold gC at S;rw[a3]at S;simp[N,a4]at S
 have V:0<=j/\gC s j.toNat=true:=by simpa using V
 obtain⟨E,G⟩:=V;obtain⟨f,p,au⟩:∃f,s.funs[j.toNat]?=σ f/\f.live≠0:=by
  unfold gC at G;cases p:s.funs[j.toNat]? with
  |none=>rw[p]at G;cases G
  |some f=>rw[p]at G;exact⟨f,rfl,by simpa using G⟩
 rw[aQ,aj];refine⟨λaw=>M (λ⟨_,_,_,O,_⟩=>Ω) λz=>L _ _ ⟨B,.inl ⟨rfl,z⟩⟩,λad=>?_⟩;rw[aW ap.u ((Z f E p).ext B),cI];by_cases al:(f.sc.length:Int)<=pos
 .refine M (λ⟨H,u,_,_,a3,_,a5⟩=>?_) λz=>L _ _ ⟨B,.inl ⟨by rw[decide_eq_true al],z⟩⟩;obtain rfl:=same p a3;have:=(x4.1 a5).1;omega
 .obtain⟨u,hu⟩:=aF (l:=f.sc) (i:=pos.toNat) Ω;exact L _ _ ⟨B,.inr ⟨by rw[decide_eq_false al],f,u,E,Ω,p,au,hu⟩⟩
theorem tD{most:Int}(h:bp w ab ac A R n s t):ai x7 GM [Γ ab,Δ c,Δ most] w λr w'=>Ext w w'/\r=Δ (db n.k c most):=by
 refine az func102 ?_;refine(mP h).mono ?_;rintro _ J _ ⟨rfl,a⟩;refine jN.mono ?_;rintro _ U _ ⟨rfl,e⟩;have hi:cp c n.k↔0<=c/\c<=n.k:=⟨λh=>h.2,λj=>⟨h.2.2.2.1.fI,j⟩⟩;unfold db;rw[bC,b7];refine⟨λf=>⟨a.trans e,?_⟩,λf=>?_⟩
 .have:¬cp c n.k:=by simpa using f
  rw[if_pos λh=>this (hi.2 h)]
 .have:cp c n.k:=by simpa using f
  rw[if_neg λh=>h (hi.1 this),bP,aj];exact⟨λh=>⟨a.trans e,by rw[if_pos h]⟩,λh=>⟨a.trans e,by rw[if_neg h]⟩⟩
theorem Ph{a b:Int}(hk:right k)(f:0<=a/\a<=k)(j:0<=b/\b<=k)(s:a=k\/b<=a):ai x7 Hl [Δ a,Δ b,Δ k] w λv w'=>v= .tuple #[Δ (da k a b),Δ 0]/\Ext w w':=by
 have x:1<=k/\k<=2147483648:=hk;refine az func159 ?_;refine aT (λr J=>r= .bool false/\Ext w J) ?_ ?_
 .rintro _ J ⟨rfl,e⟩;unfold da;rw[aU,bd,aj];refine⟨λh=>⟨by rw[if_pos h],e⟩,λh=>?_⟩;rw[if_neg h,bP,aj];refine⟨λy=>Ω,λ_=>?_⟩;rw[dD,wrap_i64 Ω Ω];exact⟨rfl,e⟩
 intro ax p;refine jN.mono ?_;rintro _ J _ ⟨rfl,e⟩;rw[decide_eq_true (show cp a k from⟨hk,f⟩),bC,Y6,aU];refine jN.mono ?_;rintro _ U _ ⟨rfl,q⟩;rw[decide_eq_true (show cp b k from⟨hk,j⟩),bC,Y6];exact p _ _ ⟨rfl,e.trans q⟩
theorem tE{a:Int}(h:bp w ab ac A R n s t)(e:0<=a/\a<=n.k)(f:0<=c/\c<=n.k)(j:a=n.k\/c<=a):ai x7 nk [Γ ab,Δ a,Δ c] w λr w'=>r=Δ (da n.k a c)/\Ext w w':=by
 refine az func104 ?_;refine(mP h).mono ?_;rintro _ J _ ⟨rfl,p⟩;refine(Ph h.2.2.2.1.fI e f j).mono ?_;rintro _ U _ ⟨rfl,q⟩;rw[br,bt];exact⟨rfl,p.trans q⟩
theorem q5{a:Int}(h:bp w ab ac A R n s t)(e:0<=a/\a<=n.k)(f:0<=c/\c<=n.k):ai x7 nl [Γ ab,Δ a,Δ c] w λr w'=>r=Δ (cM n.k a c)/\Ext w w':=by
 refine az func105 ?_;refine(mP h).mono ?_;rintro _ J _ ⟨rfl,j⟩;refine(Oi e f h.2.2.2.1.fI).mono ?_;rintro _ U _ ⟨rfl,p⟩;rw[br,bt];exact⟨rfl,j.trans p⟩
end
theorem Pj{g n c:Nat}(a:ad w g cD cs)(h:∀w',ae (λr=>r=g) w w'->(∀o vs,w.rangeAt g o vs->w'.rangeAt g o vs)->K (.slice (σ ⟨g,0,ν⟩) n c) w'):
  aC x7 (convert cH cH (.slice (σ ⟨g,0,ν⟩) n c)) w K:=by
 have f:∀r,(w.freeze ⟨g,cs.length,ν⟩ 1).heap[r]?=if g=r then(w.heap[r]?).map (λ| .cells c p (lo,hi)=>.cells c p (if lo == hi then(cs.length,cs.length+1)else(min lo cs.length,max hi (cs.length+1)))|o=>o)else w.heap[r]?:=λr=>by
  unfold x3.freeze;rw[if_neg Φ];exact Array.getElem?_modify
 have A:(w.freeze ⟨g,cs.length,ν⟩ 1).heap.size=w.heap.size:=by
  unfold x3.freeze;rw[if_neg Φ];exact Array.size_modify
 have q:w.shape? g=σ (cD,cs.length):=by
  unfold x3.shape?;unfold ad at a;rw[a];simp
 have s:(convert cH cH (.slice (σ ⟨g,0,ν⟩) n c)).run x7 w= .ok (.slice (σ ⟨g,0,ν⟩) n c) (w.freeze ⟨g,cs.length,ν⟩ 1):=by
  simp[convert,run_underlying cH.u,run_underlying cD.u,markStringish,q]
 unfold ad at a;refine .of s ⟨by unfold x3.freeze;rw[if_neg Φ],.ka (by unfold x3.freeze;rw[if_neg Φ]) (by unfold x3.freeze;rw[if_neg Φ]),by unfold x3.freeze;rw[if_neg Φ],Ω,λr o e I=>?_⟩ (h _ ⟨Ω,λr o e _ x=>?_⟩ λo vs y j v z=>?_)
 .rw[f];by_cases he:g=r
  .subst he;rw[a]at e;cases e;cases I
  .rw[if_neg he];exact e
 .rw[f,if_neg λhe=>x he.symm];exact e
 .have h1:=y j v z;unfold x3.cell? at h1 ⊢;rw[f,if_pos rfl];rw[a]at h1 ⊢;exact h1
def xi(s0 s:am):Prop:=s.zero=s0.zero/\s.funs=s0.funs/\s.vars.length=s0.vars.length/\∀(i:Nat)x,s.vars[i]?=σ x->∃a,s0.vars[i]?=σ a/\x.un=a.un/\x.gone=0/\a.gone=0/\a.mask=0
theorem xi.new(n:aI):xi (dq n) (dq n):=⟨rfl,rfl,rfl,λi x a=>by
 refine⟨x,a,rfl,?_⟩;have a:(n.unary.map newVar)[i]?=σ x:=a;rw[x8]at a;obtain⟨u,_,rfl⟩:=Y9.1 a;exact⟨rfl,rfl,rfl⟩⟩
theorem Ec(n:aI):cr (dq n):=λf _ _ v _ x a=>by
 obtain⟨_,_,_,h,_⟩:=(xi.new n).2.2.2 _ x a;exact h
theorem Pk{ak:Nat}{E:x1}{f:b2}(G:tC B U E cs f)(e:Ext U w)(H:ad w ak aX cs)(O:U.heap.size<=ak):
  ∃ab ac A R A9 aA t,E=Γ ab/\ca w ab ac ak A R A9 aA (c3 f) (dq (c3 f)) (dq (c3 f)) t [] cs/\t.marks=[]/\(∀r,A r->B<=r)/\(∀q r,A9 q r->B<=r)/\t.cells.length<=2000000/\t.olds.length=0/\(c3 f).funs.length<=256/\t.ever=0/\(∀r,aA r->B<=r)/\∀r,R r->B<=r:=by
 obtain⟨ab,ac,A,R,t,N,A9,aA,x,rfl,y,j,J,K,C,p,L⟩:=G;have F:=q3 y;have z:=e.size;have s:=(tg (BV x).1 (wQ x) (c3 f).unary.length (c3 f).funs.length);rw[wr,<-y.2.1]at s;unfold aw.bG at s;rw[u9]at s;refine⟨ab,ac,A,R,λq r=>A9 q r/\r<U.heap.size,aA,t,rfl,⟨y.ext e,j.2.2.1,H,K.old.ext e,λq r h=>⟨(C q r h.1).1,(C q r h.1).2.1,by have:=h.2;omega⟩,λr a=>⟨λh=>(p r a).1 (mL (λo M I _=>e.aY r o M I) h),by have:=(p r a).2;omega,by have:=(p r a).2;omega⟩,λh=>by have:=F ak (.inl h);omega,λh=>by have:=F ak (.inr h);omega⟩,j.1,J,λq r h=>(C q r h.1).2.2,s,by rw[j.2.1];rfl,wQ x,j.2.2.2,λr a=>(p r a).2.2,L⟩
theorem Pl{A:af}{t:aw}(h:cW w ac A t):ai x7 Hm [Γ ac] w λv w'=>v=Δ (t.marks.length:Int)/\Ext w w':=by
 obtain⟨e,f,go,cQ,aV,j,cV,h1,q,r,a,s⟩:=h;refine az func161 ?_;rw[cP kS.u];simp only[j9,aU];rw[aG cO.p 2 h1 rfl,ez iB.u a];exact⟨rfl,Ext.refl _⟩
theorem Pm{A:af}{t:aw}(h:cW w ac A t)(ag:lb t)(aH:t.ever<=1000000):ai x7 Ga [Γ ac] w λv w'=>v=Δ (t.marks.length:Int)/\∃aE,Grow A w aE w'/\cW w' ac aE t.mark:=by
 obtain⟨G,ah,go,cQ,aV,z,cV,h1,M,N,O,B⟩:=id h;obtain⟨aI,aJ,aK⟩:=ag;obtain⟨⟨aj,ak,P⟩,al,am⟩:=pk h1 M N O;refine az func56 ?_;rw[cP kS.u];simp only[j9,aU];rw[aG cO.p 3 h1 rfl,aP,wrap_u64 Ω Ω,bJ,aR cO.p rfl];refine bk (o:=0+3) fj.i rfl rfl h1 Ξ λJ s aL H=>?_;have H:ad J ac cO [aV,z,cV,.int .u64 ((t.ever:Int)+1)]:=H;have x:∀{r:Nat},r=ac->¬(leadsTo aV r\/leadsTo z r\/leadsTo cV r):=λhe ao=>by
  subst he;rcases ao with h|h|h
  .exact aj h
  .exact ak h
  .exact P h
 have an:=M.V s λr e he=>x he (.inl e);have ap:=N.V s λr e he=>x he (.inr (.inl e));have aq:=O.V s λr e he=>x he (.inr (.inr e));intro U q _ _;have y:=H.ext q;have Q:=an.ext q;have R:=ap.ext q;have au:=aq.ext q;rw[aG cO.p 2 y rfl,aG cO.p 1 y rfl,ez hs.u R,aG cO.p 0 y rfl,ez gH.u Q,
  bJ,aR cO.p rfl,aB (v:=.int .u64 ((t.ever:Int)+1)) Ψ (y.cell (o:=0+3) rfl),dh (cs:=#[Δ (t.olds.length:Int),Δ (t.cells.length:Int),.int .u64 ((t.ever:Int)+1)]) Ψ]
 let a:nH:=⟨t.olds.length,t.cells.length,t.ever+1⟩;have av:∀u∈h3 a,u.oneCell'=true:=by intro v S;simp[h3]at S;rcases S with rfl|rfl|rfl<;>rfl
 refine h2 (f:=h3) (a:=a) iB.u dJ.i Ω rfl rfl λv3 aM W aN j ax=>?_;refine⟨.inl j,?_⟩;have ay:=y.ext j;have aA:=au.ext j;refine ik (f:=h3) (a:=a) iB.u dJ.i rfl aA (by simpa using ax.sl) av Ω Ω λI X aO C aC Y=>?_;have Z:=ay.V Y λhe=>P he;rw[bJ,aR cO.p rfl];refine bk (o:=0+2) iB.i (dp C.sl).1 (dp C.sl).2 Z Ξ λK aa aQ E=>?_;have E:ad K ac cO [aV,z,I,.int .u64 ((t.ever:Int)+1)]:=E;have ab:ba h3 3 dJ K X I (t.marks++[a]):=C.V aa λr e he=>by
  have he:r=ac:=he;subst he;exact cC C Z Φ e
 have L:ae (λr=>leadsTo cV r\/r=ac) W K:=(Y.mono λr _ h=>.inl h).trans (aa.mono λr _ h=>.inr h);rw[aG cO.p 2 E rfl,ez iB.u ab,r8,dD,wrap_i64 (by simp;try omega) (by simp;try omega)];have z3:=j.size;have aS:=q.size;have aT:=s.size;have aD:=(Q.ext j).V L λr e he=>he.elim (λhe=>(al r e).2 he) λhe=>x he (.inl e);have aF:=(R.ext j).V L λr e he=>he.elim (λhe=>(am r e).2 he) λhe=>x he (.inr (.inl e));refine⟨by congr 1;simp,λr=>A r\/W.heap.size<=r,⟨?_,λr e=>e.imp id λh=>Ω,λr e=>.inl e⟩,.inl G,ah,go,X,aV,z,I,E,aD,aF,ab,λr e=>?_⟩
 .exact ((s.mono λr _ he=>by have he:r=ac:=he;rw[he];exact G).trans ((q.trans j).V _)).trans (L.mono λr _ h=>h.elim (λh=>B r (.inr (.inr h))) λh=>by rw[h];exact G)
 .rcases e with e|e|e
  .exact .inl (B r (.inl e))
  .exact .inl (B r (.inr (.inl e)))
  .rcases aC r e with h|h
   .exact .inl (B r (.inr (.inr h)))
   .exact .inr h
theorem StateM.n0{A R:af}{n:aI}{s:am}{t:aw}(h:StateM w ab ac A R n s t):∃a,cW w ac a t/\∀e w' bi,Grow a w e w'->cW w' ac e bi->ae (eg w) w w'/\∃aE,Grow A w aE w'/\StateM w' ab ac aE R n s bi:=by
 obtain⟨f,j,p,q,r⟩:=h;obtain⟨a,x,y⟩:=r.n0;refine⟨a,x,λe w' bi z B=>?_⟩;obtain⟨h1,aE,C,E⟩:=y e w' bi z B;exact⟨h1,aE,C,f,j,p,q,E⟩
section
variable{w:x3}{ab ac:Nat}{A R:af}{n:aI}{s:am}{t:aw}
theorem Pn(h:bp w ab ac A R n s t)(hm:t.marks.length<1000)(e:t.ever<=1000000):ai x7 uG [Γ ab] w λv w'=>v=Δ (t.marks.length:Int)/\ae (eg w) w w'/\∃aE,Grow A w aE w'/\bp w' ab ac aE R n s t.mark:=by
 obtain⟨f,j,a,q,r⟩:=id h;obtain⟨K,M,N,O,aZ,P,L,_,x,_⟩:=h.1.parts;obtain⟨Q,y,z⟩:=f.n0;refine az func23 ?_;rw[cP de.u];simp only[j9,aU];rw[aG bY.p 1 x rfl];refine(Pm y a e).mono ?_;rintro _ J _ ⟨rfl,B,C,E⟩;obtain⟨G,aE,H,I⟩:=z B J _ C E;refine⟨rfl,G,aE,H,I,j,⟨a.1,a.2.1,?_⟩,q,r⟩;show(t.marks++_).length<=_;rw[r8];simp;omega
end
theorem bZ.down{B:x1->x3->(x1->x3->Prop)->Prop}(n:Nat)(a:Nat->x3->Prop)(s:n<=1000000000000)(j:a 0 w)(p:∀(q:Nat)(w:x3)(k:x1->x3->Prop),q<n->a q w->(∀w',a (q+1) w'->k (Δ (X7.wrap (((n-1-q:Nat):Int)-1))) w')->B (Δ ((n-1-q:Nat):Int)) w k)(r:∀(w:x3)(k:x1->x3->Prop),a n w->B (Δ (-1)) w k):bZ (Δ ((n:Int)-1)) w B:=by
 refine⟨λt w=>∃q:Nat,t=Δ ((n:Int)-1-q)/\q<=n/\a q w,λt _=>(bS t+1).toNat,⟨0,Ξ,X4 _,j⟩,?_⟩;rintro _ w ⟨q,rfl,x,h⟩;by_cases f:q<n
 .have e:(n:Int)-1-q=((n-1-q:Nat):Int):=Ω
  rw[e];refine p q w _ f h λw' h'=>?_;rw[wrap_i64 Ω Ω];exact⟨⟨q+1,by congr 1;omega,f,h'⟩,by simp only[bS];omega⟩
 .have e:q=n:=Ω
  subst e;rw[show((q:Int)-1-q)= -1 by omega];exact r w _ h
theorem Po{t:r9}{pl:List (Nat×Nat)}{b k:Nat}{v:x1}{i:Nat}{α:Type}{f:α->List x1}{L:List α}{a:α}{S:af}{K:x1->Prop}(hu:bE x7 e pl)(s:x7.underlying t=σ (.slice e))(hi:aO x7 e k b z)(r:∀x∈L,(f x).length=k)(h:ia S w k v L.length (L.flatMap f))(q:L[i]?=σ a):aa x7 (j5 t v (Δ (i:Int))) w (λp=>aa x7 (u4 e p) w K)=K (.agg (f a).toArray):=by
 obtain⟨h1,E,o,base,cap,rfl,F,G,y,_,A⟩:=h;have B:=(x4.1 q).1;rw[e3 s hi B λh=>y Ω];rw[bH hu hi (r a (x5 q)) λj u C=>?_];have:=A (i*k+j) u (nR r q C);rwa [<-S6]at this
theorem Pp{g go:Nat}{v:x1}{os:List kp}(H:os.length<=100000000):
  nf x7 oD [Γ g] os.length (λk vs _=>∃o,os[os.length-1-k]?=σ o/\vs=[Δ ((os.length-1-k:Nat):Int),.agg (iS o).toArray])
   (λw=>ad w g hs [v]/\ia (λr=>r=go) w 3 v os.length (os.flatMap iS)):=by
 refine⟨oD.enters,λl ax J w L _ y ⟨e,I⟩ z=>?_⟩;refine oK func162 ?_;have A:aa x7 (V2 #[hs] ah #[v]) w=λK=>K (Δ (os.length:Int)):=by
  obtain⟨_,_,_,_,_,rfl,_⟩:=I;funext K;exact hy hs.u
 rw[aB (o:=0) Ψ (e.Qz rfl),A];simp only[dD];rw[wrap_i64 Ω Ω];refine bZ.down os.length (λq U=>ax q U/\ad U g hs [v]/\ia (λr=>r=go) U 3 v os.length (os.flatMap iS)) Ω ⟨z,e,I⟩ ?_ ?_
 .rintro q U k f ⟨a,j,s⟩ hk;obtain⟨o,x⟩:=aF (l:=os) (i:=os.length-1-q) Ω;rw[cI,aj];refine⟨λ_=>?_,λh=>Ω⟩;rw[aB (o:=0) Ψ (j.Qz rfl),Po fO.p hs.u fO.i (λ_ _=>rfl) s x];refine⟨rfl,(y q _ U f ⟨j,s⟩ ⟨o,x,rfl⟩ a).mono ?_⟩;rintro _ M (⟨rfl,⟨B,C⟩,E⟩|⟨rfl,G⟩)
  .rw[bC,Y6,aU,dD];exact hk _ ⟨E.1,B,C⟩
  .rw[bC,W5,bL];exact .inr ⟨q,f,G⟩
 .rintro U k ⟨a,_⟩;rw[cI,aj];exact⟨λh=>Ω,λ_=>.inl a⟩
section
variable{α:Type}{f:α->List x1}{k:Nat}{e:r9}{w:x3}{g:Nat}{v:x1}{L:List α}
theorem q6{t:r9}{b:Nat}{i:Nat}(A:x7.underlying t=σ (.slice e))(hi:aO x7 e k b z)(h:ba f k e w g v L)(j:i<=L.length):
  ∃q,(∀(w':x3)(K:x1->Prop),aa x7 (V6 t v ν (σ (Δ (i:Int))) ν) w' K=K q)/\ba f k e w g q (L.take i)/\∀r,leadsTo q r->leadsTo v r:=by
 obtain⟨⟨N,⟨rfl,B⟩|⟨cap,cs,rfl,C,O,E,F,G⟩⟩,s⟩:=id h
 .have H:L=[]:=j4 B;subst H;have:i=0:=by simpa using j
  subst this;exact⟨_,λw' K=>gk A hi (l:=0) (h:=0) (m:=0) iG nw eU Ω Ω Ω,h,λr y=>y⟩
 .have I:(if cap=0 then(σ ⟨g,0,ν⟩:Option Addr)else U3 (λx:Addr=>x.add (0*k)) (σ ⟨g,0,ν⟩))=σ ⟨g,0,ν⟩:=by split<;>simp[T2]
  refine⟨.slice (σ ⟨g,0,ν⟩) i cap,λw' K=>?_,⟨⟨?_,.inr ⟨cap,cs,by rw[o7,R5 j],C,by rw[o7];omega,E,F,?_⟩⟩,λa p=>s a (V5 p)⟩,λr y=>by obtain⟨a,_,_,e,J⟩:=y;cases e;exact⟨_,_,_,rfl,J⟩⟩
  .rw[gk A hi (l:=0) (h:=i) (m:=cap) iG nw eU Ω Ω Ω,I,Nat.sub_zero,Nat.sub_zero]
  .rw[gu λa p=>s a (V5 p)]
  .rw[o7,R5 j];have M:L.flatMap f=(L.take i).flatMap f++(L.drop i).flatMap f:=by rw[<-List.flatMap_append,List.take_append_drop]
   have P:((L.take i).flatMap f).length=i*k:=by rw[gu λa p=>s a (V5 p),o7,R5 j]
   have:cs.take (i*k)=(cs.take (L.length*k)).take (i*k):=by rw[List.take_take,R5 (Y4 _ j)]
   rw[this,G,M,List.take_append_of_le_length Ω,j0 Ω]
theorem Pq{t:r9}{b:Nat}{i:Nat}{K:x1->Prop}(s:x7.underlying t=σ (.slice e))(hi:aO x7 e k b z)(h:ba f k e w g v L)(x:i<=L.length)(y:∀A,ia (λr=>r=g) w k A (L.drop i).length ((L.drop i).flatMap f)->K A):aa x7 (V6 t v (σ (Δ (i:Int))) ν ν) w K:=by
 obtain⟨⟨J,⟨rfl,C⟩|⟨cap,cs,rfl,E,M,N,O,F⟩⟩,p⟩:=id h
 .have G:L=[]:=j4 C;subst G;have:i=0:=by simpa using x
  subst this;rw[gk s hi (l:=0) (h:=0) (m:=0) nt iH eU Ω Ω Ω];exact y _ ⟨Ξ,0,0,ν,0,Ξ,Ξ,by simp[maxLen],λh=>by simp at h,λh=>by simp at h,λj v h=>by simp at h⟩
 .rw[gk s hi (l:=i) (h:=L.length) (m:=cap) nt iH eU Ω Ω Ω];have H:L.flatMap f=(L.take i).flatMap f++(L.drop i).flatMap f:=by rw[<-List.flatMap_append,List.take_append_drop]
  have I:((L.take i).flatMap f).length=i*k:=by rw[gu λa q=>p a (V5 q),o7,R5 x]
  refine y _ ⟨gu λa q=>p a (List.mem_of_mem_drop q),g,i*k,_,cap-i,by rw[List.length_drop],by rw[List.length_drop];omega,Ω,λh=>?_,λ_=>rfl,λj u hu=>?_⟩
  .rw[List.length_drop]at h;rw[if_neg Ω];simp[T2]
  .have h1:(L.flatMap f)[i*k+j]?=σ u:=by rw[H,Y2 Ω,I,S3];exact hu
   have B:=(x4.1 h1).1;rw[gu p]at B;rw[<-F,Z9 B]at h1;have:=E.cell h1;simpa using this
end
theorem Pr{A:af}{t:aw}{m:Int}(h:cW w ac A t):ai x7 GO [Γ ac,Δ m] w λv w'=>v= .bool (decide (0<=m/\m<t.marks.length))/\Ext w w':=by
 refine az func106 ?_;refine aT (λv J=>v= .bool (decide (0<=m/\m<t.marks.length))/\Ext w J) (λ_ _ h=>h) λax a=>?_;rw[cI,aj];refine⟨λe=>?_,λe=>a _ _ ⟨by rw[decide_eq_false Ω],Ext.refl _⟩⟩;refine(Pl h).mono ?_;rintro _ J _ ⟨rfl,f⟩;rw[aQ];refine a _ _ ⟨?_,f⟩;congr 1;exact decide_eq_decide.2 ⟨λh=>⟨e,h⟩,λh=>h.2⟩
theorem Ps{A:af}{t:aw}{m:Nat}{x:nH}(h:cW w ac A t)(bo:lb t)(hm:t.marks[m]?=σ x)(aQ:x.olds<=t.olds.length)(bp:x.cells<=t.cells.length)(aS:∀o∈t.olds.drop x.olds,o.i<t.cells.length):
  ai x7 Gb [Γ ac,Δ (m:Int)] w λv w'=>v=Δ 0/\∃aE,Grow A w aE w'/\cW w' ac aE (t.hB m):=by
 have bq:=(x4.1 hm).1;obtain⟨b4,b5,b7⟩:=bo;refine hU func57 ?_;refine bj λg1 J b8 aT C=>?_;have C:ad J g1 kS [Γ ac]:=C;rw[aB (o:=0) Ψ (C.Qz rfl)];refine(Pr (m:=(m:Int)) (h.ext aT)).mono ?_;rintro _ U _ ⟨rfl,I⟩;have ab:=aT.trans I;rw[decide_eq_true Ω,bC,Y6,aU];obtain⟨aW,au,go,cQ,aV,Q,cV,h1,R,ag,ah,aX⟩:=id (h.ext ab);obtain⟨⟨av,br,bt⟩,ax,b9⟩:=pk h1 R ag ah;rw[aB (o:=0) Ψ ((C.ext I).Qz rfl),aG cO.p 2 h1 rfl,dj rfl iB.u dJ.i ah bq,bH dJ.p dJ.i rfl (ah.range hm)];refine bz dJ.i λak ca cb bu bw=>?_;refine b6 (vs:=h3 x) dJ.i rfl rfl (by intro v G;simp[h3]at G;rcases G with rfl|rfl|rfl<;>rfl) bw λbx bA cc aY=>?_;have bB:Ext U bx:=bu.put bA Ω;intro cd ay _ _;have M:=bB.trans ay;have ce:=ab.trans M;rw[aB (o:=0) Ψ ((C.ext (I.trans M)).Qz rfl),aG cO.p 1 (h1.ext M) rfl,aL dJ.p 0 (aY.ext ay) rfl];refine Pq hs.u fO.i (ag.ext M) aQ λaZ aA=>?_;refine az func107 ?_;refine bj λaj a1 cg al am=>?_;have am:ad a1 aj hs [aZ]:=by
  obtain⟨_,_,_,_,_,e,_⟩:=aA;rw[e]at am ⊢;exact am
 rw[ki];obtain⟨os,an⟩:∃os,os=t.olds.drop x.olds:=⟨_,rfl⟩;rw[<-an]at aA aS;have bD:os.length<=100000000:=by rw[an,List.length_drop];omega
 have H:=M.trans al;have bE:=ab.trans H;have bF:=Pp (g:=aj) (go:=go) (v:=aZ) bD;have ch:=ab.size;have ci:=M.size;have cj:=al.size;have a2:∀r,leadsTo aV r->r=au/\r<U.heap.size:=λr y=>⟨(R.leads y).1,by have:=R.leads y;omega⟩;have a6:¬leadsTo aV g1:=λhe=>cC R (C.ext I) Φ he;refine mg.old ⟨Nat,false,oD,#[Γ aj],0,_,_,_,λq w'=>ae (λr=>leadsTo aV r) a1 w'/\ba gM 2 dY w' au aV (back (os.drop (os.length-q)) t.cells),λ_ _ _=>False,rfl,bF.s,
  ?_,λ_ _ S h=>⟨h.1.ext S,h.2.V (S.V λ_=>False) λ_ _ _ h=>h⟩,λ_ _ _ S h=>⟨h.1.trans (S.V _),h.2.ext S⟩,λ_ _ _ _ _ h=>h,⟨am,aA.V (al.V λ_=>False) λ_ _ _ h=>h⟩,⟨ae.refl _ _,?_⟩,?_,?_,λ_ _ h=>h.elim,λ_ _ _ h=>h.elim⟩
 .rintro _ _ _ _ ⟨_,_,_,_,rfl⟩;rfl
 .rw[Nat.sub_zero,List.drop_length];exact R.ext H
 .rintro _ Q q _ a7 ⟨bG,bI⟩ ⟨a8,rfl,o,bb,bK⟩ ⟨z,ao⟩;cases bK;have ck:=aS o (x5 bb);have bL:=z.size;refine bz fO.i λgy L cl B bM=>?_;refine b6 (vs:=iS o) fO.i rfl rfl (by intro v G;simp[iS]at G;rcases G with rfl|rfl|rfl<;>rfl) bM λW X bN Y=>?_;have bO:Ext a7 W:=B.put X Ω;intro aC bc _ cm Z bd _ _;have N:=(bO.trans bc).trans bd;have O:=(Y.ext bc).ext bd;have E:ad Z g1 kS [Γ ac]:=((C.ext (I.trans H)).V z a6).ext N;have P:ad Z ac cO [aV,Q,cV,.int .u64 (t.ever:Int)]:=((h1.ext H).V z av).ext N;have be:=ao.ext N;have cn:(back (os.drop (os.length-q)) t.cells).length=t.cells.length:=nI _ _;rw[aB (o:=0) Ψ (E.Qz rfl),aG cO.p 0 P rfl,aL fO.p 0 O rfl,aR fO.p rfl,
   bH (cs:=gM o.c) (o:=0+1) dY.p dY.i rfl (λj u bP=>by
    have:(iS o)[1+j]?=σ u:=by rw[Nat.add_comm];exact bP
    have:=O.cell this;simpa using this),dj rfl gH.u dY.i be Ω]
  refine Bi (f:=gM) (a:=o.c) dY.i be rfl (by intro v G;simp[gM]at G;rcases G with rfl|rfl<;>rfl) Ω λbQ aD cp bR=>?_;have bS:leadsTo Q go:=by
   obtain⟨_,cq,cr,e,_⟩:=Cm ag (by rintro e;rw[an,e]at a8;simp at a8);exact⟨_,_,_,e,rfl⟩
  have bT:∀r,r=go->¬leadsTo aV r:=λr e y=>by subst e;exact(ax r y).1 bS
  refine⟨⟨(bG.ext N).V aD λhe=>by have:=a2 aj he;omega,(bI.V (N.V λ_=>False) λ_ _ _ h=>h).V aD λr _=>bT r⟩,⟨(z.trans (N.V _)).trans aD,?_⟩,λh=>by cases h⟩;have e:os.drop (os.length-(q+1))=o::os.drop (os.length-q):=by
   rw[show os.length-(q+1)=os.length-1-q by omega,X8 Ω,show os.length-1-q+1=os.length-q by omega];congr 1;exact(x4.1 bb).2
  rw[e];exact bR
 .rintro q a7 rfl ⟨z,ao⟩;rw[U2,List.drop_zero]at ao;intro L B _ _;have bL:=z.size;have z9:=B.size;have E:ad L g1 kS [Γ ac]:=((C.ext (I.trans H)).V z a6).ext B;have P:ad L ac cO [aV,Q,cV,.int .u64 (t.ever:Int)]:=((h1.ext H).V z av).ext B;have aF:ad L ak dJ (h3 x):=((aY.ext (ay.trans al)).V z λhe=>by have:=a2 ak he;omega).ext B;have bU:ba iS 3 fO L go Q t.olds:=((ag.ext H).V z λr y he=>(ax r he).1 y).ext B;have bV:ba h3 3 dJ L cQ cV t.marks:=((ah.ext H).V z λr y he=>(ax r he).2 y).ext B;have bW:=ao.ext B;obtain⟨ap,bX,aH,bf⟩:=q6 (i:=x.olds) hs.u fO.i bU aQ;obtain⟨aI,bg,aJ,bh⟩:=q6 (i:=x.cells) gH.u dY.i bW (by rw[nI];exact bp);obtain⟨bi,aK,aM,bl⟩:=q6 (i:=m) iB.u dJ.i bV Ω;rw[aB (o:=0) Ψ (E.Qz rfl),aB (o:=0) Ψ (E.Qz rfl),aB (o:=0) Ψ (E.Qz rfl),aB (o:=0) Ψ (E.Qz rfl),aG cO.p 1 P rfl,aL dJ.p 0 aF rfl,bX,
   aB (o:=0) Ψ (E.Qz rfl),aG cO.p 0 P rfl,aL dJ.p 1 aF rfl,bg,
   aB (o:=0) Ψ (E.Qz rfl),aG cO.p 2 P rfl,aK,bJ,aR cO.p rfl]
  have aN:∀{u u':x1}{r:Nat},(∀r,leadsTo u' r->leadsTo u r)->¬leadsTo u ac->leadsTo u' r->¬r=ac:=λbY bZ b0 he=>by subst he;exact bZ (bY _ b0)
  have b1:¬ak=ac:=λhe=>by have:=h1.lt;omega
  have bm:¬g1=ac:=λhe=>by
   subst he;exact absurd (ep (C.ext I) h1) Φ
  refine bk (o:=0+1) hs.i (dp aH.sl).1 (dp aH.sl).2 P Ξ λW X bN Y=>?_;have Y:ad W ac cO [aV,ap,cV,.int .u64 (t.ever:Int)]:=Y;have aO:=E.V X bm;have b2:=aF.V X b1;refine⟨.inr ⟨Go.Vc.hG λK=>aK W K,Go.Vc.hG λK=>bg W K,jo Ψ (b2.cell (o:=0+1) rfl),Go.Vc.hG λK=>aR dJ.p rfl,jo Ψ (aO.Qz rfl),jo Ψ (aO.Qz rfl),trivial⟩,?_⟩;rw[bJ,aR cO.p rfl];refine bk (o:=0+0) gH.i (dp aJ.sl).1 (dp aJ.sl).2 Y Ξ λaC bn ct aP=>?_;have aP:ad aC ac cO [aI,ap,cV,.int .u64 (t.ever:Int)]:=aP;refine⟨.inr ⟨Go.Vc.hG λK=>aK aC K,jo Ψ ((aO.V bn bm).Qz rfl),trivial⟩,?_⟩;rw[bJ,aR cO.p rfl];refine bk (o:=0+2) iB.i (dp aM.sl).1 (dp aM.sl).2 aP Ξ λZ b3 cu O=>?_;have O:ad Z ac cO [aI,ap,bi,.int .u64 (t.ever:Int)]:=O;intro bQ aa _;have aq:ae (λr=>r=ac) L Z:=(X.trans bn).trans b3;have hu:t.hB m={cells:=(back os t.cells).take x.cells,olds:=t.olds.take x.olds,marks:=t.marks.take m,ever:=t.ever}:=by
   unfold aw.hB;rw[hm,an]
  refine⟨rfl,A,⟨?_,λ_ h=>.inl h,λ_ h=>h⟩,?_⟩
  .exact ((bE.V A).trans (z.mono λr _ h=>aX r (.inl h))).trans ((B.V A).trans ((aq.mono λr _ h=>by have h:r=ac:=h;rw[h];exact aW).trans (aa.V A)))
  .rw[hu];exact⟨aW,au,go,cQ,aI,ap,bi,O.ext aa,(aJ.V aq λr y=>aN bh av y).ext aa,(aH.V aq λr y=>aN bf br y).ext aa,(aM.V aq λr y=>aN bl bt y).ext aa,λr y=>aX r (y.imp (bh r) λh=>h.imp (bf r) (bl r))⟩
structure q7(a b:am):Prop where
 off:hf b=hf a
 fn:∀(j:Nat)f,a.funs[j]?=σ f->∃f',b.funs[j]?=σ f'/\f'.sc=f.sc/\f'.ag=f.ag/\eN b j=eN a j
 el:∃l,b.c5=a.c5++l
theorem lf.xj{s s':am}(h:lf s s'):q7 s s':=
 ⟨h.1,λj f e=>by
  have x:=h.2.1;obtain⟨a,p⟩:∃a,s'.funs[j]?=σ a:=⟨_,x6 (by have:=(x4.1 e).1;omega)⟩;obtain⟨f0,h1,q,r,w⟩:=h.2.2.1 j a p;rw[e]at h1;cases h1;exact⟨a,p,q,r,w⟩,[],by rw[h.2.2.2,W7]⟩
theorem q7.funs{a b:am}(h:q7 a b):a.funs.length<=b.funs.length:=by
 by_cases e:a.funs.length=0
 .omega
 obtain⟨f,h1,_⟩:=h.fn (a.funs.length-1) _ (x6 Ω);have:=(x4.1 h1).1;omega
section
variable{w:x3}{ab ac:Nat}{A R:af}{n:aI}{s sm:am}{t tm:aw}{ao:List aw}{m:Nat}
theorem Pt(h:bp w ab ac A R n s t)(hk:ey t ao)(hm:ao.reverse[m]?=σ tm)(an:tm.bG=sm.cells)(aN:bh n.k n.sizes sm)(H:q7 sm s):
  ai x7 uH [Γ ab,Δ (m:Int)] w λv w'=>v=Δ 0/\ae (eg w) w w'/\∃aE,Grow A w aE w'/\bp w' ab ac aE R n sm {tm with ever:=t.ever}:=by
 obtain⟨⟨I,K,bA,aO,ap⟩,bB,aq,bC,aP⟩:=id h;obtain⟨hu,x,aQ,aS,bD,bE,⟨new,au,bF,aT⟩,aV,bH⟩:=hk.hB hm;obtain⟨bK,bL,bM⟩:=id aq;have av:(t.hB m).bG=sm.cells:=by rw[hu];exact an
 obtain⟨⟨a0,_⟩,_,_,_,_,_,_,_,aw,_⟩:=id ap;refine az func24 ?_;rw[cP de.u];simp only[j9,aU];rw[aG bY.p 1 aw rfl];obtain⟨bN,aW,aX⟩:=ap.n0;have bO:tm.olds.length<=t.olds.length:=by rw[au,r8];omega
 refine(Ps aW aq aQ Ω Ω (λo M=>by rw[au,aS,List.drop_left]at M;exact aT o M)).mono ?_;rintro _ J _ ⟨rfl,aY,a1,a2⟩;obtain⟨a6,aE,O,a7⟩:=aX aY J _ a1 a2;rw[bI,aj];refine⟨λh=>absurd rfl h,λ_=>?_⟩;intro U P _ _;have a8:=a7.ext P;obtain⟨⟨B,C,a3,a4⟩,aZ,ba,ge,L,E,bb,w0,G,⟨bc,bd,ax⟩,⟨Q,be,S,bf⟩,ay,⟨aA,aB⟩,aC,aD⟩:=id a8;rw[aG bY.p 3 G rfl,aG bY.p 1 G rfl];refine(la (i:=1) Q rfl (show(t.hB m).bG[1]?=σ (sm.funs.length:Int) by rw[av];exact Nk sm)).mono ?_;rintro _ bP _ ⟨rfl,W⟩;refine⟨.inl W,?_⟩;have aF:sm.funs.length<=L.length:=by rw[aB.1];exact H.funs
 obtain⟨l,aH⟩:=H.el;have aI:sm.c5.length<=E.length:=by rw[aD.1,aH,r8];omega
 obtain⟨N,bg,X,aJ⟩:=q6 (i:=sm.funs.length) e1.u dI.i aA aF;obtain⟨ev',bi,Y,aK⟩:=q6 (i:=sm.c5.length) mm.u fN.i aC aI;rw[bg,bJ,aR bY.p rfl];refine bk (o:=0+3) e1.i (dp X.sl).1 (dp X.sl).2 (G.ext W) Ξ λbj bl bQ Z=>?_;have Z:ad bj ab bY [Γ I,Γ ac,K,N,aO]:=Z;intro bm aL _ _;have aa:=Z.ext aL;have aM:ae (λr=>r=ab) U bm:=((W.V _).trans bl).trans (aL.V _);have bn:=Q.V aM λr a he=>S (he▸a);rw[aG bY.p 4 aa rfl,aG bY.p 1 aa rfl];refine(la (i:=2) bn rfl (show(t.hB m).bG[2]?=σ (sm.c5.length:Int) by rw[av];exact Nl sm)).mono ?_;rintro _ bR _ ⟨rfl,af⟩;refine⟨.inl af,?_⟩;rw[bi,bJ,aR bY.p rfl];refine bk (o:=0+4) mm.i (dp Y.sl).1 (dp Y.sl).2 (aa.ext af) Ξ λag bq bS ah=>?_;have ah:ad ag ab bY [Γ I,Γ ac,K,N,ev']:=ah;have q:ae (λr=>r=ab) U ag:=(aM.trans (af.V _)).trans bq;have bT:=q.size;have br:eF ag ab ac I K N ev' aE R n sm (t.hB m):=by
  refine⟨⟨B,C,λr a=>by have:=a3 r a;omega,λr a=>by have:=a4 r a;omega⟩,aZ,ba,ge,L.take sm.funs.length,E.take sm.c5.length,bb,w0,ah,⟨bc,qM bd q λr o a M he=>C r (he▸B) (ax r o a M),ax⟩,⟨Q.V q λr a he=>S (he▸a),be,S,λr a=>bf r (a.imp id λh=>h.imp (aJ r) (aK r))⟩,?_,⟨X.V q λr a he=>?_,?_,λj y f z bt=>?_⟩,Y.V q λr a he=>?_,?_,λj y e z he=>?_⟩
  .rw[<-H.off];exact bo ay q λr a he=>by cases he;exact b4 ay G Φ a rfl
  .cases he;exact cC aA G Φ (aJ _ a)
  .rw[o7,R5 aF]
  .rw[List.getElem?_take]at z;split at z
   .obtain⟨bu,h1,bw,bx,bz⟩:=H.fn j f bt;obtain⟨ak,al,am⟩:=aB.2 j y bu z h1;rw[<-bw,<-bx,<-bz];exact⟨ak.V q λr _ a he=>C r (he▸B) a,al.V q λr _ a he=>C r (he▸B) a,am⟩
   .cases z
  .cases he;exact cC aC G Φ (aK _ a)
  .rw[o7,R5 aI]
  .rw[List.getElem?_take]at z;split at z
   .have h1:s.c5[j]?=σ e:=by rw[aH,Y1 (x4.1 he).1];exact he
    obtain⟨ak,al,am⟩:=aD.2 j y e z h1;exact⟨ak,al.V q λr _ a he=>C r (he▸B) a,am.V q λr _ a he=>C r (he▸B) a⟩
   .cases z
 refine⟨by trivial,(a6.trans (P.V _)).trans (q.mono λr _ he=>he▸ .inl ⟨_,_,aw,Φ⟩),aE,⟨(O.1.trans (P.V _)).trans (q.mono λr _ he=>he▸a0),O.2.1,O.2.2⟩,⟨I,K,N,ev',hu▸br⟩,an,⟨?_,?_,?_⟩,aN,aP⟩
 .show tm.cells.length<=_;omega
 .show tm.olds.length<=_;omega
 .show tm.marks.length<=_;rw[aV,o7];omega
end
def Pu(s:am):Prop:=∀e∈s.c5,e.sc.length<=1000/\e.pi.length<=1000
section
variable{w w':x3}{ab ac ak cQ:Nat}{A R O M aA:af}{A9:Nat->af}{k:Int}{sizes:Λ}{I:List am}{n:aI}{s u:am}{t:aw}{h:List aw}{cs:List x1}
structure RE(w:x3)(ak:Nat)(A R:af)(A9:Nat->af)(aA O M:af):Prop where
 o:∀r,O r->r<w.heap.size/\¬A r/\¬R r/\(∀q,¬A9 q r)/\¬aA r/\r≠ak/\¬M r
 m:∀r,M r->r<w.heap.size/\¬A r/\(∀q,¬A9 q r)/\¬aA r/\r≠ak
theorem ca.side{S:af}(p:ca w ab ac ak A R A9 aA n s u t h cs)(f:ae S w w')(e:∀r,r<w.heap.size->S r->¬A r/\¬R r/\(∀q,¬A9 q r)/\¬aA r/\r≠ak):ca w' ab ac ak A R A9 aA n s u t h cs:=by
 have z:=f.size;exact⟨⟨p.eh.1.V f λr a h I=>h.elim (e r a I).1 (e r a I).2.1,p.eh.2⟩,p.ft,p.box.V f λI=>(e ak p.box.lt I).2.2.2.2 rfl,p.doc.V f λr a h I=>h.elim (λ⟨q,h⟩=>(e r a I).2.2.1 q h) (e r a I).2.2.2.1,p.apart,
  λr a=>⟨λh=>(p.read r a).1 (mL (λo j I _=>f.aY r o j I λx=>(e r (p.read r a).2.1 x).2.2.2.1 a) h),by have:=(p.read r a).2.1;omega,(p.read r a).2.2⟩,p.out⟩
theorem ca.Ed(p:ca w ab ac ak A R A9 aA n s u t h cs):∀q r,A9 q r->¬aA r:=by
 obtain⟨_,_,_,_,_,_,_,_,_,_,_,_,_,a⟩:=p.doc;exact(a rfl).2
end
theorem Ee{w0:x3}{out:x1}{g:Nat}{x:Int}(e:Ext w0 w)(hm:aq .i64 ah w g out l)(f:∀r,leads out r->w0.heap.size<=r)(F:l.length<=1000000000)(p:∀v w' q,Ext w0 w'->aq .i64 ah w' q v (l++[x])->(∀r,leads v r->w0.heap.size<=r)->K v w'):
  aC x7 (Y7 ap 1 #[(0,Δ x)]) w λy J=>aC x7 (Z3 #[ap,ap] ap #[out,y]) J K:=by
 refine en (k:=.i64) ap.u ah.i rfl λv4 G H I a s=>?_;refine gN ap.u ah.i rfl (hm.ext a) s.ls Θ Θ λv5 A L B C E=>?_;have z:=(e.trans a).size;exact p _ _ A ((e.trans a).then E λr j he=>by have:=f r he;omega) B λr j=>(C r j).elim (f r) λh=>Ω
theorem pv(x:bq):(ay x).length<=x.un.length:=by
 unfold ay;have:=List.length_filter_le (λv:Int=>!dropped x.mask v) ((V0 x.un.length).map λv:Nat=>(v:Int));rw[u9,List.length_range]at this;exact this
section
variable{w:x3}{ab ac:Nat}{A R:af}{n:aI}{s:am}{t:aw}
end
theorem tF{out:x1}{g:Nat}{x:Int}(hm:aq .i64 al w g out l)(C:l.length<=1000000000000)(e:∀v w' f,ae (λr=>leads out r) w w'->aq .i64 al w' f v (l++[x])->(∀r,leads v r->leads out r\/w.heap.size<=r)->K v w'):
  aC x7 (Y7 au 1 #[(0,Δ x)]) w λy J=>aC x7 (Z3 #[au,au] au #[out,y]) J K:=by
 refine en (k:=.i64) au.u al.i rfl λv4 E F G a j=>?_;refine gN au.u al.i rfl (hm.ext a) j.ls Θ Θ λv5 p H q s A=>?_;have z:=a.size;exact e _ _ p ((a.V _).trans A) q λr B=>(s r B).imp id λh=>Ω
def mW(l:Λ):Λ:=(l.length:Int)::l
def oj(w:x3)(out v:x1)(l:Λ)(w':x3):Prop:=ae (λr=>leads out r) w w'/\(∃g,aq .i64 al w' g v l)/\∀r,leads v r->leads out r\/w.heap.size<=r
theorem oj.trans{J:x3}{o v u:x1}{l':Λ}(h:oj w o v l J)(k:oj J v u l' U):oj w o u l' U:=by
 obtain⟨h1,_,e⟩:=h;obtain⟨f,p,q⟩:=k;have z:=h1.size;have s:=f.size;exact⟨⟨Ω,λr x a I j=>f.aY r x (h1.aY r x a I j) I λh=>(e r h).elim j λh=>by have:=(n9.1 a).1;omega⟩,p,λr a=>(q r a).elim (e r) λh=>.inr Ω⟩
theorem Ef{k f:o4}{g:Nat}{v u:x1}{l':Λ}(h:aq k e w g v l)(h':aq f a w j u l')(he:e≠a)(p:ae (λr=>leads u r) w w'):aq k e w' g v l:=bo h p λr q hu=>by
 obtain⟨y,s⟩:=qR h r q;obtain⟨z,x⟩:=qR h' r hu;exact he (ep s x)
theorem Pv{k:o4}{g b:Nat}{u:x1}(f:ad w b a cs)(h:aq k e w g u l)(he:e≠a)(j:ae (λr=>leads u r) w w'):ad w' b a cs:=f.V j λhu=>by
 obtain⟨q,p⟩:=qR h b hu;exact he (ep p f)
theorem tG{out cG:x1}{g f:Nat}{o:Λ}(hm:aq .i64 al w g out o)(h:aq .i64 ah w f cG l)(L:o.length+l.length<=100000000000):ai x7 F3 [out,cG] w λv w'=>oj w out v (o++mW l) w':=by
 refine az func48 ?_;rw[aW ap.u h.ls];refine tF hm Ω λz J g1 j A B=>?_;have p:=Ef h hm Φ j;have C:oj w out z (o++[(l.length:Int)]) J:=⟨j,⟨g1,A⟩,B⟩;rw[aW ap.u p.ls];refine cd.range l.length (λi a U=>oj w out a (o++(l.length:Int)::l.take i) U/\aq .i64 ah U f cG l) Ω ⟨by rw[List.take_zero];exact C,p⟩ ?_ ?_
 .rintro i a U E hi ⟨e,q⟩ G;obtain⟨x,r⟩:=aF (l:=l) hi;obtain⟨_,⟨M,s⟩,_⟩:=id e;refine bQ Ω ?_;rw[be ap.u ah.i Ψ q.ls r];refine tF s (by rw[r8,c9,o7];omega) λv3 N H y I K=>?_;rw[aP];refine G _ _ ⟨e.trans ⟨y,⟨H,?_⟩,K⟩,Ef q s Φ y⟩;rw[u7,r];simpa using I
 .rintro a U E ⟨e,_⟩;refine cn Ω ?_;rw[o5]at e;exact e
def fg(s:am)(sc t:Λ):Bool:=(sc.zip t).all λp=>match s.vars[p.1.toNat]? with
 |some x=>decide (p.2∈ay x)
 |none=>false
section
variable{w:x3}{ab ac:Nat}{A R:af}{n:aI}{s:am}{t:aw}
theorem Pw{aN:x1}{sc:Λ}{at_:Int}(h:bp w ab ac A R n s t)(f:aH .i64 w aN sc)(O:aH .i64 w szv ag)(P:∀v∈sc,0<=v/\v<n.sizes.length)(Q:aH .i64 w aM tl)(ao:tl.length=sc.length):
  ai x7 F7 [Γ ab,.agg #[aN,szv,Δ at_],aM] w λr w'=>r= .bool (fg s sc tl)/\Ext w w':=by
 have aq:=h.2.2.2.1.vars;refine az func52 ?_;refine bj λg1 J au L j=>?_;have j:ad J g1 dI [aN,szv,Δ at_]:=by
  obtain⟨_,_,_,S⟩:=dg f;obtain⟨_,_,_,V⟩:=dg O;rw[S,V]at j ⊢;exact j
 rw[aL dI.p 0 j rfl,aW ap.u (f.ext L)];refine cd.range sc.length (λi _ U=>Ext w U/\fg s (sc.take i) (tl.take i)=true) f.le ⟨L,rfl⟩ ?_ ?_
 .rintro i W U X hi ⟨z,a⟩ Y;obtain⟨v,B⟩:=aF (l:=sc) hi;obtain⟨y,G⟩:=aF (l:=tl) (i:=i) Ω;have M:=P v (x5 B);obtain⟨x,C⟩:=aF (l:=s.vars) (i:=v.toNat) Ω;refine bQ Ω ?_;rw[be ap.u ah.i Ψ (f.ext z) B];intro av Z _ _;have E:=z.trans Z;refine pZ rfl ap.u ah.i (Q.ext E) G λb o aa=>?_;rw[aB (v:=Δ y) Ψ aa];refine(iX (i:=v) (h.ext E)).mono ?_;rintro _ aw _ ⟨⟨b,m,rfl,H⟩,I⟩;refine⟨.inl I,?_⟩;refine(Dp H.1).mono ?_;rintro _ ax _ ⟨rfl,N⟩;obtain⟨hm,ae⟩:=H.2.2 x M.1 C;have aA:=kF H M.1 C;have af:(decide (0<=y/\y<(m:Int))&&b.testBit y.toNat)=decide (y∈ay x):=by
   rw[ae,hm];by_cases e:0<=y/\y<(x.un.length:Int)
   .rw[decide_eq_true e,T6,decide_eq_true Ω,T6,Int.toNat_of_nonneg e.1];have:=Dx (x:=x) e;rw[U1,decide_eq_true_eq];simpa using this.symm
   .rw[decide_eq_false e,Bool.false_and];symm;refine decide_eq_false λhm=>e ?_;unfold ay at hm;obtain⟨h1,_⟩:=S4.1 hm;obtain⟨q,ak,rfl⟩:=l9.1 h1;have:=Q3.1 ak;omega
  have al:(sc.take (i+1)).zip (tl.take (i+1))=(sc.take i).zip (tl.take i)++[(v,y)]:=by
   rw[u7,u7,B,G,o8,o8,List.zip_append Θ];rfl
  have am:fg s (sc.take (i+1)) (tl.take (i+1))=decide (y∈ay x):=by
   unfold fg at a ⊢;rw[al,List.all_append,a,T6];simp[C]
  rw[af,bC,b7];refine⟨λK=>?_,λK=>?_⟩
  .refine⟨?_,(E.trans I).trans N⟩;congr 1;symm;have an:(v,y)∈sc.zip tl:=x5 (List.getElem?_zip_eq_some.2 ⟨B,G⟩);unfold fg;rw[List.all_eq_false];exact⟨_,an,by simp only[C];simpa using K⟩
  .rw[aP];exact Y _ _ ⟨(E.trans I).trans N,by rw[am];simpa using K⟩
 .rintro W U X ⟨z,a⟩;rw[aQ,aj];refine⟨λh=>Ω,λ_=>⟨?_,z⟩⟩;rw[o5,j0 Ω]at a;rw[a]
end
def jz(x:bq):Λ:=if x.gone≠0 then[]else(ay x).map λv=>x.un.getD v.toNat 0
def jA(x:bq):Λ:=[x.gone]++mW (ay x)++jz x
def iy(s:am)(f:cL):Λ:=if f.live≠0 then mW f.sc++((bg f.ag).filter (fg s f.sc)).map (bn f.ag f.cs)else[]
def l6(e:tc):Λ:=[-1,e.v]++mW e.sc++mW e.pi
def pw(s:am):Λ:=[s.zero]++s.vars.flatMap jA++s.funs.flatMap (iy s)++s.c5.flatMap l6
theorem px(l:Λ):(mW l).length=l.length+1:=rfl
def hN(w w':x3)(ab g1 go:Nat)(l:Λ):Prop:=Ext w w'/\ad w' g1 de [Γ ab]/\∃v g,ad w' go au [v]/\aq .i64 al w' g v l/\∀r,leads v r->w.heap.size<=r
section
variable{w J U:x3}{ab ac g1 go:Nat}{A R:af}{n:aI}{s:am}{t:aw}{l l':Λ}
theorem hN.ext(h:hN w J ab g1 go l)(a:Ext J U):hN w U ab g1 go l:=by
 obtain⟨h1,e,v,g,f,j,p⟩:=h;exact⟨h1.trans a,e.ext a,v,g,f.ext a,j.ext a,p⟩
theorem hN.put{v u:x1}{g:Nat}{K:Unit->x3->Prop}(p:Ext w J)(y:w.heap.size<=go)(f:ad J g1 de [Γ ab])(e:ad J go au [u])(hm:aq .i64 al J g v l)(q:∀r,leads v r->w.heap.size<=r)(s:∀U,ae (λr=>r=go) J U->hN w U ab g1 go l->K () U):aC x7 (o6 au (Γ go) v) J K:=by
 have h:=hm.ls.cells;refine bk (g:=go) (o:=0) au.i h.1 h.2 e Ξ λU a z x=>s U a ⟨p.then a λr j he=>by have he:r=go:=he;omega,f.V a λhe=>?_,v,g,x,bo hm a λr j he=>?_,q⟩
 .have he:g1=go:=he;subst he;exact absurd (ep f e) Φ
 .have he:r=go:=he;subst he;obtain⟨c,b⟩:=qR hm r j;exact absurd (ep b e) Φ
theorem side{v:x1}{g b:Nat}(a:ad J b e cs)(hm:aq .i64 al J g v l)(he:al≠e)(f:ae (λr=>leads v r) J U):ad U b e cs:=Pv a hm he f
theorem q8{u:x1}{b:Nat}(a:ad J b e cs)(f:ad J go au [u])(he:au≠e)(j:ae (λr=>r=go) J U):ad U b e cs:=a.V j λh=>by
 have h:b=go:=h;subst h;exact he (ep f a)
end
theorem ji{α β:Type}{f:α->List β}{L:List α}{b:Nat}(h:∀a∈L,(f a).length<=b):(L.flatMap f).length<=L.length*b:=by
 induction L with
 |nil=>simp
 |cons a L e=>
  rw[W0,r8,c9,U8,Nat.one_mul];have:=h a Ξ;have:=e λa j=>h a (by simp[j]);omega
section
variable{w:x3}{ab ac:Nat}{A R:af}{n:aI}{s:am}{t:aw}
theorem Px(a:bh k sizes s):∀x∈s.vars,(jA x).length<=66:=λx e=>by
 obtain⟨i,hi⟩:=X5.1 e;have f:=a.vars;have h:=(x4.1 hi).1;obtain⟨j,_⟩:=a.var i x _ hi (x6 Ω);have p:=a.eO.2.2 _ (S9 (l:=sizes) (n:=i) Ω);have:=pv x;have hu:(jz x).length<=(ay x).length:=by unfold jz;split<;>simp
 unfold jA;rw[r8,r8,px];simp;omega
theorem Py(e:bh k sizes s):∀f∈s.funs,(iy s f).length<=4103:=λf q=>by
 obtain⟨a,h,_⟩:=e.funs f q;have r:dE f.ag:=by rw[h];exact mI e.eO.2.2 λv j=>⟨(a.scope.1 v j).1,a.vars v j⟩
 have h1:=iI r;have w:aK f.ag<=4096:=by rw[h];exact a.small
 have x:=List.length_filter_le (fg s f.sc) (bg f.ag);have p:=a.scope.2;have p:f.sc.length<=6:=p;unfold iy;split
 .rw[r8,px,u9];omega
 .simp
theorem Eg(h:bp w ab ac A R n s t)(cc:Laid w)(B:Pu s)(fP:s.funs.length<=100000)(fQ:s.c5.length<=100000):ai x7 uF [Γ ab] w λv w'=>Ext w w'/\∃g,aq .i64 al w' g v (pw s)/\∀r,leads v r->w.heap.size<=r:=by
 have af:=h.2.2.2.1;have fS:=af.vars;have fU:=af.eO.2.1;have c4:=Px af;have c6:=Py af;obtain⟨⟨fV,fW,fX,fZ,ep⟩,_⟩:=id h;obtain⟨_,_,_,_,cd,ce,_,_,c7,_,_,_,⟨cg,c8⟩,ch,da⟩:=id ep;have gb:cd.length=s.funs.length:=c8.1;have gc:ce.length=s.c5.length:=da.1;refine hU func20 ?_;refine bj λg1 J gd ci a7=>?_;have a7:ad J g1 de [Γ ab]:=a7;rw[aB (v:=Γ ab) Ψ (a7.Qz rfl),cP de.u];simp only[j9,aU];rw[aB (v:=Γ ab) Ψ (a7.Qz rfl)];refine(qT (h.ext ci)).mono ?_;rintro _ gf _ ⟨rfl,db⟩;refine en (k:=.i64) au.u al.i rfl λv4 gg gh gi dc df=>?_;refine bz au.i λgo er aO dg O=>?_;have gj:=ci.size;have z3:=db.size;have z4:=dc.size;have bA:=(db.trans dc).trans dg;have O:ad er go au [.slice ν 0 0]:=O;refine hN.put (w:=w) (g1:=g1) (ci.trans bA) Ω (a7.ext bA) O (df.ext dg) (λr z=>by obtain⟨e,_⟩:=bO df z;omega) λgk gm cj=>?_;rw[aB (v:=Γ ab) Ψ (cj.2.1.Qz rfl)];refine(wI (h.ext cj.1)).mono ?_;rintro _ gn _ ⟨rfl,es⟩;have aO:w.heap.size<=go:=Ω
 refine bZ.range n.sizes.length (λi bB=>hN w bB ab g1 go ([s.zero]++(s.vars.take i).flatMap jA)) Ω (by rw[List.take_zero,List.flatMap_nil,W7];exact cj.ext es) ?_ ?_
 .rintro i bB et hi S eu;obtain⟨x,av⟩:=aF (l:=s.vars) (i:=i) Ω;have a8:([s.zero]++(s.vars.take i).flatMap jA).length<=100000:=by
   have:=ji (L:=s.vars.take i) (f:=jA) (b:=66) λa ba=>c4 a (V5 ba);rw[o7]at this;rw[r8];have P:min i s.vars.length*66<=64*66:=Y4 _ Ω;simp only[U9];omega
  generalize bb:[s.zero]++(s.vars.take i).flatMap jA=aj at S a8;have bc:[s.zero]++(s.vars.take (i+1)).flatMap jA=aj++jA x:=by
   rw[<-bb,u7,av,o8,List.flatMap_append,List.flatMap_singleton,X9]
  refine bQ Ω ?_;refine bz ah.i λaQ ev gp ew ck=>?_;have ck:ad ev aQ ah [Δ 0]:=ck;refine bk (g:=aQ) (o:=0) ah.i rfl rfl ck Ξ λdh ey gq cl=>?_;have cl:ad dh aQ ah [Δ (i:Int)]:=cl;have eA:Ext bB dh:=ew.put ey Ω;intro gu di _ _;have cm:=cl.ext di;obtain⟨ak,bD,v,g,O,hm,aw⟩:=S.ext (eA.trans di);obtain⟨gv,gw,gx,gA,aZ,gB,L,gD,dk,gE,eB,eC,gF,gH⟩:=(h.ext ak).1.parts;have N:∀{Q:x3}{K:x1->Prop},ad Q g1 de [Γ ab]->K (Γ ab)->aa x7 (u4 de (Γ g1)) Q K:=λB az=>by
   rw[aB (v:=Γ ab) Ψ (B.Qz rfl)];exact az
  have bd:∀{Q:x3}{K:x1->Prop},ad Q aQ ah [Δ (i:Int)]->K (Δ (i:Int))->aa x7 (u4 ah (Γ aQ)) Q K:=λB az=>by
   rw[aB (v:=Δ (i:Int)) Ψ (B.Qz rfl)];exact az
  rw[aB (v:=v) Ψ (O.Qz rfl)];refine N bD ?_;rw[aG bY.p 1 dk rfl];refine N bD ?_;rw[aG bY.p 2 dk rfl];refine bd cm ?_;rw[gl (y:=(i:Int)) (i:=i) rfl ap.u ah.i Ψ eC.ls (qS Ω)];refine N bD (bd cm ?_);have bE:t.bG[fa s i+0]?=σ x.gone:=by rw[h.2.1,pm av Ω];rfl
  refine(la (i:=fa s i) eB rfl bE).mono ?_;rintro _ gI _ ⟨rfl,cp⟩;refine⟨.inl cp,?_⟩;refine en (k:=.i64) au.u al.i rfl λgJ gK gL gM dl eD=>?_;refine⟨.inl (cp.trans dl),?_⟩;have aS:=cp.trans dl;have U:=hm.ext aS;refine gN au.u al.i rfl U eD.ls Θ Θ λcq eE cr W ct X=>?_;have eF:=ak.size;have gO:=aS.size;have be:∀r,leads cq r->w.heap.size<=r:=λr z=>(ct r z).elim (aw r) λh=>Ω
  have am:Ext w cr:=(ak.trans aS).then X λr z he=>by have:=aw r he;omega
  have dm:=side (cm.ext aS) U Φ X;have bI:=side (bD.ext aS) U Φ X;have cu:=side (O.ext aS) U Φ X;refine⟨.inr ⟨jo Ψ (dm.Qz rfl),jo Ψ (bI.Qz rfl),trivial⟩,?_⟩;refine(iX (i:=(i:Int)) (h.ext am)).mono ?_;rintro _ gP _ ⟨⟨gQ,gR,rfl,dn⟩,bA⟩;refine mC.mono ?_;rintro _ dp _ ⟨eH,dq,rfl,gS,cw⟩;have dr:=kF dn Ω (by rw[u6];exact av);have ds:=bA.trans eH;have gT:=pv x;have gU:=(af.var i x _ av (x6 hi)).1;have gV:=af.eO.2.2 _ (S9 hi);refine(Cb (L:=ay x) (mB (g:=dq) dn.1) (λk vs w hk=>by
    obtain⟨v,aA,rfl⟩:=hk;exact⟨v,by rw[<-dr,x8,aA];rfl,rfl⟩) (λa b bE dt=>⟨dt.1.V bE λh=>by have:=cw.lt;have h:dp.heap.size<=dq:=h;omega,hx bE (λh=>by have h:dp.heap.size<=0:=h;have:=cw.lt;omega) dt.2⟩) ⟨cw,cc.ext (am.trans ds)⟩ (by rw[<-dr,u9]) Ω).mono ?_
  rintro gW gX _ ⟨eI,gY,_,eJ⟩;have Y:=ds.trans eI;refine(tG (W.ext Y) eJ Θ).mono ?_;rintro bJ bf _ ⟨E,⟨du,aC⟩,bh⟩;have eK:=am.size;have gZ:=Y.size;have bK:∀r,leads bJ r->w.heap.size<=r:=λr z=>(bh r z).elim (be r) λh=>Ω
  have aD:Ext w bf:=(am.trans Y).then E λr z he=>by have:=be r he;omega
  have eL:=side (dm.ext Y) (W.ext Y) Φ E;have cz:=side (bI.ext Y) (W.ext Y) Φ E;have bL:=side (cu.ext Y) (W.ext Y) Φ E;refine hN.put (w:=w) (g1:=g1) aD aO cz bL aC bK λbM aE bi=>?_;have dv:=q8 eL bL Φ aE;refine N bi.2.1 (bd dv ?_);refine(iX (i:=(i:Int)) (h.ext bi.1)).mono ?_;rintro _ eM _ ⟨⟨eN,eQ,rfl,dw⟩,eR⟩;refine mC.mono ?_;rintro _ g0 _ ⟨eS,dx,rfl,eU,eV⟩;have dy:=eR.trans eS;have dz:=kF dw Ω (by rw[u6];exact av);have dA:=bi.ext dy;let dC:=aj++[x.gone]++mW (ay x);refine kf.old ⟨Nat,false,jd,#[Γ dx],_,_,_,_,λq w'=>hN w w' ab g1 go (dC++(jz x).take q)/\ad w' aQ ah [Δ (i:Int)],λ_ _ _=>False,rfl,(mB (g:=dx) dw.1).s,?_,
   λ_ _ C h=>⟨h.1.ext C,h.2.ext C⟩,λ_ _ _ C h=>⟨h.1.ext C,h.2.ext C⟩,λ_ _ _ _ _ h=>h,⟨eV,cc.ext dA.1⟩,⟨by rw[List.take_zero,W7];exact dA,dv.ext dy⟩,?_,?_,λ_ _ h=>h.elim,λ_ _ _ h=>h.elim⟩
  .rintro _ _ _ _ ⟨_,_,_,_,rfl⟩;rfl
  .rintro _ q _ dD ⟨dF,eW⟩ ⟨bN,rfl,y,bP,eX⟩ ⟨bR,cA⟩;cases eX;intro g2 cB _ _;have cC:=bR.ext cB;have cD:=cA.ext cB;have dG:(ay x)[q]?=σ (y:Int):=by rw[<-dz,x8,bP];rfl
   have dH:=x5 dG;have g3:0<=(y:Int)/\(y:Int)<x.un.length:=by
    unfold ay at dH;obtain⟨h1,_⟩:=S4.1 dH;obtain⟨j,aH,e⟩:=l9.1 h1;have:=Q3.1 aH;omega
   refine N cC.2.1 (bd cD ?_);refine(n5 (i:=(i:Int)) (v:=(y:Int)) (h.ext cC.1)).mono ?_;rintro _ g4 _ ⟨rfl,bS⟩;have eY:eP n i y:=⟨Ω,Ω,Ω,by rw[u6,v8,x6 hi,V8];omega⟩;have eZ:fY s (i:Int).toNat (y:Int).toNat=x.un.getD y 0:=by
    rw[u6,u6];unfold fY;rw[av]
   have bl:=cC.ext bS;rw[if_pos eY,eZ,br,bt];refine N bl.2.1 (bd (cD.ext bS) ?_);refine(qU (i:=(i:Int)) (h.ext bl.1)).mono ?_;rintro _ g5 _ ⟨rfl,bT⟩;have e0:(decide (0<=(i:Int))&&dM s (i:Int).toNat)=decide (x.gone≠0):=by
    rw[decide_eq_true Ω,T6,u6];unfold dM;rw[av]
   have bU:=(cB.trans bS).trans bT;rw[e0,bC,b7];refine⟨λaI=>?_,λaI=>?_⟩
   .have aT:¬x.gone≠0:=by simpa using aI
    obtain⟨bm,cE,v5,e2,an,G,bo⟩:=bl.ext bT;rw[aB (v:=v5) Ψ (an.Qz rfl)];have e3:((jz x).take q).length<=100:=by rw[o7];unfold jz;rw[if_neg aT,u9];omega
    refine tF G (by simp only[dC,r8,px,U9];omega) λe4 cF e5 H cH cI=>?_;have e6:=bm.size;have cK:Ext w cF:=bm.then H λr z he=>by have:=bo r he;omega
    refine hN.put (w:=w) (g1:=g1) cK aO (side cE G Φ H) (side an G Φ H) cH (λr z=>(cI r z).elim (bo r) λh=>Ω) λcL bW aV=>?_;have e7:=q8 (side ((cD.ext bS).ext bT) G Φ H) (side an G Φ H) Φ bW;have cM:=eU;have e8:∀{b:Nat}{e:r9}{cs:List x1},ad dD b e cs->al≠e->au≠e->ad cL b e cs:=λB h1 P=>q8 (side (B.ext bU) G h1 H) (side an G Φ H) P bW;refine⟨⟨e8 dF Φ Φ,cc.ext aV.1⟩,⟨?_,e7⟩,λh=>by cases h⟩;rw[u7,show(jz x)[q]?=σ (x.un.getD y 0) by unfold jz;rw[if_neg aT,x8,dG];rfl,o8,<-X9];exact aV
   .have aT:x.gone≠0:=by simpa using aI
    refine⟨⟨dF.ext bU,eW.ext bU⟩,⟨?_,cA.ext bU⟩,λh=>by cases h⟩;have e:jz x=[]:=by unfold jz;rw[if_pos aT]
    rw[e,List.take_nil]at bl ⊢;exact bl.ext bT
  .rintro q dD rfl ⟨bR,cA⟩;rw[aP];refine eu _ ?_;rw[bc];have:(jz x).take (fR eN eQ).length=jz x:=j0 (by
    unfold jz;split
    .simp
    .rw[u9,<-dz,u9];exact p8 _)
   rw[this]at bR;unfold jA;rw[<-X9,<-X9];exact bR
 .rintro bB et S;refine cn Ω ?_;rw[j0 Ω]at S;have e9:([s.zero]++s.vars.flatMap jA).length<=100000:=by
   have:=ji (L:=s.vars) (f:=jA) (b:=66) c4;have P:s.vars.length*66<=64*66:=Y4 _ Ω;rw[r8];simp only[U9];omega
  have N:∀{Q:x3}{K:x1->Prop},ad Q g1 de [Γ ab]->K (Γ ab)->aa x7 (u4 de (Γ g1)) Q K:=λB az=>by
   rw[aB (v:=Γ ab) Ψ (B.Qz rfl)];exact az
  refine N S.2.1 ?_;rw[aG bY.p 3 (c7.ext S.1) rfl,ez e1.u (cg.ext S.1)];unfold pw;generalize[s.zero]++s.vars.flatMap jA=cG at S e9;refine bZ.range cd.length (λj bX=>hN w bX ab g1 go (cG++(s.funs.take j).flatMap (iy s))) Ω (by rw[List.take_zero,List.flatMap_nil,W7];exact S) ?_ ?_
  .rintro j bX fb aH M fc;obtain⟨f,aW⟩:=aF (l:=s.funs) (i:=j) Ω;obtain⟨y,bP⟩:=aF (l:=cd) aH;obtain⟨⟨⟨bF,aX⟩,_⟩,fd,_⟩:=c8.2 j y f bP aW;have b0:=fd.ls;obtain⟨aY,cN,_⟩:=af.funs f (x5 aW);have b2:dE f.ag:=by rw[cN];exact mI af.eO.2.2 λv aA=>⟨(aY.scope.1 v aA).1,aY.vars v aA⟩
   have g6:f.sc.length<=6:=aY.scope.2;have fe:f.ag.length=f.sc.length:=by rw[cN];unfold bV;rw[u9]
   have ff:b1 f.ag:=⟨Ω,b2⟩;have g7:=iI b2;have g8:aK f.ag<=4096:=by rw[cN];exact aY.small
   have a8:(cG++(s.funs.take j).flatMap (iy s)).length<=1000000000:=by
    have:=ji (L:=s.funs.take j) (f:=iy s) (b:=4103) λa ba=>c6 a (V5 ba);rw[o7]at this;have P:min j s.funs.length*4103<=100000*4103:=Y4 _ Ω;rw[r8];omega
   generalize bb:cG++(s.funs.take j).flatMap (iy s)=aj at M a8;have bc:cG++(s.funs.take (j+1)).flatMap (iy s)=aj++iy s f:=by
    rw[<-bb,u7,aW,o8,List.flatMap_append,List.flatMap_singleton,X9]
   refine bQ Ω ?_;refine dd (λdJ=>hN w dJ ab g1 go (aj++iy s f)) (λdJ fh=>by rw[aP];exact fc _ (by rw[bc];exact fh)) λax dK=>?_;rw[dj rfl e1.u dI.i (cg.ext M.1) aH,bH dI.p dI.i rfl ((cg.ext M.1).range bP)];refine bz ah.i λZ dL g9 b3 a1=>?_;have a1:ad dL Z ah [Δ 0]:=a1;refine bz dI.i λb4 dN ha dO dP=>?_;refine bk (g:=Z) (o:=0) ah.i rfl rfl (a1.ext dO) Ξ λcO dQ hb cQ=>?_;have cQ:ad cO Z ah [Δ (j:Int)]:=cQ;have hc:=b3.size;have hd:=a1.lt;have cR:=(aX.ext M.1).ls;have fi:=b0.ext M.1;refine b6 (vs:=l0 y) dI.i rfl rfl (by intro u hu;simp[l0]at hu;rcases hu with rfl|rfl|rfl<;>first|rfl|exact cR.cells.2|exact fi.cells.2) (dP.V dQ λhe=>by have he:b4=Z:=he;omega) λdR dS hf fj=>?_;have dT:=cQ.V dS λhe=>by have he:Z=b4:=he;omega
   have fk:Ext bX dR:=((b3.trans dO).then dQ λr z he=>by have he:r=Z:=he;omega).put dS Ω;have cS:=M.ext fk;have dU:∀{Q:x3}{K:x1->Prop},ad Q Z ah [Δ (j:Int)]->K (Δ (j:Int))->aa x7 (u4 ah (Γ Z)) Q K:=λB az=>by
    rw[aB (v:=Δ (j:Int)) Ψ (B.Qz rfl)];exact az
   refine N cS.2.1 (dU dT ?_);refine(wM (j:=(j:Int)) (h.ext cS.1)).mono ?_;rintro _ dV _ ⟨rfl,bq⟩;have dW:=cS.ext bq;have fm:(decide (0<=(j:Int))&&gC s (j:Int).toNat)=decide (f.live≠0):=by
    rw[decide_eq_true Ω,T6,u6];unfold gC;rw[aW]
   rw[fm,bC,b7];refine⟨λaI=>dK _ ?_,λaI=>?_⟩
   .have aT:¬f.live≠0:=by simpa using aI
    unfold iy;rw[if_neg aT,W7];exact dW
   have cM:f.live≠0:=by simpa using aI
   obtain⟨cT,fo,fp,ge,cU,bw,dX⟩:=id dW;have fq:=dT.ext bq;have dY:ad dV b4 dI [y.aN,y.szv,Δ (y.at_:Int)]:=fj.ext bq;rw[aB (v:=fp) Ψ (cU.Qz rfl),aL dI.p 0 dY rfl];refine(tG bw (aX.ext cT) Ω).mono ?_;rintro bJ bf _ ⟨E,⟨du,aC⟩,bh⟩;have hg:=cT.size;have aD:Ext w bf:=cT.then E λr z he=>by have:=dX r he;omega
   refine hN.put (w:=w) (g1:=g1) aD aO (side fo bw Φ E) (side cU bw Φ E) aC (λr z=>(bh r z).elim (dX r) λh=>Ω) λbM aE bi=>?_;have dZ:∀{b:Nat}{e:r9}{cs:List x1},ad dV b e cs->al≠e->au≠e->ad bM b e cs:=λB h1 P=>q8 (side B bw h1 E) (side cU bw Φ E) P aE;have fs:=dZ fq Φ Φ;have ea:=dZ dY Φ Φ;rw[aR dI.p rfl,bH (cs:=[y.szv]) bu.p bu.i rfl (λq u bN=>by
    cases q with
    |zero=>cases bN;exact ea.cell (o:=0+1) rfl
    |succ q=>simp at bN)]
   refine sz.mono ?_;rintro _ hh _ ⟨cV,eb,rfl,hj,ft⟩;have cW:=bi.ext cV;have fu:=sy (g:=eb) (B0:=w.heap.size) (sv:=y.szv) ff;refine mg.old ⟨Nat,false,kQ,#[Γ eb],_,_,_,_,λq w'=>hN w w' ab g1 go (aj++mW f.sc++(((bg f.ag).take q).filter (fg s f.sc)).map (bn f.ag f.cs))/\ad w' Z ah [Δ (j:Int)]/\ad w' b4 dI [y.aN,y.szv,Δ (y.at_:Int)],λ_ _ _=>False,rfl,fu.s,
    ?_,λ_ _ C h=>⟨h.1.ext C,h.2.1.ext C,Y5 h.2.2 C.size⟩,λ_ _ _ C h=>⟨h.1.ext C,h.2.1.ext C,h.2.2.ext C⟩,λ_ _ _ _ _ h=>h,⟨ft,b0.ext cW.1,cW.1.size⟩,⟨by rw[List.take_zero,List.filter_nil,List.map_nil,W7];exact cW,fs.ext cV,ea.ext cV⟩,?_,?_,λ_ _ h=>h.elim,λ_ _ _ h=>h.elim⟩
   .rintro _ _ _ _ ⟨_,_,_,_,rfl,_⟩;rfl
   .rintro _ aM q _ ec ⟨ed,fv,fw⟩ ⟨bN,rfl,hl,gt,fx,hn,ee⟩ ⟨b5,cX,cY⟩;cases fx;have b8:(bg f.ag)[q]?=σ (cJ f.ag (q:Int)):=oV b2 Ω;generalize cJ f.ag (q:Int)=tl at b8 ee;intro ho b9 _ _;have cZ:=b5.ext b9;have ef:=(ee.ext b9).ls;refine N cZ.2.1 (dU (cX.ext b9) ?_);refine(wN (j:=j) (h.ext cZ.1) ef).mono ?_;rintro _ hp _ ⟨rfl,c0⟩;have fy:=jq b2 b8;have fz:(h5 s j tl).isSome=true:=by unfold h5;rw[aW];simp only;rw[if_pos cM,fy];rfl
    have fA:n7 s j tl=bn f.ag f.cs tl:=by unfold n7;rw[aW]
    have bx:=cZ.ext c0;rw[if_pos fz,fA,br,bt];refine N bx.2.1 ?_;have eg:=b9.trans c0;rw[bH dI.p dI.i rfl (cY.ext eg).range];refine(Pw (at_:=(y.at_:Int)) (h.ext bx.1) ((aX.ext bx.1).ls) (b0.ext bx.1) (λv aA=>⟨(aY.scope.1 v aA).1,aY.vars v aA⟩) (ef.ext c0) (by rw[u1 b8,fe])).mono ?_;rintro _ hq _ ⟨rfl,eh⟩;have ei:=bx.ext eh;have a2:=eg.trans eh;have ej:((bg f.ag).take (q+1)).filter (fg s f.sc)=((bg f.ag).take q).filter (fg s f.sc)++(if fg s f.sc tl=true then[tl]else[]):=by
     rw[u7,b8,o8,List.filter_append];congr 1;cases ao:fg s f.sc tl<;>simp[ao]
    rw[b7];refine⟨λc1=>?_,λc1=>?_⟩
    .obtain⟨bm,cE,v5,e2,an,G,bo⟩:=ei;rw[aB (v:=v5) Ψ (an.Qz rfl)];have e3:(((bg f.ag).take q).filter (fg s f.sc)).length<=4096:=by
      have:=List.length_filter_le (fg s f.sc) ((bg f.ag).take q);rw[o7]at this;omega
     refine tF G (by simp only[r8,px,u9];omega) λe4 cF e5 H cH cI=>?_;have e6:=bm.size;have cK:Ext w cF:=bm.then H λr z he=>by have:=bo r he;omega
     refine hN.put (w:=w) (g1:=g1) cK aO (side cE G Φ H) (side an G Φ H) cH (λr z=>(cI r z).elim (bo r) λh=>Ω) λcL bW aV=>?_;have c2:∀{b:Nat}{e:r9}{cs:List x1},ad ec b e cs->al≠e->au≠e->ad cL b e cs:=λB h1 P=>q8 (side (B.ext a2) G h1 H) (side an G Φ H) P bW;refine⟨⟨c2 ed Φ Φ,b0.ext aV.1,aV.1.size⟩,⟨?_,c2 cX Φ Φ,c2 cY Φ Φ⟩,λh=>by cases h⟩;rw[ej,if_pos c1,Z4,List.map_singleton,<-X9];exact aV
    .refine⟨⟨ed.ext a2,fv.ext a2,Y5 fw a2.size⟩,⟨?_,cX.ext a2,cY.ext a2⟩,λh=>by cases h⟩;rw[ej,if_neg (by rw[c1];decide),W7];exact ei
   .rintro q ec rfl ⟨b5,_⟩;refine dK _ ?_;rw[j0 Ω]at b5;unfold iy;rw[if_pos cM,<-X9];exact b5
  .rintro bX fb M;refine cn Ω ?_;rw[j0 Ω]at M;have fB:(cG++s.funs.flatMap (iy s)).length<=1000000000:=by
    have:=ji (L:=s.funs) (f:=iy s) (b:=4103) c6;have P:s.funs.length*4103<=100000*4103:=Y4 _ Ω;rw[r8];omega
   refine N M.2.1 ?_;rw[aG bY.p 4 (c7.ext M.1) rfl,ez mm.u (ch.ext M.1)];generalize cG++s.funs.flatMap (iy s)=ca at M fB;refine bZ.range ce.length (λj cb=>hN w cb ab g1 go (ca++(s.c5.take j).flatMap l6)) Ω (by rw[List.take_zero,List.flatMap_nil,W7];exact M) ?_ ?_
   .rintro j cb fD aH ae fE;obtain⟨e,he⟩:=aF (l:=s.c5) (i:=j) Ω;obtain⟨x,C⟩:=aF (l:=ce) aH;obtain⟨bq,⟨⟨bF,aX⟩,_⟩,⟨hr,ek⟩,_⟩:=da.2 j x e C he;obtain⟨hs,dP⟩:=B e (x5 he);have a8:(ca++(s.c5.take j).flatMap l6).length<=10000000000:=by
     have:=ji (L:=s.c5.take j) (f:=l6) (b:=2004) λa ba=>by
      obtain⟨h1,P⟩:=B a (V5 ba);unfold l6;simp only[r8,px,c9,List.length_nil];omega
     rw[o7]at this;have P:min j s.c5.length*2004<=100000*2004:=Y4 _ Ω;rw[r8];omega
    generalize bb:ca++(s.c5.take j).flatMap l6=aj at ae a8;have bc:ca++(s.c5.take (j+1)).flatMap l6=aj++l6 e:=by
     rw[<-bb,u7,he,o8,List.flatMap_append,List.flatMap_singleton,X9]
    refine bQ Ω ?_;rw[dj rfl mm.u fN.i (ch.ext ae.1) aH,bH fN.p fN.i rfl ((ch.ext ae.1).range C)];refine bz fN.i λge dL ht b3 a1=>?_;have cR:=(aX.ext ae.1).ls;have fF:=(ek.ext ae.1).ls;refine b6 (vs:=wm x) fN.i rfl rfl (by intro u hu;simp[wm]at hu;rcases hu with rfl|rfl|rfl<;>first|rfl|exact cR.cells.2|exact fF.cells.2) a1 λdN fG hv a6=>?_;have fH:Ext cb dN:=b3.put fG Ω;intro cO em _ _;have a6:ad cO ge fN [Δ x.v,x.aN,x.bv]:=a6.ext em;obtain⟨ak,I,v,g,O,hm,aw⟩:=ae.ext (fH.trans em);rw[aB (v:=v) Ψ (O.Qz rfl),aL fN.p 0 a6 rfl,aL fN.p 1 a6 rfl,aL fN.p 2 a6 rfl,bq];refine ve (l:=[-1,e.v]) au.u al.i Ω rfl Ψ λhy hz dR hA aJ fI=>?_;refine⟨.inl aJ,?_⟩;have U:=hm.ext aJ;refine gN au.u al.i rfl U fI.ls Θ Θ λcq eE cr W ct X=>?_;have eF:=ak.size;have hB:=aJ.size;have be:∀r,leads cq r->w.heap.size<=r:=λr z=>(ct r z).elim (aw r) λh=>Ω
    have am:Ext w cr:=(ak.trans aJ).then X λr z he=>by have:=aw r he;omega
    have c3:=side (a6.ext aJ) U Φ X;have bI:=side (I.ext aJ) U Φ X;have cu:=side (O.ext aJ) U Φ X;refine⟨.inr ⟨jo Ψ (c3.cell (o:=0+2) rfl),Go.Vc.hG λK=>aR fN.p rfl,jo Ψ (c3.cell (o:=0+1) rfl),Go.Vc.hG λK=>aR fN.p rfl,trivial⟩,?_⟩;refine(tG W (aX.ext am) Θ).mono ?_;rintro bJ bf _ ⟨E,⟨du,aC⟩,bh⟩;have eK:=am.size;have bK:∀r,leads bJ r->w.heap.size<=r:=λr z=>(bh r z).elim (be r) λh=>Ω
    have aD:Ext w bf:=am.then E λr z he=>by have:=be r he;omega
    have fJ:=side c3 W Φ E;have cz:=side bI W Φ E;have bL:=side cu W Φ E;refine⟨.inr ⟨jo Ψ (fJ.cell (o:=0+2) rfl),Go.Vc.hG λK=>aR fN.p rfl,trivial⟩,?_⟩;refine(tG aC (ek.ext aD) (by simp[px];omega)).mono ?_;rintro hC bM _ ⟨aE,⟨hD,fK⟩,fL⟩;have hE:=aD.size;have fM:Ext w bM:=aD.then aE λr z he=>by have:=bK r he;omega
    refine hN.put (w:=w) (g1:=g1) fM aO (side cz aC Φ aE) (side bL aC Φ aE) fK (λr z=>(fL r z).elim (bK r) λh=>Ω) λeM hF fO=>?_;rw[aP];refine fE _ ?_;rw[bc];unfold l6;rw[<-X9,<-X9];exact fO
   .rintro cb fD ae;refine cn Ω ?_;rw[j0 Ω]at ae;obtain⟨ak,I,v,g,O,hm,aw⟩:=ae;rw[aB (v:=v) Ψ (O.Qz rfl)];intro hH eo _;exact⟨ak.trans eo,g,hm.ext eo,aw⟩
end
end Go.Proofs.YtikkpokkcdocoaaGreatDoor
