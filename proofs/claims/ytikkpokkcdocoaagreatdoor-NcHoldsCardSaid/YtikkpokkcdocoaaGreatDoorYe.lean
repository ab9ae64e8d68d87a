/- own texts, made small by a tool (wip/ holds them as they were written): no statement of the seat. -/
import Derived.Test.YtikkpokkcdocoaaGreatDoorYd
set_option linter.unusedVariables false
set_option linter.unusedSimpArgs false
set_option linter.unnecessarySimpa false
open Array renaming getElem?_eq_some_iff→j6
open BitVec renaming ofInt→T0
open Bool renaming not_true→Y9,not_false→X9,eq_iff_iff→V7,and_eq_true→U1,or_eq_false_iff→U3
open Decidable renaming not_not→X2
open Go renaming Value→x3,World→x4,TypeId→r9,IntKind→o9,Program→W9
open Go.Addr renaming add_mid→T4
open Go.Builtin renaming append_→Z3
open Go.Instr renaming loadAt→u5,fieldAt→u6,storeAt→o8,indexAt→j5,buildSlice→Y8
open Go.IntKind renaming i64→X7
open Go.Proofs.Tryz renaming prog→x8
open Int renaming toNat_natCast→u9,eq_ofNat_of_zero_le→U6,le_refl→Q1
open List renaming getElem?_eq_some_iff→x5,mem_of_getElem?→x6,getElem?_eq_getElem→x7,getElem?_map→v8,getD_eq_getElem?_getD→u4,length_map→u7,take_add_one→r8,replicate→o4,take_length→o6,length_append→o7,length_take→n9,mem_append→l9,mem_map→j0,mem_singleton→j4,take_of_length_le→j9,getElem?_set_self→c9,eq_nil_of_length_eq_zero→b9,map_append→Z2,length_cons→Z5,length_set→Z9,getElem?_take_of_lt→Y0,getElem?_append_left→Y1,getElem?_append_right→Y3,getElem?_eq_none→Y4,getElem?_set_ne→Y5,ext_getElem?→Y7,getElem?_set→X1,mem_iff_getElem?→X6,range→W3,mem_or_eq_of_mem_set→W5,length_eq_one_iff→V0,mem_cons→V1,flatMap_cons→V4,pairwise_iff_getElem→V6,map_set→U5,append_nil→U9,map_cons→T1,foldl_cons→T7,mem_of_mem_take→T9,getElem?_drop→S2,map_map→R2,foldl_append→R5,length→Q0,getElem_mem→Q3
open Nat renaming le_refl→o5,le_trans→X0,zero_add→X3,zero_le→X5,mul_le_mul_right→W0,mul_one→U2,sub_self→U4,add_mul→U7,pow_le_pow_right→T6,add_assoc→R3
open Ne renaming symm→S6
open Option renaming toList_some→l7,some→b8,isNone_some→Z6,map_some→Z7,map_eq_some_iff→Y6,getD_some→V2,map→V9,isSome_some→S8,isSome_none→S9
open Option.some renaming inj→Z0
set_option maxHeartbeats 16000000
open Option renaming some→σ,none→ν
variable{w w':x4}{szv z:x3}{S:Nat->Prop}{e:r9}{c k v y:Int}{a ah cs l sc sizes t tl:Λ}{K:x3->x4->Prop}{B ab ac j pos:Nat}{L:List (Λ)}
namespace Go.Proofs.YtikkpokkcdocoaaGreatDoor
open Go Go.Vc Go.RowKit Go.Proofs Go.Proofs.Tryz
set_option maxRecDepth 100000
def Ou(w:x4)(f:ca)(v:x3)(w':x4):Prop:=Ext w w'/\∃go a,be dr 3 aX w' go v a/\(∀h∈a,fP w' f.sizes h/\∀r,pv h r->w.heap.size<=r)/\a.map dw=fI f/\∀r,leadsTo v r->w.heap.size<=r
def ln(k:Int)(sc cs:Λ)(h:cI):cI:=if h.1=sc then(h.1,ed k h.2 cs)else h
theorem Ov{N:Nat}{bL:Nat}{f:ca}(cH:n8 w bL f)(R:ff N f):ai x8 Hp [Γ bL] w (Ou w f):=by
 have hk:=R.k;obtain⟨szv,gz,av,gr,a2,bM,cI⟩:=id cH;obtain⟨bN,a7,cJ,cK⟩:=id cI;refine ay func136 ?_;rw[aQ dJ.p 3 a2 rfl,e9 dC.u a7];refine b3.range bN.length (λi l J=>∃g L,Ext w J/\kA J w.heap.size g l f.sizes L/\L.map dw=eR f i) a7.le
  ⟨0,[],Ext.refl _,⟨be.nil _ _ _ _ _,λh ap=>(by cases ap),λi j x y a8=>(by simp at a8),λr C=>(fg C).elim⟩,rfl⟩ ?_ ?_
 rotate_left
 .rintro l J cL ⟨g,L,S,C,V⟩;rw[<-cJ,CR]at V;rw[aR,aj];refine⟨λh=>Ω,λ_=>Ot R C V λout w' go cM a8 ba cN W cO cP=>?_⟩;have cQ:=S.size;exact⟨S.trans a8,go,cM,ba,λh ap=>⟨W h ap,(C.2.1 h (cN h ap)).2⟩,cO,λr C=>by have:=cP r C;omega⟩
 rintro i l J cL hi ⟨g,L,S,C,V⟩ cR;obtain⟨bb,bO⟩:=aD (l:=bN) hi;obtain⟨x,bd⟩:=aD (l:=f.funs) (i:=i) Ω;have bf:=x6 bd;have bg:=cK i bb x bO bd;have bP:=pn R bf;obtain⟨cS,dI,dK⟩:=CQ R i;have bQ:L.length=(eR f i).length:=by rw[<-V,u7]
 have dL:=R.k4;have bS:=a7.ext S;refine bD Ω ?_;refine aW (λl' U=>∃g L,Ext w U/\kA U w.heap.size g l' f.sizes L/\L.map dw=eR f (i+1)) ?_ ?_
 .rintro l' U bh;rw[aM];exact cR _ _ bh
 intro aw bU;rw[dE rfl dC.u a6.i bS hi,bF a6.p a6.i rfl (bS.range bO)];refine bw a6.i λal dM dN cT cU=>?_;refine bT (vs:=e2 bb) a6.i rfl rfl bg.one cU λcW cX dO cY=>?_;have bV:Ext J cW:=cT.put cX Ω;have dP:=bV.size;refine aW (λa1 ax=>∃G c,a1=Γ G/\Ext J ax/\ad ax G aX (dr c)/\c.sc=bo x.scope/\c.cs=(hZ f.sizes f.k x).2/\fP ax f.sizes c/\J.heap.size<=G/\∀r,pv c r->J.heap.size<=r) ?_ ?_
 rotate_left
 .intro dQ bW;intro cZ bX _ _;have az:=bV.trans bX;have aA:=S.trans az;have c0:=cY.ext bX;have bY:=a2.ext aA;have dR:=az.size;rw[bF a6.p a6.i rfl (show cZ.rangeAt al 0 (e2 bb)from c0.range),aQ dJ.p 2 bY rfl,aQ dJ.p 1 bY rfl];refine⟨?_,?_⟩
  .refine (Du (bg.ext aA) R bf (bM.ext aA)).mono ?_;rintro _ dS _ ⟨bi,c,rfl,h1,bj,W,O⟩;refine bw aX.i λG dT bZ bk aB=>?_;refine⟨.inl (bi.trans bk),?_⟩;refine bT (vs:=dr c) aX.i rfl rfl W.one aB λdU b0 dV c1=>?_;have dW:=bi.size;refine bW _ _ ⟨G,c,rfl,(az.trans bi).trans (bk.then b0 λr C he=>by have he:r=G:=he;omega),c1,h1,bj,?_,Ω,λr C=>by have:=O r C;omega⟩;exact mP (W.ext bk) b0 λr C=>.inl ⟨_,_,by have C:r=G:=C;subst C;exact aB,Φ,Φ⟩
  .refine bw aX.i λG dX bZ aC aB=>?_;refine⟨.inl aC,?_⟩;have b2:=aA.trans aC;refine(Du (bg.ext b2) R bf (bM.ext b2)).mono ?_;rintro _ dY _ ⟨b4,c,rfl,h1,bj,W,O⟩;have b5:=aB.ext b4;have dZ:=aC.size;refine bT (vs:=dr c) aX.i rfl rfl W.one b5 λea b6 eb c2=>?_;refine bW _ _ ⟨G,c,rfl,az.trans ((aC.trans b4).then b6 λr C he=>by have he:r=G:=he;omega),c2,h1,bj,?_,Ω,λr C=>by have:=O r C;omega⟩;exact mP W b6 λr C=>.inl ⟨_,_,by have C:r=G:=C;subst C;exact b5,Φ,Φ⟩
 rintro _ ax ⟨G,c,rfl,bl,c3,af,aE,c4,bZ,O⟩;have b9:=C.ext bl;have c5:∀h∈L,∀r,leads h.aZ r->r<J.heap.size:=λh ap r c6=>by
  obtain⟨⟨_,_,c7,cb⟩,_⟩:=C.2.1 h ap;have:=bR cb c6;omega
 have c8:∀{j:Nat},decide (c.sc∈(L.take j).map (·.sc))=decide (bo x.scope∈((eR f i).take j).map (·.1)):=λ{j}=>by
  rw[af,<-V,<-List.map_take,R2];rfl
 have cQ:=S.size;rw[e9 cV.u b9.1];refine b3.range L.length (λj av P=>∃E,av= .bool (decide (c.sc∈(L.take j).map (·.sc)))/\Ext w P/\J.heap.size<=P.heap.size/\kA P w.heap.size g l f.sizes E/\E.map dw=((eR f i).map (ln f.k c.sc c.cs)).take j++(eR f i).drop j/\ad P G aX (dr c)/\fP P f.sizes c/\∀h∈E,∀r,leads h.aZ r->r<J.heap.size) C.1.le
  ⟨L,Ξ,S.trans bl,bl.size,b9,by simpa using V,c3,c4,c5⟩ ?_ ?_
 .rintro j _ P c9 cc ⟨E,rfl,ah,da,aH,M,bm,bn,X⟩ db;have dc:E.length=L.length:=by
   have:=congrArg Q0 M;simp only[u7,o7,n9,List.length_drop]at this;omega
  obtain⟨h,ap⟩:=aD (l:=E) (i:=j) Ω;have aI:(eR f i)[j]?=σ (dw h):=by
   have cd:(E.map dw)[j]?=σ (dw h):=by rw[v8,ap];rfl
   rw[M,Dx (by rw[u7];omega)]at cd;exact cd
  have aJ:((eR f i).map (ln f.k c.sc c.cs))[j]?=σ (ln f.k c.sc c.cs (dw h)):=by rw[v8,aI];rfl
  have dd:∃y,L[j]?=σ y/\y.sc=h.sc:=by
   refine⟨_,x7 cc,?_⟩;rw[<-V,v8,x7 cc]at aI;exact congrArg Prod.fst (Z0 aI)
  obtain⟨y,K,de⟩:=dd;have bp:(c.sc∈(L.take (j+1)).map (·.sc))↔c.sc∈(L.take j).map (·.sc)\/h.sc=c.sc:=by
   rw[r8,K,l7,Z2,l9,List.map_singleton,j4,de];exact or_congr Iff.rfl ⟨λe=>e.symm,λe=>e.symm⟩
  have ce:ft f.sizes f.k (dw h):=cS _ (x6 aI);refine bD Ω ?_;refine aW (λav Q=>∃E,av= .bool (decide (c.sc∈(L.take (j+1)).map (·.sc)))/\Ext w Q/\J.heap.size<=Q.heap.size/\kA Q w.heap.size g l f.sizes E/\E.map dw=((eR f i).map (ln f.k c.sc c.cs)).take (j+1)++(eR f i).drop (j+1)/\ad Q G aX (dr c)/\fP Q f.sizes c/\∀h∈E,∀r,leads h.aZ r->r<J.heap.size) ?_ ?_
  .rintro ec Q bh;rw[aM];exact db _ _ bh
  intro ef cg;intro df ak _ _;have aK:=aH.ext ak;have ch:=bm.ext ak;have ci:=bn.ext ak;obtain⟨dg,eg⟩:=aK.2.1 h (x6 ap);obtain⟨⟨g1,h1⟩,_,c7,cb⟩:=id dg;obtain⟨⟨eh,dh⟩,_,ei,ck⟩:=id ci;rw[dE rfl cV.u aX.i aK.1 Ω,aS aX.p rfl,aF (v:=h.aL) Ψ (aK.1.range ap 0 _ rfl),aG aX.p 0 ch rfl];refine(JW h1.ls dh.ls).mono ?_;rintro _ ej _ ⟨rfl,ab⟩;have cl:=aK.ext ab;have bq:=ch.ext ab;have cm:=ci.ext ab;have cn:=(ah.trans ak).trans ab;have z9:=(ak.trans ab).size;rw[aj];refine⟨λbr=>?_,λcp=>?_⟩
  rotate_left
  .refine cg _ _ ⟨E,?_,cn,Ω,cl,?_,bq,cm,X⟩
   .congr 1;exact decide_eq_decide.2 ⟨λh=>bp.2 (.inl h),λh=>(bp.1 h).resolve_right cp⟩
   .have e:ln f.k c.sc c.cs (dw h)=dw h:=if_neg cp;rw[e]at aJ;rw[<-wG Ω aJ,<-M];symm;refine Y7 λp=>?_;rw[X1];by_cases am:j=p
    .subst am;rw[if_pos rfl,if_pos Θ,v8,ap];rfl
    .rw[if_neg am]
  have di:h.cs.length=c.cs.length:=by
   have dj:h.cs.length=_:=ce.len;have dk:c.cs.length=(aN (bI f.sizes (hZ f.sizes f.k x).1)).toNat:=by rw[aE];exact bP.len
   rw[dj,dk,show(dw h).1=h.sc from rfl,br,af];rfl
  have ek:(ed f.k h.cs c.cs).length=h.cs.length:=by unfold ed;rw[List.length_zipWith];omega
  rw[aG aX.p 2 bq rfl,aV au.u (ck.ext ab).ls];refine b1.range c.cs.length (λs Y=>Ext w Y/\J.heap.size<=Y.heap.size/\kA Y w.heap.size g l f.sizes (E.set j {h with cs:=(ed f.k h.cs c.cs).take s++h.cs.drop s})/\ad Y G aX (dr c)/\fP Y f.sizes c) ck.ls.le
   ⟨cn,Ω,?_,bq,cm⟩ ?_ ?_
  .have e:E.set j {h with cs:=(ed f.k h.cs c.cs).take 0++h.cs.drop 0}=E:=by
    refine Y7 λp=>?_;rw[X1];by_cases am:j=p
    .subst am;rw[if_pos rfl,if_pos Ω,ap];rfl
    .rw[if_neg am]
   rw[e];exact cl
  .rintro s Y dl I ⟨bt,cq,aO,bu,bx⟩ dm;refine bD Ω ?_;intro em an _ _;have ac:=aO.ext an;have cr:=bu.ext an;have ct:=bx.ext an;have cu:=bt.trans an;have aP:(E.set j {h with cs:=(ed f.k h.cs c.cs).take s++h.cs.drop s})[j]?=σ {h with cs:=(ed f.k h.cs c.cs).take s++h.cs.drop s}:=by
    rw[X1,if_pos rfl,if_pos Ω]
   have cw:j<(E.set j {h with cs:=(ed f.k h.cs c.cs).take s++h.cs.drop s}).length:=by rw[Z9];omega
   obtain⟨⟨_,_,dn,bz⟩,dp⟩:=ac.2.1 _ (x6 aP);obtain⟨_,_,en,dq⟩:=id ct;obtain⟨a,bA⟩:=aD (l:=h.cs) (i:=s) Ω;obtain⟨b,aq⟩:=aD (l:=c.cs) I;have ds:s<({h with cs:=(ed f.k h.cs c.cs).take s++h.cs.drop s}:fv).cs.length:=by show s<((ed f.k h.cs c.cs).take s++h.cs.drop s).length;rw[o7,n9,List.length_drop];omega
   have dt:((ed f.k h.cs c.cs).take s++h.cs.drop s)[s]?=σ a:=by rw[Dx Ω];exact bA
   have bB:(ed f.k h.cs c.cs)[s]?=σ (min (a+b) f.k):=by
    unfold ed;rw[List.getElem?_zipWith,bA,aq]
   have eo:=ce.h3 a (x6 bA);have ep:=bP.h3 b (by rw[<-aE];exact x6 aq);have du:=a2.ext cu;rw[dE rfl cV.u aX.i ac.1 cw,aS aX.p rfl,aF (v:=h.aZ) Ψ (ac.1.range aP 2 _ rfl),dE rfl cV.u aX.i ac.1 cw,aS aX.p rfl,aF (v:=h.aZ) Ψ (ac.1.range aP 2 _ rfl),bc au.u ao.i Ψ bz.ls dt,aG aX.p 2 cr rfl,bc au.u ao.i Ψ dq.ls aq,aQ dJ.p 1 du rfl];refine(l2 Ω Ω).mono ?_;rintro _ er _ ⟨rfl,ae⟩;refine⟨.inl ae,?_⟩;have z12:=(an.trans ae).size;refine On (h:={h with cs:=(ed f.k h.cs c.cs).take s++h.cs.drop s}) (ac.ext ae) aP ds λes aT cz bC=>?_;rw[aM];have dv:=ct.ext ae;have cA:=cr.ext ae;have et:=aT.size;refine dm _ ⟨(cu.trans ae).then aT λr C he=>by have:=dp r (.inl he);omega,Ω,?_,?_,?_⟩
   .rw[List.set_set]at bC;have e:=wG (A:=ed f.k h.cs c.cs) (B:=h.cs) (s:=s) Ω bB;simp only[e]at bC;exact bC
   .exact cA.aa aT λI=>by
     obtain⟨eu,dx⟩:=cz _ I;exact absurd (fh cA dx) Φ
   .refine mP dv aT λr C=>.inr (.inr ⟨cz r C,λdy=>?_⟩);have:=O r (.inl dy);have:=X h (x6 ap) r C;omega
  .rintro Y dl ⟨bt,cq,aO,bu,bx⟩;refine b7 Ω ?_;have e:(ed f.k h.cs c.cs).take c.cs.length++h.cs.drop c.cs.length=ed f.k h.cs c.cs:=by
    rw[<-di,List.drop_length,U9,j9 Ω]
   simp only[e]at aO;refine cg _ _ ⟨_,?_,bt,cq,aO,?_,bu,bx,λz H r C=>?_⟩
   .congr 1;symm;exact decide_eq_true (bp.2 (.inr br))
   .have dz:ln f.k c.sc c.cs (dw h)=dw {h with cs:=ed f.k h.cs c.cs}:=if_pos br;rw[dz]at aJ;rw[U5,M,wG Ω aJ]
   .rcases W5 H with H|rfl
    .exact X z H r C
    .exact X h (x6 ap) r C
 rintro _ P c9 ⟨E,rfl,ah,da,aH,M,bm,bn,X⟩;refine b7 Ω ?_;rw[c8,bQ,o6,bJ,cj];have cB:=wg bd;have bB:((eR f i).map (ln f.k c.sc c.cs)).take L.length++(eR f i).drop L.length=(eR f i).map (ln f.k c.sc c.cs):=by
  rw[bQ,List.drop_length,U9,j9 (by rw[u7];exact o5 _)]
 rw[bB]at M;have dc:E.length=L.length:=by
  have:=congrArg Q0 M;rw[u7,u7]at this;omega
 refine⟨λaU=>?_,λbE=>?_⟩
 .have aU:bo x.scope∉(eR f i).map (·.1):=by simpa using aU
  have dA:(eR f i).map (ln f.k c.sc c.cs)=eR f i:=by
   refine(List.map_congr_left λz H=>?_).trans (List.map_id _);exact if_neg λhe=>aU (j0.2 ⟨z,H,by rw[he,af]⟩)
  rw[dA]at M;rw[bF aX.p aX.i rfl (show P.rangeAt G 0 (dr c)from bm.range)];refine h2 (f:=dr) (k:=3) (a:=c) cV.u aX.i Ω rfl rfl λev dn Q ew aY bz=>?_;have Z:=aH.ext aY;have cC:=bn.ext aY;refine ip (f:=dr) (a:=c) cV.u aX.i rfl Z.1 (by simpa using bz.sl) cC.one Ω Ω λey dD df ba dF bG=>?_;have cD:∀r,leadsTo l r->∃e c,ad Q r e c/\e≠ag/\e≠ao:=λr C=>by
   obtain⟨rfl,c,aq⟩:=ee Z.1 C;exact⟨_,c,aq,Φ,Φ⟩
  have ez:=aY.size;have eA:=ah.size;refine bU _ _ ⟨dD,E++[c],(ah.trans aY).then bG λr C he=>by have:=Z.2.2.2 r he;omega,⟨ba,λz H=>?_,λp q y z K H dG r bH bK=>?_,λr C=>(dF r C).elim (Z.2.2.2 r) λh=>Ω⟩,?_⟩
  .rcases l9.1 H with H|H
   .exact⟨mP (Z.2.1 z H).1 bG λr C=>.inl (cD r C),(Z.2.1 z H).2⟩
   .rw[j4.1 H];exact⟨mP cC bG λr C=>.inl (cD r C),λr C=>by have:=O r C;omega⟩
  .have cE:∀{p:Nat}{y:fv},(E++[c])[p]?=σ y->E[p]?=σ y\/(p=E.length/\y=c):=λ{p y}K=>by
    rw[List.getElem?_append]at K;split at K
    .exact .inl K
    .by_cases dH:p-E.length=0
     .rw[dH]at K;cases K;exact .inr ⟨Ω,rfl⟩
     .rw[Y4 Θ]at K;cases K
   rcases cE K with cF|⟨eB,rfl⟩<;>rcases cE H with cG|⟨eq,rfl⟩
   .exact Z.2.2.1 p q y z cF cG dG r bH bK
   .have:=X y (x6 cF) r bH;have:=O r (.inl bK);omega
   .have:=X z (x6 cG) r bK;have:=O r (.inl bH);omega
   .omega
  .rw[Z2,M,cB,CP λz H he=>aU (j0.2 ⟨z,H,he⟩)];show _++[(c.sc,c.cs)]=_;rw[af,aE];rfl
 .have bE:bo x.scope∈(eR f i).map (·.1):=by simpa using bE
  refine bU _ _ ⟨g,E,ah,aH,?_⟩;rw[M,cB];unfold il;rw[if_pos (show(hZ f.sizes f.k x).1∈_ from bE)];refine List.map_congr_left λz _=>?_;unfold ln;rw[af,aE];rfl
def wH(w:x4)(B:Nat)(v:x3)(n:aK):Prop:=∃szv gz a f aT e gr L,v= .agg #[Δ n.k,szv,Δ n.zero,a,e]/\aq .i64 ag w gz szv n.sizes/\hD w f a aT/\aT.map (·.l)=n.unary/\be dr 3 aX w gr e L/\(∀h∈L,fP w n.sizes h)/\L.map dw=n.funs/\(∀r,leads szv r->B<=r)/\∀h∈L,∀r,pv h r->B<=r
def z9:List x3:=[Δ 0,.slice ν 0 0,Δ 0,.slice ν 0 0,.slice ν 0 0]
def mQ(w:x4)(C gt gs go:Nat)(szv aZ:x3)(f:ca)(a:List fv)(w':x4):Prop:=Ext w w'/\C<=w'.heap.size/\ad w' gt dI z9/\aq .i64 ag w' gs szv f.sizes/\be dr 3 aX w' go aZ a/\(∀r,leadsTo aZ r->r<C)/\∀h∈a,fP w' f.sizes h
theorem mQ.ext{U:x4}{C gt gs go:Nat}{aZ:x3}{f:ca}{e:List fv}(h:mQ w C gt gs go szv aZ f e w')(a:Ext w' U):mQ w C gt gs go szv aZ f e U:=by
 obtain⟨h1,z,j,p,q,r,s⟩:=h;have:=a.size;exact⟨h1.trans a,Ω,j.ext a,p.ext a,q.ext a,r,λx y=>(s x y).ext a⟩
def Ow(w w':x4)(C gt:Nat)(r:Nat):Prop:=w.heap.size<=r/\r≠gt/\((∃c,ad w' r dI c)\/(∃c,ad w' r au c)\/((∃c,ad w' r aX c)/\C<=r))
theorem mQ.aa{U:x4}{C gt gs go:Nat}{aZ:x3}{f:ca}{y:List fv}(h:mQ w C gt gs go szv aZ f y w')(p:ae S w' U)(q:∀r,S r->Ow w w' C gt r):mQ w C gt gs go szv aZ f y U:=by
 obtain⟨h1,J,E,z,s,A,F⟩:=h;have:=p.size;have B:∀r,S r->∃e c,ad w' r e c/\e≠ag/\e≠ao:=λr j=>by
  obtain⟨_,_,⟨c,a⟩|⟨c,a⟩|⟨⟨c,a⟩,_⟩⟩:=q r j
  .exact⟨_,c,a,Φ,Φ⟩
  .exact⟨_,c,a,Φ,Φ⟩
  .exact⟨_,c,a,Φ,Φ⟩
 refine⟨h1.then p λr j I=>by have:=(q r I).1;omega,Ω,E.aa p λI=>(q _ I).2.1 rfl,br z p λr j I=>?_,s.aa p λr j I=>?_,A,λx G=>mP (F x G) p λr j=>.inl (B r j)⟩
 .obtain⟨e,c,a,H,_⟩:=B r I;exact ce z a (λhe=>H he.symm) j rfl
 .obtain⟨_,_,⟨c,a⟩|⟨c,a⟩|⟨_,K⟩⟩:=q r I
  .exact cO s a Φ j
  .exact cO s a Φ j
  .have:=A r j;omega
def DB(w:x4)(C f:Nat)(szv:x3)(k:Int)(n:aK)(j:List fv)(w':x4):Prop:=∃a p aT e gr L,ad w' f dI [Δ k,szv,Δ n.zero,a,e]/\hD w' p a aT/\aT.map (·.l)=n.unary/\(∀r,leadsTo a r->w.heap.size<=r)/\be dr 3 aX w' gr e L/\(∀h∈L,h∈j)/\L.map dw=n.funs/\∀r,leadsTo e r->C<=r
theorem DC{N:Nat}{bZ:Nat}{f:ca}(b0:n8 w bZ f)(Q:ff N f):ai x8 GI [Γ bZ] w λv w'=>Ext w w'/\wH w' w.heap.size v (cg f):=by
 have hk:=Q.k;have dC:=Q.sizes.2.1;obtain⟨dD,dF,dG,dH,b2,b3,dK⟩:=id b0;refine ay func64 ?_;refine bw dI.i λgt J dM aR aU=>?_;have aU:ad J gt dI z9:=aU;rw[aQ dJ.p 1 (b2.ext aR) rfl,dn (cs:=#[Δ f.k,.slice ν 0 0,Δ 0,.slice ν 0 0,.slice ν 0 0]) Ψ];refine bw dI.i λA U dN b4 cL=>?_;refine bT (vs:=[Δ f.k,.slice ν 0 0,Δ 0,.slice ν 0 0,.slice ν 0 0]) dI.i rfl rfl (by intro u hu;simp at hu;rcases hu with rfl|rfl|rfl|rfl<;>rfl) cL λcM b5 dO cN=>?_;have bu:Ext w cM:=(aR.trans b4).then b5 λr q he=>by have he:r=A:=he;have:=aR.size;omega
 have dP:=aU.lt;have E:A≠gt:=Ω
 have cQ:=(aU.ext b4).aa b5 λhe=>by have he:gt=A:=he;omega
 rw[aQ dJ.p 2 (b2.ext bu) rfl,aV au.u (b3.ext bu).ls];have dQ:=aR.size;refine b1.range f.sizes.length (λi V=>Ext w V/\ad V gt dI z9/\∃szv gs B H aT,ad V A dI [Δ f.k,szv,Δ 0,B,.slice ν 0 0]/\aq .i64 ag V gs szv (f.sizes.take i)/\(∀r,leads szv r->w.heap.size<=r)/\hD V H B aT/\aT.map (·.l)=(f.sizes.take i).map (λz=>o4 z.toNat 0)/\∀r,leadsTo B r->w.heap.size<=r) Ω
  ⟨bu,cQ,_,0,_,0,[],cN,aq.nil _ _ _ _,(λr q=>by obtain⟨a,n,c,cR,dR⟩:=q;cases cR),⟨be.nil _ _ _ _ _,λx bx=>(by cases bx)⟩,rfl,λr q=>(fg q).elim⟩ ?_ ?_
 .rintro i V cS hi ⟨W,bz,szv,gs,B,H,aT,aC,aW,aY,bA,aE,a1⟩ cT;obtain⟨z,C⟩:=aD (l:=f.sizes) hi;have dS:=Q.sizes.2.2 z (x6 C);have dT:aT.length=i:=by have:=congrArg Q0 aE;simp only[u7,n9]at this;omega
  refine bD Ω ?_;rw[bc au.u ao.i Ψ (b3.ext W).ls C,aG dI.p 1 aC rfl];refine eM (k:=.i64) an.u ag.i rfl λa5 dU b6 dV ak cU=>?_;have aH:=aW.ext ak;refine h5 an.u ag.i rfl aH cU.ls Θ Θ λbB b8 dW a2 cW cb=>?_;have bC:=aC.ext ak;have cc:=bz.ext ak;have cd:=bC.aa cb λhe=>ce aH bC Φ he rfl;rw[aS dI.p rfl];refine bq (g:=A) (o:=1) an.i a2.ls.cells.1 a2.ls.cells.2 cd Ξ λa6 ch dX a7=>?_;have a7:ad a6 A dI [Δ f.k,bB,Δ 0,B,.slice ν 0 0]:=a7;have bE:ae (λr=>leads szv r\/r=A) b6 a6:=(cb.mono λr _ h=>.inl h).trans (ch.mono λr _ h=>.inr h);have cX:aq .i64 ag a6 b8 bB (f.sizes.take (i+1)):=by
   rw[r8,C];exact br a2 ch λr q he=>by
    have he:r=A:=he;subst he;exact ce a2 cd Φ q rfl
  have al:∀r,(leads szv r\/r=A)->∃e c,ad b6 r e c/\e≠ao/\e≠au:=λr q=>by
   rcases q with q|rfl
   .obtain⟨rfl,_⟩:=bR aH q;obtain⟨_,⟨cY,_⟩|⟨cap,full,_,s,_⟩⟩:=aH
    .obtain⟨a,n,c,e,_⟩:=q;rw[cY]at e;cases e
    .exact⟨_,_,s,Φ,Φ⟩
   .exact⟨_,_,bC,Φ,Φ⟩
  have cZ:=(bA.ext ak).aa bE al;have z4:=W.size;have z5:=ak.size;have ci:Ext w a6:=(W.trans ak).then bE λr q he=>by
   rcases he with he|he
   .have:=aY r he;omega
   .omega
  have c0:=cc.aa bE λI=>by
   rcases I with I|I
   .exact ce aH cc Φ I rfl
   .omega
  intro dY cj _ _;have c1:=a7.ext cj;rw[aG dI.p 3 c1 rfl];obtain⟨X,rfl⟩:∃n:Nat,z=n:=⟨z.toNat,Ω⟩;refine jG (k:=.i64) au.u ao.i Ω Ω λa8 c2 dZ bG c3=>?_;refine⟨.inl bG,?_⟩;have c4:aq .i64 ao c2 a8 (.slice (σ ⟨a8,0,ν⟩) X X) (o4 X 0):=aq.of (bW.full (k:=1) (n:=X) c3 Ξ (by simp[maxLen];omega));let a:lh:=⟨.slice (σ ⟨a8,0,ν⟩) X X,o4 X 0⟩;refine h2 (f:=nV) (a:=a) cP.u au.i Ω rfl rfl λea eb bH ec bJ c5=>?_;refine⟨.inl (bG.trans bJ),?_⟩;have am:=(cj.trans bG).trans bJ;have aI:=cZ.ext am;refine ip (f:=nV) (a:=a) cP.u au.i rfl aI.1 (by simpa using c5.sl) (λu hu=>by rw[j4.1 (show u∈[a.v]from hu)];rfl) Ω Ω λbK bL ed K bM ck=>?_;have av:∀{r:Nat},leadsTo B r->∃c,ad bH r au c:=λq=>by
   obtain⟨rfl,c,s⟩:=ee aI.1 q;exact⟨c,s⟩
  have bN:=a7.ext am;have cl:=bN.aa ck λhe=>cO aI.1 bN Φ he;rw[aS dI.p rfl];refine bq cP.i (eS K.sl).1 (eS K.sl).2 cl Ξ λc6 cm ef c7=>?_;rw[aM];have R:ae (λr=>leadsTo B r\/r=A) bH c6:=(ck.mono λr _ h=>.inl h).trans (cm.mono λr _ h=>.inr h);have bO:∀r,(leadsTo B r\/r=A)->∃e c,ad bH r e c/\e≠ao/\e≠ag:=λr q=>by
   rcases q with q|rfl
   .obtain⟨c,s⟩:=av q;exact⟨_,c,s,Φ,Φ⟩
   .exact⟨_,_,bN,Φ,Φ⟩
  have cn:=cX.ext am;have eg:=ci.size;have eh:=am.size;have cp:=c0.ext am;refine cT _ ⟨(ci.trans am).then R (λr q he=>?_),cp.aa R (λI=>?_),bB,b8,bK,bL,aT++[a],c7,br cn R (λr q I=>?_),λr q=>?_,⟨K.aa cm λr q he=>?_,λy M=>?_⟩,?_,λr q=>?_⟩
  .rcases he with he|rfl
   .have:=a1 r he;omega
   .omega
  .rcases I with I|I
   .exact cO aI.1 cp Φ I
   .omega
  .obtain⟨e,c,s,_,E⟩:=bO r I;exact ce cn s (λhe=>E he.symm) q rfl
  .rcases cW r q with h|h
   .exact aY r h
   .omega
  .have he:r=A:=he;subst he;exact cO K cl Φ q
  .rcases l9.1 M with M|M
   .exact aI.qM R (λr q=>by obtain⟨e,c,s,E,_⟩:=bO r q;exact⟨e,c,s,E⟩) y M
   .rw[j4.1 M];have cq:=c4.ext bJ;exact⟨a8,br cq R λr q I=>by
     obtain⟨e,c,s,E,_⟩:=bO r I;exact ce cq s (λhe=>E he.symm) q rfl⟩
  .rw[Z2,aE,r8,C,l7,Z2];rfl
  .rcases bM r q with h|h
   .exact a1 r h
   .omega
 rintro V cS ⟨W,bz,szv,gs,B,H,aT,aC,aW,aY,bA,aE,a1⟩;refine b7 Ω ?_;rw[o6]at aW aE;refine(Ov (b0.ext W) Q).mono ?_;rintro aZ ba _ ⟨ax,go,O,K,cr,ct,ei⟩;have cu:O.length=(fI f).length:=by rw[<-ct,u7]
 have ej:O.length<=256:=by
  have h1:=(qC Q).2.length_eq;have bd:=(lb Q).2.2;have ek:=List.length_filter_le fH (fq f);have em:=Q.k4;omega
 have z4:=W.size;have en:=ax.size;have eo:=aC.lt;rw[e9 cV.u K];refine b1.range O.length (λi Y=>mQ w ba.heap.size gt gs go szv aZ f O Y/\DB w ba.heap.size A szv f.k (dL f i) O Y) K.le
  ⟨⟨W.trans ax,o5 _,bz.ext ax,aW.ext ax,K,λr q=>by have:=K.leads q;omega,λh ap=>(cr h ap).1⟩,B,H,aT,_,0,[],aC.ext ax,bA.ext ax,aE,a1,be.nil _ _ _ _ _,λx bx=>(by cases bx),rfl,λr q=>(fg q).elim⟩ ?_ ?_
 rotate_left
 .rintro Y c8 ⟨az,B,H,aT,Z,gr,L,bf,bg,ab,aJ,aK,aA,ac,aL⟩;obtain⟨c9,ep,cw,bP,er,es,da⟩:=id az;have bh:=pq f O.length;rw[cu,ta]at bh;rw[cu,ta]at bf ab ac;refine b7 Ω ?_;rw[bF dI.p dI.i rfl (show Y.rangeAt A 0 [Δ f.k,szv,Δ (cg f).zero,B,Z]from bf.range)];refine bT (vs:=[Δ f.k,szv,Δ (cg f).zero,B,Z]) dI.i rfl rfl (λu hu=>?_) cw λet aO eu db=>?_
  .simp at hu;rcases hu with rfl|rfl|rfl|rfl|rfl
   .rfl
   .exact bP.ls.cells.2
   .rfl
   .exact (eS bg.1.sl).2
   .exact (eS aK.sl).2
  rw[e6 dI.p dI.i rfl db.range];have al:∀r,r=gt->∃e c,ad Y r e c/\e≠ao/\e≠au/\e≠ag/\e≠aX:=λr q=>by
   subst q;exact⟨_,_,cw,Φ,Φ,Φ,Φ⟩
  refine⟨c9.then aO λr q he=>by have he:r=gt:=he;omega,szv,gs,B,H,aT,Z,gr,L,?_,?_,bg.aa aO (λr q=>?_),ab,aK.aa aO (λr q I=>?_),λh ap=>?_,ac,aY,λh ap r q=>by have:=(cr h (aA h ap)).2 r q;omega⟩
  .rw[bh.1]
  .rw[bh.2.1];refine br bP aO λr q I=>?_;obtain⟨e,c,s,_,_,E,_⟩:=al r I;exact ce bP s (λhe=>E he.symm) q rfl
  .obtain⟨e,c,s,h1,bd,_⟩:=al r q;exact⟨e,c,s,h1,bd⟩
  .obtain⟨e,c,s,_,_,_,E⟩:=al r I;exact cO aK s (λhe=>E he.symm) q
  .rw[bh.2.1];exact mP (da h (aA h ap)) aO λr q=>by
    obtain⟨e,c,s,h1,_,bd,_⟩:=al r q;exact .inl ⟨e,c,s,bd,h1⟩
 rintro i Y c8 hi ⟨az,B,H,aT,Z,gr,L,bf,bg,ab,aJ,aK,aA,ac,aL⟩ dc;obtain⟨y,M⟩:=aD (l:=O) hi;have bi:=x6 M;have cz:(fI f)[i]?=σ (dw y):=by rw[<-ct,v8,M];rfl
 have bQ:ft f.sizes f.k (dw y):=sP Q _ (x6 cz);have bS:=wi cz;obtain⟨ev,ew,ey,ez⟩:=pq f i;refine bD Ω ?_;refine dl (λbU=>mQ w ba.heap.size gt gs go szv aZ f O bU/\DB w ba.heap.size A szv f.k (dL f (i+1)) O bU) ?_ ?_
 .rintro bU h;rw[aM];exact dc _ h
 intro aw bV;rw[dE rfl cV.u aX.i az.2.2.2.2.1 hi,bF aX.p aX.i rfl (az.2.2.2.2.1.range M)];refine bw aX.i λdd eA eB de df=>?_;refine bT (vs:=dr y) aX.i rfl rfl (az.2.2.2.2.2.2 y bi).one df λcA dg eC bj=>?_;have bk:Ext Y cA:=de.put dg Ω;have bl:=az.ext bk;have af:=bf.ext bk;have bX:=bg.ext bk;have bm:=aK.ext bk;obtain⟨eD,eE,cB,eF,eH,eI,cC⟩:=id bl;obtain⟨⟨eJ,cD⟩,_,dh,cE⟩:=cC y bi;rw[aG aX.p 0 bj rfl,aV an.u cD.ls];have eK:aT.length=f.sizes.length:=by have:=congrArg Q0 ab;rw[u7]at this;omega
 have eL:L.length<=256:=by have:=congrArg Q0 ac;rw[u7]at this;omega
 rw[bb,aj];refine⟨λeN=>?_,λeO=>?_⟩
 .
  have ah:y.sc=[]:=b9 Ω;have G:dL f (i+1)={dL f i with zero:=y.cs.getD 0 0}:=by rw[bS];unfold iQ;simp only[dw,ah]
  have eP:y.cs.length=1:=by have:=bQ.len;simpa[dw,ah,bI,aN]using this
  have di:y.cs[0]?=σ (y.cs.getD 0 0):=by rw[u4,x7 Ω];rfl
  rw[aG aX.p 2 bj rfl,fF (y:=0) (i:=0) rfl au.u ao.i Ψ cE.ls di,aS dI.p rfl];refine bq ao.i rfl rfl af Ξ λdj P dk dm=>?_;refine bV _ ⟨bl.aa P λr q=>?_,B,H,aT,Z,gr,L,?_,bX.aa P (λr q=>?_),by rw[G];exact ab,aJ,bm.aa P (λr q I=>?_),aA,by rw[G];exact ac,aL⟩
  .have q:r=A:=q;subst q;exact⟨Ω,E,.inl ⟨_,af⟩⟩
  .rw[G];exact dm
  .have q:r=A:=q;subst q;exact⟨_,_,af,Φ,Φ⟩
  .have I:r=A:=I;subst I;exact cO bm af Φ q
 rw[bb,aj];refine⟨λh1=>?_,λeQ=>?_⟩
 .
  obtain⟨v,ah⟩:∃v,y.sc=[v]:=V0.1 Ω;have eR:=bQ.scope.1 v (by show v∈y.sc;rw[ah];exact .head _);have eU:=bQ.vars v (by show v∈y.sc;rw[ah];exact .head _);have G:dL f (i+1)={dL f i with unary:=(dL f i).unary.set v.toNat y.cs}:=by rw[bS];unfold iQ;simp only[dw,ah]
  intro dp S _ _;have bY:=af.ext S;have cF:=bj.ext S;have aP:=bX.ext S;have dq:=bl.ext S;have cG:=bm.ext S;rw[aG dI.p 3 bY rfl,aG aX.p 0 cF rfl];refine sf (y:=0) (i:=0) rfl an.u ag.i (cD.ls.ext S) (show y.sc[0]?=σ v by rw[ah];rfl) λb o ds=>?_;rw[aF Ψ ds,aG aX.p 2 cF rfl];obtain⟨u,hu⟩:=aD (l:=aT) (i:=v.toNat) Ω;rw[dE (i:=v.toNat) Ω cP.u au.i aP.1 Ω];let a:lh:=⟨y.aZ,y.cs⟩;have bn:=cE.ext S;refine ph (f:=nV) (j:=0) (a:=u) (a':=a) au.i bn.ls.cells.1 bn.ls.cells.2 aP.1 hu rfl Ω λdj P dk dt=>?_;have av:∀{r:Nat},leadsTo B r->∃c,ad dp r au c:=λq=>by
   obtain⟨rfl,c,s⟩:=ee aP.1 q;exact⟨c,s⟩
  refine bV _ ⟨dq.aa P λr q=>?_,B,H,aT.set v.toNat a,Z,gr,L,?_,⟨dt,λz C=>?_⟩,?_,aJ,cG.aa P (λr q I=>?_),aA,by rw[G];exact ac,aL⟩
  .obtain⟨c,s⟩:=av q;exact⟨aJ r q,λhe=>(by subst he;exact absurd (fh s (cB.ext S)) Φ),.inr (.inl ⟨c,s⟩)⟩
  .rw[G];exact bY.aa P λhe=>cO aP.1 bY Φ he
  .rcases W5 C with C|rfl
   .exact aP.qM P (λr q=>by obtain⟨c,s⟩:=av q;exact⟨_,c,s,Φ⟩) z C
   .exact⟨dh,br bn P λr q I=>by
     obtain⟨c,s⟩:=av I;exact ce bn s Φ q rfl⟩
  .rw[G,U5,ab]
  .obtain⟨c,s⟩:=av I;exact cO cG s Φ q
 .
  have G:dL f (i+1)={dL f i with funs:=(dL f i).funs++[dw y]}:=by
   rw[bS];unfold iQ;have cH:2<=(dw y).1.length:=by show 2<=y.sc.length;omega
   generalize dw y=g at cH ⊢;obtain⟨sc,cs⟩:=g
   match sc,cH with
   |_::_::_,_=>rfl
  rw[aG dI.p 4 af rfl,bF aX.p aX.i rfl (show cA.rangeAt dd 0 (dr y)from bj.range)];refine h2 (f:=dr) (k:=3) (a:=y) cV.u aX.i Ω rfl rfl λeV eW du eX aB dv=>?_;have bo:=bm.ext aB;have dx:=bX.ext aB;have bp:=af.ext aB;have dy:=bl.ext aB;refine ip (f:=dr) (a:=y) cV.u aX.i rfl bo (by simpa using dv.sl) (cC y bi).one Ω Ω λbK bL eY bt bM cI=>?_;have cJ:=bp.aa cI λhe=>cO bo bp Φ he;rw[aS dI.p rfl];refine bq cV.i (eS bt.sl).1 (eS bt.sl).2 cJ Ξ λdz cK eZ dA=>?_;have R:ae (λr=>leadsTo Z r\/r=A) du dz:=(cI.mono λr _ h=>.inl h).trans (cK.mono λr _ h=>.inr h);have e0:=aB.size;refine bV _ ⟨dy.aa R λr q=>?_,B,H,aT,bK,bL,L++[y],?_,dx.aa R (λr q=>?_),by rw[G];exact ab,aJ,bt.aa cK (λr q I=>?_),λz C=>?_,?_,λr q=>?_⟩
  .rcases q with q|rfl
   .obtain⟨rfl,c,s⟩:=ee bo q;have:=aL _ q;refine⟨Ω,λhe=>?_,.inr (.inr ⟨⟨c,s⟩,this⟩)⟩;subst he;exact absurd (fh s (cB.ext aB)) Φ
   .exact⟨Ω,E,.inl ⟨_,bp⟩⟩
  .rw[G];exact dA
  .rcases q with q|rfl
   .obtain⟨rfl,c,s⟩:=ee bo q;exact⟨_,c,s,Φ,Φ⟩
   .exact⟨_,_,bp,Φ,Φ⟩
  .have I:r=A:=I;subst I;exact cO bt cJ Φ q
  .rcases l9.1 C with C|C
   .exact aA z C
   .rw[j4.1 C];exact bi
  .rw[G,Z2,ac];rfl
  .rcases bM r q with h|h
   .exact aL r h
   .omega
def qS(w:x4)(S:Nat->Prop)(e:r9):Prop:=∀r,S r->∃c,ad w r e c
theorem wI{a:r9}{k:o9}{g:Nat}{v:x3}(h:aq k a w g v l)(f:ae S w w')(j:qS w S e)(p:a≠e):aq k a w' g v l:=br h f λr q I=>by
 obtain⟨c,s⟩:=j r I;exact ce h s p q rfl
theorem DD{α:Type}{f:α->List x3}{k:Nat}{a:r9}{g:Nat}{v:x3}{L:List α}(h:be f k a w g v L)(j:ae S w w')(p:qS w S e)(q:a≠e):be f k a w' g v L:=h.aa j λr s I=>by
 obtain⟨c,x⟩:=p r I;exact cO h x q s
theorem wJ{a:r9}{r:Nat}{c:List x3}(h:ad w r a c)(f:ae S w w')(j:qS w S e)(p:a≠e):ad w' r a c:=h.aa f λI=>by
 obtain⟨c,q⟩:=j r I;exact p (fh h q)
theorem DE{g:Nat}{c:List x3}(h:ad w g e c):qS w (λr=>r=g) e:=λr a=>by
 have a:r=g:=a;subst a;exact⟨c,h⟩
theorem Ox{k:o9}{g:Nat}{v:x3}(h:aq k e w g v l):qS w (λr=>leads v r) e:=λr f=>by
 have f:leads v r:=f;obtain⟨rfl,_⟩:=bR h f;obtain⟨_,⟨p,_⟩|⟨cap,full,_,q,_⟩⟩:=h
 .obtain⟨a,n,c,j,_⟩:=f;rw[p]at j;cases j
 .exact⟨_,q⟩
def ax(x:bh):Λ:=((W3 x.un.length).map λv:Nat=>(v:Int)).filter λv=>!dropped x.mask v
theorem wK{P:W9}{k:o9}{t:r9}{b:Nat}(a:P.underlying t=σ (.slice e))(hi:aP P e 1 b z)(f:∀v g w',g=w.heap.size->Ext w w'->aq k e w' g v []->K v w'):aC P (Y8 t 0 #[]) w K:=
 jF a hi Ω (cs:=#[]) (by simp[Instr.fill]) λg w' h j p=>f _ g w' h j (aq.of (n:=0) (bW.full (by simpa using p) Ξ (by simp[maxLen])))
theorem Oy{v:x3}{n:aK}(h:wH w B v n){g:Nat}(j:ad w' g dI v.cells.toList):∃szv gz a f aT e gr L,ad w' g dI [Δ n.k,szv,Δ n.zero,a,e]/\aq .i64 ag w gz szv n.sizes/\hD w f a aT/\aT.map (·.l)=n.unary/\be dr 3 aX w gr e L/\(∀h∈L,fP w n.sizes h)/\L.map dw=n.funs/\(∀r,leads szv r->B<=r)/\∀h∈L,∀r,pv h r->B<=r:=by
 obtain⟨szv,gz,a,f,aT,e,gr,L,rfl,p,q,x,s,y,z⟩:=h;obtain⟨_,_,_,A⟩:=cY p.ls;obtain⟨_,_,_,_,_,C,_⟩:=q.1.sl;obtain⟨_,_,_,_,_,E,_⟩:=s.sl;refine⟨szv,gz,a,f,aT,e,gr,L,?_,p,q,x,s,y,z⟩;rw[A,C,E]at j ⊢;exact j
def z12:List x3:=[Δ 0,.slice ν 0 0,Δ 0,.slice ν 0 0,.slice ν 0 0,.slice ν 0 0,.slice ν 0 0,.slice ν 0 0]
theorem Oz(u:Λ):ax (newVar u)=(W3 u.length).map λv:Nat=>(v:Int):=by
 unfold ax newVar dropped;rw[List.filter_eq_self.2];intro a _;simp
section
variable{P:W9}{w:x4}{t:r9}{cx cy:Bool}{a b:Nat}{K:x3->Prop}
theorem OA(f:a<2 ^ 62)(h:b<2 ^ 62):V P (aJ .or t cx cy (Δ a) (Δ b)) w K=K (Δ ((a ||| b:Nat):Int)):=V.of λw' _=>by
 have e:(T0 64 (a:Int) ||| T0 64 (b:Int)).toNat=a ||| b:=by
  rw[mD,mD,BitVec.toNat_or,BitVec.toNat_ofNat,BitVec.toNat_ofNat,Nat.mod_eq_of_lt Ω,Nat.mod_eq_of_lt Ω]
 have p:a ||| b<2 ^ 62:=Nat.or_lt_two_pow f h;have hw:X7.wrap ((a ||| b:Nat):Int)=((a ||| b:Nat):Int):=wrap_i64 Ω Ω;have j:(T0 X7.bits (a:Int) ||| T0 X7.bits (b:Int)).toNat=a ||| b:=e;simp only[aJ,eqGuard,binOp,Op.intBits,j,hw];rfl
theorem DF(j:a<2 ^ 62)(f:b<2 ^ 62):V P (aJ .and t cx cy (Δ a) (Δ b)) w K=K (Δ ((a &&& b:Nat):Int)):=V.of λw' _=>by
 have e:(T0 64 (a:Int) &&& T0 64 (b:Int)).toNat=a &&& b:=by
  rw[mD,mD,BitVec.toNat_and,BitVec.toNat_ofNat,BitVec.toNat_ofNat,Nat.mod_eq_of_lt Ω,Nat.mod_eq_of_lt Ω]
 have p:a &&& b<2 ^ 62:=Nat.and_lt_two_pow _ f;have hw:X7.wrap ((a &&& b:Nat):Int)=((a &&& b:Nat):Int):=wrap_i64 Ω Ω;have h:(T0 X7.bits (a:Int) &&& T0 X7.bits (b:Int)).toNat=a &&& b:=e;simp only[aJ,eqGuard,binOp,Op.intBits,h,hw];rfl
theorem OB{k:o9}{n:Nat}(a:n<62):V P (aJ .shl t cx cy (Δ 1) (.int k (n:Int))) w K=K (Δ ((2 ^ n:Nat):Int)):=by
 rw[zw Ω];have e:min ((n:Int).toNat) X7.bits=n:=Nat.min_eq_left (by show n<=64;omega);have f:2 ^ n<2 ^ 62:=Nat.pow_lt_pow_right Ω a;rw[e,Int.one_mul,show((2:Int) ^ n)=((2 ^ n:Nat):Int) by simp];generalize 2 ^ n=q at f ⊢;rw[wrap_i64 Ω Ω]
end
theorem DG(a n:Nat):(a / 2 ^ n &&& 1=1)↔a.testBit n=true:=by
 rw[Nat.and_one_is_mod,Nat.testBit_eq_decide_div_mod_eq,decide_eq_true_eq]
theorem OC{b n:Nat}(q:k3 b n):ai x8 G7 [iK b n,Δ v] w λr w'=>r= .bool (decide (0<=v/\v<n)&&b.testBit v.toNat)/\Ext w w':=by
 refine ay func97 ?_;refine bk λg J A e f=>?_;refine aW (λr U=>r= .bool (decide (0<=v/\v<n)&&b.testBit v.toNat)/\Ext w U) (λ_ _ h=>h) λaw j=>?_;rw[bF b4.p b4.i rfl f.range];refine AN.mono ?_;rintro _ B _ ⟨rfl,a⟩;rw[aj];refine⟨λh=>?_,λh=>j _ _ ⟨by rw[decide_eq_false h];rfl,e.trans a⟩⟩;obtain⟨x,C⟩:=q;obtain⟨s,rfl⟩:∃s:Nat,v=s:=⟨v.toNat,Ω⟩;have y:=f.ext a;have E:(2:Nat) ^ n<=2 ^ 32:=T6 Ω x;have z:b / 2 ^ s<2 ^ 64:=Nat.lt_of_le_of_lt (Nat.div_le_self _ _) Ω;rw[aG b4.p 0 y rfl,k2 Ω,show(1:Int)=((1:Nat):Int)from rfl,u64_and z Ω,bb];refine j _ _ ⟨?_,e.trans a⟩;congr 1;rw[decide_eq_true h,Bool.true_and,V7,decide_eq_true_eq,u9,<-DG];omega
theorem OD(m v:Nat):dropped (m:Int) (v:Int)=m.testBit v:=by unfold dropped;rw[u9,u9]
def bH(w:x4)(ab ac:Nat)(A R:af)(n:aK)(s:am)(t:az):Prop:=StateM w ab ac A R n s t/\t.bY=s.cells/\mL t/\bg n.k n.sizes s/\jR n
theorem bH.ext{A R:af}{n:aK}{s:am}{t:az}(h:bH w ab ac A R n s t)(a:Ext w w'):bH w' ab ac A R n s t:=⟨h.1.ext a,h.2⟩
theorem StateM.parts{A R:af}{n:aK}{s:am}{t:az}(h:StateM w ab ac A R n s t):∃a e f j a1 p L q,ad w ab cG [Γ a,Γ ac,e,f,j]/\gd w a n/\dv w ac q t/\aq .i64 ag w a1 e (iv s)/\be n1 3 fT w p f L/\li R w L s:=by
 obtain⟨a,e,f,j,_,a1,p,ge,L,E,q,w0,r,⟨x,y,G⟩,⟨z,H,I,J⟩,B,⟨C,F⟩,K,M⟩:=h;exact⟨a,e,f,j,a1,p,L,q,r,x.ext y,z,B,C,F⟩
theorem tk{s:am}{i:Nat}(h:i<s.vars.length):(iv s)[i]?=σ (fL s i:Int):=by
 unfold iv;rw[v8,List.getElem?_range h];rfl
theorem tm{s:am}{t:az}(a:t.bY=s.cells)(I:mL t):s.cells.length<=100000000:=by
 rw[<-a];unfold az.bY;rw[u7];exact I.1
theorem tn{s:am}{i:Nat}{x:bh}(h:s.vars[i]?=σ x):fL s i+x.un.length+2<=s.cells.length:=by
 have h1:=qO h (j:=x.un.length+1) Ω;have a:(hE x)[x.un.length+1]? ≠ν:=by
  rw[Ne,List.getElem?_eq_none_iff];show¬(x.un.length+1+1<=x.un.length+1);omega
 rw[<-h1]at a;have:=(x5.1 (Option.ne_none_iff_exists'.1 a).choose_spec).1;omega
theorem DH{s:am}{f:cK}(h:s.funs[j]?=σ f):fi s j+f.cs.length+1<=s.cells.length:=by
 have h1:=wm h (j:=f.cs.length) Ω;have a:(h4 f)[f.cs.length]? ≠ν:=by
  rw[Ne,List.getElem?_eq_none_iff];show¬(f.cs.length+1<=f.cs.length);omega
 rw[<-h1]at a;have:=(x5.1 (Option.ne_none_iff_exists'.1 a).choose_spec).1;omega
section
variable{w:x4}{ab ac:Nat}{A R:af}{n:aK}{s:am}{t:az}
theorem DI(h:bH w ab ac A R n s t):ai x8 G3 [Γ ab] w λv w'=>(∃a,v=Γ a/\gd w' a n)/\Ext w w':=by
 obtain⟨a,j,q,r,a1,x,L,y,e,f,z,B,C,E⟩:=h.1.parts;refine ay func92 ?_;rw[da eh.u];simp only[Z6,aY];rw[aQ cG.p 0 e rfl];exact⟨⟨a,rfl,f⟩,Ext.refl _⟩
theorem DJ(h:bH w ab ac A R n s t):ai x8 Gw [Γ ab] w λv w'=>v=Δ (n.sizes.length:Int)/\Ext w w':=by
 refine ay func47 ?_;refine(DI h).mono ?_;rintro _ J _ ⟨⟨j,rfl,a⟩,e⟩;refine(wo a).mono ?_;rintro _ U _ ⟨rfl,f⟩;exact⟨rfl,e.trans f⟩
theorem mR(h:bH w ab ac A R n s t):ai x8 HB [Γ ab] w λv w'=>v=Δ n.k/\Ext w w':=by
 refine ay func149 ?_;refine(DI h).mono ?_;rintro _ J _ ⟨⟨j,rfl,a⟩,e⟩;refine(NH a).mono ?_;rintro _ U _ ⟨rfl,f⟩;exact⟨rfl,e.trans f⟩
theorem wL{i:Int}(h:bH w ab ac A R n s t):ai x8 GJ [Γ ab,Δ i] w λv w'=>v= .bool (decide (0<=i/\i<n.sizes.length))/\Ext w w':=by
 refine ay func65 ?_;refine aW (λv J=>v= .bool (decide (0<=i/\i<n.sizes.length))/\Ext w J) (λ_ _ h=>h) λaw a=>?_;rw[cQ,aj];refine⟨λe=>?_,λe=>a _ _ ⟨by rw[decide_eq_false Ω],Ext.refl _⟩⟩;refine(DJ h).mono ?_;rintro _ J _ ⟨rfl,f⟩;rw[aR];refine a _ _ ⟨?_,f⟩;congr 1;exact decide_eq_decide.2 ⟨λh=>⟨e,h⟩,λh=>h.2⟩
theorem oa(h:bH w ab ac A R n s t):ai x8 Gg [Γ ab] w λv w'=>v=Δ s.zero/\Ext w w':=by
 obtain⟨j,q,r,x,a1,y,L,z,a,B,e,C,E,G⟩:=h.1.parts;refine ay func14 ?_;rw[da eh.u];simp only[Z6,aY];rw[aQ cG.p 1 a rfl];refine(n0 (i:=0) e rfl (show t.bY[0]?=σ s.zero by rw[h.2.1];exact NC s)).mono ?_;rintro _ J _ ⟨rfl,f⟩;exact⟨rfl,f⟩
theorem tp(h:bH w ab ac A R n s t):ai x8 Gi [Γ ab] w λv w'=>v=Δ (s.funs.length:Int)/\Ext w w':=by
 obtain⟨j,q,r,x,a1,y,L,z,a,B,C,E,e,f⟩:=h.1.parts;refine ay func16 ?_;rw[da eh.u];simp only[Z6,aY];rw[aQ cG.p 3 a rfl,e9 fS.u e];exact⟨by rw[f.1],Ext.refl _⟩
def dx(s:am)(i:Nat):Bool:=match s.vars[i]? with
 |some x=>decide (x.gone≠0)
 |none=>false
theorem tq{i:Int}(h:bH w ab ac A R n s t):ai x8 Gx [Γ ab,Δ i] w λv w'=>v= .bool (decide (0<=i)&&dx s i.toNat)/\Ext w w':=by
 refine ay func49 ?_;refine aW (λv J=>v= .bool (decide (0<=i)&&dx s i.toNat)/\Ext w J) (λ_ _ h=>h) λaw e=>?_;intro U f _ _;refine(wL (h.ext f)).mono ?_;rintro _ I _ ⟨rfl,r⟩;have a:=f.trans r;have K:=h.2.2.2.1.vars;rw[aj];refine⟨λz=>?_,λM=>e _ _ ⟨?_,a⟩⟩
 .obtain⟨N,O,P,Q,a1,S,L,V,j,W,B,C,X,Y⟩:=(h.ext a).1.parts;obtain⟨x,q⟩:=aD (l:=s.vars) (i:=i.toNat) Ω;rw[aQ cG.p 1 j rfl,aQ cG.p 2 j rfl,fF (y:=i) (i:=i.toNat) Ω an.u ag.i Ψ C.ls (tk Ω)];have E:t.bY[fL s i.toNat+0]?=σ x.gone:=by rw[h.2.1,qO q Ω];rfl
  refine(n0 (i:=fL s i.toNat) B rfl E).mono ?_;rintro _ Z _ ⟨rfl,G⟩;rw[bK];refine e _ _ ⟨?_,a.trans G⟩;rw[decide_eq_true z.1,Bool.true_and];unfold dx;rw[q]
 .by_cases H:0<=i
  .unfold dx;rw[Y4 Ω,Bool.and_false]
  .rw[decide_eq_false H];rfl
def eU(n:aK)(i v:Int):Prop:=0<=i/\i<n.sizes.length/\0<=v/\v<n.sizes.getD i.toNat 0
instance (n:aK) (i v:Int):Decidable (eU n i v):=inferInstanceAs (Decidable (_/\_))
theorem eU.var{i:Int}(h:eU n i v)(a:bg n.k n.sizes s):∃x,s.vars[i.toNat]?=σ x/\v.toNat<x.un.length/\x.un.length<=32/\n.sizes.getD i.toNat 0=x.un.length:=by
 obtain⟨h1,p,q,j⟩:=h;have r:=a.vars;obtain⟨x,f⟩:=aD (l:=s.vars) (i:=i.toNat) Ω;obtain⟨z,e⟩:=aD (l:=n.sizes) (i:=i.toNat) Ω;have w:=a.ef.2.2 z (x6 e);have y:=(a.var i.toNat x z f e).1;rw[u4,e,V2]at j ⊢;exact⟨x,f,Ω,Ω,Ω⟩
theorem wM{i:Int}(h:bH w ab ac A R n s t):ai x8 G0 [Γ ab,Δ i,Δ v] w λr w'=>r=Δ (if eU n i v then((fL s i.toNat+2+v.toNat:Nat):Int)else-1)/\Ext w w':=by
 have aa:=h.2.2.2.1.vars;refine ay func84 ?_;refine aW (λr J=>r= .bool (decide (¬eU n i v))/\Ext w J) ?_ ?_
 .rintro _ J ⟨rfl,q⟩;rw[aj];refine⟨λG=>⟨by rw[if_neg G],q⟩,λf=>?_⟩;have f:=X2.1 f;obtain⟨x,H,ad,ae,_⟩:=f.var h.2.2.2.1;obtain⟨I,K,M,N,a1,O,L,P,a,B,Q,C,S,V⟩:=(h.ext q).1.parts;have E:=tn H;have af:=tm h.2.1 h.2.2.1;obtain⟨h1,ah,ak,al⟩:=id f;rw[aQ cG.p 2 a rfl,fF (y:=i) (i:=i.toNat) Ω an.u ag.i Ψ C.ls (tk Ω),aM,wrap_i64 Ω Ω,aM,wrap_i64 Ω Ω,if_pos f];refine⟨?_,q⟩;congr 1;omega
 .intro aw z;refine(wL h).mono ?_;rintro _ U _ ⟨rfl,j⟩;rw[bJ,cj];refine⟨λa=>?_,λa=>?_⟩
  .have a:¬(0<=i/\i<n.sizes.length):=λW=>by rw[decide_eq_true W]at a;cases a
   exact z _ _ ⟨by rw[decide_eq_true];exact λe=>a ⟨e.1,e.2.1⟩,j⟩
  have a:0<=i/\i<n.sizes.length:=by simpa using a
  rw[aR,aj];refine⟨λX=>z _ _ ⟨by rw[decide_eq_true];exact λe=>by have:=e.2.2.1;omega,j⟩,λX=>?_⟩;obtain⟨I,K,M,N,a1,O,L,P,Y,B,Q,C,S,V⟩:=(h.ext j).1.parts;rw[aQ cG.p 0 Y rfl];refine(C3 B h.2.2.2.2).mono ?_;rintro _ am _ ⟨Z,rfl⟩;rw[if_pos a.1,cQ];refine z _ _ ⟨?_,j.trans Z⟩;congr 1;refine decide_eq_decide.2 ⟨λh e=>?_,λh=>?_⟩
  .have:=e.2.2.2;omega
  .refine Int.not_lt.1 λE=>h ⟨a.1,a.2,Ω,E⟩
def gf(s:am)(i v:Nat):Int:=match s.vars[i]? with
 |some x=>x.un.getD v 0
 |none=>0
theorem ob{i:Int}(h:bH w ab ac A R n s t):ai x8 uK [Γ ab,Δ i,Δ v] w λr w'=>r=(if eU n i v then .tuple #[Δ (gf s i.toNat v.toNat),Δ 0]else .tuple #[Δ 0,Δ 1])/\Ext w w':=by
 refine ay func37 ?_;rw[da eh.u];simp only[Z6,aY];refine(wM h).mono ?_;rintro _ J _ ⟨rfl,e⟩;by_cases a:eU n i v
 .rw[if_pos a,if_pos a];refine b7 Ω ?_;obtain⟨x,f,j,C,_⟩:=a.var h.2.2.2.1;obtain⟨E,G,H,I,a1,K,L,M,q,N,y,O,P,Q⟩:=(h.ext e).1.parts;rw[aQ cG.p 1 q rfl];have z:t.bY[fL s i.toNat+2+v.toNat]?=σ (x.un.getD v.toNat 0):=by
   rw[h.2.1,R3,qO f Ω,show 2+v.toNat=v.toNat+1+1 by omega];show x.un[v.toNat]?=_;rw[u4,x7 j];rfl
  refine(n0 (i:=fL s i.toNat+2+v.toNat) y rfl z).mono ?_;rintro _ U _ ⟨rfl,B⟩;refine⟨?_,e.trans B⟩;unfold gf;rw[f]
 .rw[if_neg a,if_neg a,aR,aj];exact⟨λ_=>⟨rfl,e⟩,λh=>Ω⟩
def hh(s:am)(j:Nat):Bool:=match s.funs[j]? with
 |some f=>decide (f.live≠0)
 |none=>false
theorem DK{j:Int}(h:bH w ab ac A R n s t):ai x8 Gy [Γ ab,Δ j] w λv w'=>v= .bool (decide (0<=j)&&hh s j.toNat)/\Ext w w':=by
 refine ay func50 ?_;refine aW (λv J=>v= .bool (decide (0<=j)&&hh s j.toNat)/\Ext w J) (λ_ _ h=>h) λaw a=>?_;intro U e _ _;rw[cQ,aj];refine⟨λq=>?_,λq=>a _ _ ⟨by rw[decide_eq_false q];rfl,e⟩⟩;refine(tp (h.ext e)).mono ?_;rintro _ N _ ⟨rfl,G⟩;have r:=e.trans G;rw[aR,aj];refine⟨λO=>?_,λP=>a _ _ ⟨?_,r⟩⟩
 .obtain⟨Q,S,V,W,a1,X,L,Y,B,Z,H,aa,C,x⟩:=(h.ext r).1.parts;obtain⟨f,z⟩:=aD (l:=s.funs) (i:=j.toNat) Ω;obtain⟨y,E⟩:∃y,L[j.toNat]?=σ y:=⟨_,x7 (by rw[x.1];omega)⟩;obtain⟨_,_,I⟩:=x.2 j.toNat y f E z;rw[aQ cG.p 1 B rfl,aQ cG.p 3 B rfl,dE (i:=j.toNat) Ω fS.u fT.i C (by rw[x.1];omega),aS fT.p rfl,aF (v:=Δ (y.at_:Int)) Ψ (C.range E 2 _ rfl)];have K:t.bY[fi s j.toNat+0]?=σ f.live:=by rw[h.2.1,wm z Ω];rfl
  refine(n0 (i:=fi s j.toNat) H (by rw[I]) K).mono ?_;rintro _ ad _ ⟨rfl,M⟩;rw[bK];refine a _ _ ⟨?_,r.trans M⟩;rw[decide_eq_true q,Bool.true_and];unfold hh;rw[z]
 .unfold hh;rw[Y4 Ω,Bool.and_false]
end
def tr(s:am)(n:aK)(i:Int)(b m:Nat):Prop:=k3 b m/\(¬(0<=i/\i<n.sizes.length)->b=0/\m=0)/\∀x,0<=i->s.vars[i.toNat]?=σ x->m=x.un.length/\∀j:Nat,b.testBit j=(decide (j<x.un.length)&& !dropped x.mask (j:Int))
section
variable{w:x4}{ab ac:Nat}{A R:af}{n:aK}{s:am}{t:az}
theorem jW{i:Int}(h:bH w ab ac A R n s t):ai x8 yV [Γ ab,Δ i] w λv w'=>(∃b m,v=iK b m/\tr s n i b m)/\Ext w w':=by
 have bn:=h.2.2.2.1.vars;refine ay func26 ?_;refine bw b4.i λf J bo am P=>?_;have P:ad J f b4 [.int .u64 0,Δ 0]:=P;refine(wL (h.ext am)).mono ?_;rintro _ U _ ⟨rfl,ao⟩;have Q:=P.ext ao;have S:=am.trans ao;rw[bJ,cj];refine⟨λa=>?_,λa=>?_⟩
 .have a:¬(0<=i/\i<n.sizes.length):=λaN=>by rw[decide_eq_true aN]at a;cases a
  rw[dn (cs:=#[.int .u64 0,Δ 0]) Ψ];refine bT (vs:=[.int .u64 0,Δ 0]) b4.i rfl rfl (by intro u hu;simp at hu;rcases hu with rfl|rfl<;>rfl) Q λbp aO bq aP=>?_;rw[e6 b4.p b4.i rfl aP.range];refine⟨⟨0,0,rfl,⟨Ω,Ξ⟩,λ_=>⟨rfl,rfl⟩,λx ap aR=>?_⟩,S.put aO Ω⟩;have:=(x5.1 aR).1;exact absurd ⟨ap,Ω⟩ a
 have a:0<=i/\i<n.sizes.length:=by simpa using a
 obtain⟨x,E⟩:=aD (l:=s.vars) (i:=i.toNat) Ω;obtain⟨z,V⟩:=aD (l:=n.sizes) (i:=i.toNat) Ω;have aS:=h.2.2.2.1.ef.2.2 z (x6 V);obtain⟨br,_,bt,bu⟩:=h.2.2.2.1.var i.toNat x z E V;obtain⟨aT,aU,aV,aW,a1,aX,L,aY,G,aq,_⟩:=(h.ext S).1.parts;rw[aQ cG.p 0 G rfl];refine(C3 aq h.2.2.2.2).mono ?_;rintro _ bx _ ⟨W,rfl⟩;rw[if_pos a.1,u4,V,V2];refine J8.mono ?_;rintro _ bB _ ⟨X,rfl⟩;rw[if_pos aS];obtain⟨m,rfl⟩:∃m:Nat,z=m:=⟨z.toNat,Ω⟩;rw[bz,bA,u9];have au:=(S.trans W).trans X;refine bw b4.i λe bC bE av aZ=>?_;refine bT (vs:=[.int .u64 ((2 ^ m-1:Nat):Int),Δ (m:Int)]) b4.i rfl rfl (by intro u hu;simp at hu;rcases hu with rfl|rfl<;>rfl) aZ λax az bG a2=>?_;have z5:=au.size;have aA:Ext w ax:=(au.trans av).put az Ω;have bI:=(((Q.ext W).ext X)).lt;have a6:ad ax f b4 [.int .u64 0,Δ 0]:=(((Q.ext W).ext X).ext av).aa az λhe=>by have he:f=e:=he;omega
 intro bK Y _ _;have aB:=aA.trans Y;obtain⟨aT,aU,aV,aW,a1,aX,L,aY,G,aq,a7,a8,_⟩:=(h.ext aB).1.parts;have bL:=tn E;have bM:=tm h.2.1 h.2.2.1;rw[aQ cG.p 1 G rfl,aQ cG.p 2 G rfl,fF (y:=i) (i:=i.toNat) Ω an.u ag.i Ψ a8.ls (tk Ω),aM,wrap_i64 Ω Ω];have ba:t.bY[fL s i.toNat+1]?=σ x.mask:=by rw[h.2.1,qO E Ω];rfl
 refine(n0 (i:=fL s i.toNat+1) a7 Ω ba).mono ?_;rintro _ bc _ ⟨rfl,Z⟩;have aC:=(a2.ext Y).ext Z;have bd:=(a6.ext Y).ext Z;obtain⟨mk,aE⟩:∃mk:Nat,x.mask=mk:=⟨x.mask.toNat,Ω⟩;rw[bF b4.p b4.i rfl (show bc.rangeAt e 0 [.int .u64 ((2 ^ m-1:Nat):Int),Δ (m:Int)]from aC.range)];refine(vo (b:=2 ^ m-1) (n:=m)).mono ?_;rintro _ bN _ ⟨rfl,ae⟩;have be:=aB.trans Z;have bf:f≠e:=Ω
 have bO:=aA.size;have bP:w.heap.size<=e:=Ω
 have bQ:w.heap.size<=f:=Ω
 refine b1.range m (λq B=>Ext w B/\ad B f b4 [.int .u64 0,Δ 0]/\∃b:Nat,ad B e b4 [.int .u64 (b:Int),Δ (m:Int)]/\k3 b m/\∀j:Nat,b.testBit j=(decide (j<m)&& !(decide (j<q)&&mk.testBit j))) Ω
  ⟨be.trans ae,bd.ext ae,_,aC.ext ae,⟨Ω,by have:=Nat.two_pow_pos m;omega⟩,λj=>by rw[AM];simp⟩ ?_ ?_
 .rintro q B bg bR ⟨H,I,b,C,K,M⟩ bh;refine bD Ω ?_;refine dl (λN=>Ext w N/\ad N f b4 [.int .u64 0,Δ 0]/\∃b:Nat,ad N e b4 [.int .u64 (b:Int),Δ (m:Int)]/\k3 b m/\∀j:Nat,b.testBit j=(decide (j<m)&& !(decide (j<q+1)&&mk.testBit j))) ?_ ?_
  .rintro N bi;rw[aM];exact bh _ bi
  intro aw aF;have bj:mk / 2 ^ q<2 ^ 62:=Nat.lt_of_le_of_lt (Nat.div_le_self _ _) Ω;rw[aE,BO Ω,show(1:Int)=((1:Nat):Int)from rfl,DF bj Ω,bb,aj];have aG:(((mk / 2 ^ q &&& 1:Nat):Int)=((1:Nat):Int))↔mk.testBit q=true:=by rw[<-DG];omega
  refine⟨λaf=>?_,λah=>?_⟩
  .have af:=aG.1 af;rw[bF b4.p b4.i rfl (show B.rangeAt e 0 [.int .u64 (b:Int),Δ (m:Int)]from C.range)];refine(Ka (v:=(q:Int)) K).mono ?_;rintro _ bS _ ⟨rfl,ak⟩;rw[if_pos ⟨Ω,Ω⟩,u9];refine bT (vs:=[.int .u64 ((jK b (2 ^ q):Nat):Int),Δ (m:Int)]) b4.i rfl rfl (by intro u hu;simp at hu;rcases hu with rfl|rfl<;>rfl) (C.ext ak) λbU aH bV bk=>?_;have aI:∀j:Nat,(jK b (2 ^ q)).testBit j=(decide (j<m)&& !(decide (j<q+1)&&mk.testBit j)):=λj=>by
    rw[AE,M,Nat.testBit_two_pow];by_cases aJ:j<m
    .by_cases O:j=q
     .subst O;simp[af]
     .have al:decide (j<q+1)=decide (j<q):=decide_eq_decide.2 ⟨λh=>Ω,λh=>Ω⟩;rw[al,decide_eq_true aJ,decide_eq_true (show j<64 by omega),decide_eq_false (show¬q=j from λh=>O h.symm)];simp
    .simp[aJ]
   refine aF _ ⟨(H.trans ak).then aH λr bW he=>by have he:r=e:=he;omega,(I.ext ak).aa aH λhe=>bf he,_,bk,⟨Ω,J1 λj aK=>by rw[aI,decide_eq_false Ω];rfl⟩,aI⟩
  .have ah:mk.testBit q=false:=by simpa using λh=>ah (aG.2 h)
   refine aF _ ⟨H,I,b,C,K,λj=>?_⟩;rw[M];by_cases O:j=q
   .subst O;simp[ah]
   .have al:decide (j<q+1)=decide (j<q):=decide_eq_decide.2 ⟨λh=>Ω,λh=>Ω⟩;rw[al]
 .rintro B bg ⟨H,I,b,C,K,M⟩;refine b7 Ω ?_;rw[bF b4.p b4.i rfl (show B.rangeAt e 0 [.int .u64 (b:Int),Δ (m:Int)]from C.range)];refine bT (vs:=[.int .u64 (b:Int),Δ (m:Int)]) b4.i rfl rfl (by intro u hu;simp at hu;rcases hu with rfl|rfl<;>rfl) I λbX bl bZ bm=>?_;rw[e6 b4.p b4.i rfl bm.range];refine⟨⟨b,m,rfl,K,λh=>absurd a h,λy ap aL=>?_⟩,H.put bl Ω⟩;rw[E]at aL;cases aL;refine⟨Ω,λj=>?_⟩;rw[M,aE,OD,show x.un.length=m by omega];by_cases aK:j<m<;>simp[aK]
theorem ts{f:cK}(e:bg k sizes s)(j:f∈s.funs):cd f.ah/\f.cs.length=(aN f.ah).toNat/\aN f.ah<=4096:=by
 obtain⟨a,I,_⟩:=e.funs f j;rw[I];refine⟨⟨?_,nT e.ef.2.2 λv h=>⟨(a.scope.1 v h).1,a.vars v h⟩⟩,a.len,a.small⟩;have:=a.scope.2;simp[bI];exact this
def iX(s:am)(j:Nat)(tl:Λ):Option Nat:=match s.funs[j]? with
 |some f=>if f.live≠0 then(ck f.ah tl 0).map λm=>fi s j+1+m.toNat else ν
 |none=>ν
def pw(s:am)(j:Nat)(tl:Λ):Int:=match s.funs[j]? with
 |some f=>bm f.ah f.cs tl
 |none=>0
theorem DL{aO:x3}(h:bH w ab ac A R n s t)(N:aH .i64 w aO tl):ai x8 G1 [Γ ab,Δ (j:Int),aO] w λv w'=>v=Δ (match iX s j tl with|some p=>(p:Int)|none=>-1)/\Ext w w':=by
 refine ay func85 ?_;refine(DK h).mono ?_;rintro _ J _ ⟨rfl,B⟩;rw[decide_eq_true Ω,Bool.true_and,u9,bJ,cj];refine⟨λa=>⟨?_,B⟩,λa=>?_⟩
 .have a:hh s j=false:=by simpa using a
  have:iX s j tl=ν:=by
   unfold iX;unfold hh at a;cases e:s.funs[j]? with
   |none=>rfl
   |some f=>
    rw[e]at a;have a:f.live=0:=by simpa using a
    simp[a]
  rw[this]
 have a:hh s j=true:=by simpa using a
 obtain⟨f,e,O⟩:∃f,s.funs[j]?=σ f/\f.live≠0:=by
  unfold hh at a;cases e:s.funs[j]? with
  |none=>rw[e]at a;cases a
  |some f=>rw[e]at a;exact⟨f,rfl,by simpa using a⟩
 obtain⟨I,af,ag⟩:=ts h.2.2.2.1 (x6 e);obtain⟨P,Q,S,V,a1,K,L,W,C,X,Y,Z,x,z⟩:=(h.ext B).1.parts;obtain⟨y,r⟩:∃y,L[j]?=σ y:=⟨_,x7 (by rw[z.1];exact(x5.1 e).1)⟩;have E:=(x5.1 r).1;obtain⟨_,aa,M⟩:=z.2 j y f r e;have ad:J.rangeAt K (j*3+1) [y.szv]:=λq v G=>by
  match q,G with
  |0,G=>cases G;exact x.range r 1 _ rfl
 rw[aQ cG.p 3 C rfl,dE rfl fS.u fT.i x E,aS fT.p rfl,bF (cs:=[y.szv]) bE.p bE.i rfl ad];refine(zV aa.ls (N.ext B) I).mono ?_;rintro _ U _ ⟨rfl,ae⟩;have H:=B.trans ae;unfold k0 iX;rw[e];simp only[if_pos O];cases hi:ck f.ah tl 0 with
 |none=>
  simp only[Option.map_none];rw[bz,bA,bK,aj];exact⟨λ_=>⟨trivial,H⟩,λh=>absurd (show(3:Int)≠0 by decide) h⟩
 |some m=>
  simp only[Z7];rw[bz,bA,bK,aj];refine⟨λh=>absurd rfl h,λ_=>?_⟩;have ak:=kZ I.2 hi;have al:=DH e;have am:=tm h.2.1 h.2.2.1;obtain⟨P,Q,S,V,a1,K,L,W,C,X,Y,Z,x,z⟩:=(h.ext H).1.parts;obtain⟨y,r⟩:∃y,L[j]?=σ y:=⟨_,x7 (by rw[z.1];exact(x5.1 e).1)⟩;have E:=(x5.1 r).1;obtain⟨_,_,M⟩:=z.2 j y f r e;rw[aQ cG.p 3 C rfl,dE rfl fS.u fT.i x E,aS fT.p rfl,aF (v:=Δ (y.at_:Int)) Ψ (x.range r 2 _ rfl),M,aM,wrap_i64 Ω Ω,aM,wrap_i64 Ω Ω];refine⟨?_,H⟩;congr 1;omega
theorem DM{p:Nat}(e:bg k sizes s)(h:iX s j tl=σ p):s.cells[p]?=σ (pw s j tl)/\∃f,s.funs[j]?=σ f/\f.live≠0/\∃m:Nat,ck f.ah tl 0=σ (m:Int)/\m<f.cs.length/\p=fi s j+(m+1):=by
 unfold iX at h;cases a:s.funs[j]? with
 |none=>rw[a]at h;cases h
 |some f=>
  rw[a]at h;simp only at h;split at h
  .rename_i r;obtain⟨m,hm,rfl⟩:=Y6.1 h;obtain⟨w,x,y⟩:=ts e (x6 a);have z:=kZ w.2 hm;obtain⟨q,rfl⟩:∃q:Nat,m=q:=⟨m.toNat,Ω⟩;refine⟨?_,f,rfl,r,q,hm,Ω,Ω⟩;rw[show fi s j+1+(q:Int).toNat=fi s j+(q+1) by omega,wm a Ω];unfold pw bm;rw[a];simp only[hm];show f.cs[q]?=_;rw[u9,u4,x7 Ω];rfl
  .cases h
theorem wN{aO:x3}(h:bH w ab ac A R n s t)(e:aH .i64 w aO tl):ai x8 yZ [Γ ab,Δ (j:Int),aO] w λv w'=>v=(if(iX s j tl).isSome then .tuple #[Δ (pw s j tl),Δ 0]else .tuple #[Δ 0,Δ 1])/\Ext w w':=by
 refine ay func38 ?_;rw[da eh.u];simp only[Z6,aY];refine(DL h e).mono ?_;rintro _ J _ ⟨rfl,a⟩;cases f:iX s j tl with
 |none=>
  simp only;rw[aR,aj];exact⟨λ_=>⟨rfl,a⟩,λh=>Ω⟩
 |some p=>
  simp only;refine b7 Ω ?_;obtain⟨y,z,B,C,a1,E,L,G,q,H,r,I,K,M⟩:=(h.ext a).1.parts;rw[aQ cG.p 1 q rfl];refine(n0 (i:=p) r rfl (by rw[h.2.1];exact(DM h.2.2.2.1 f).1)).mono ?_;rintro _ U _ ⟨rfl,x⟩;exact⟨rfl,a.trans x⟩
end
theorem eT.parts{a:Nat}{e f q:x3}{A R:af}{n:aK}{s:am}{t:az}(h:eT w ab ac a e f q A R n s t):∃a1 j L p,ad w ab cG [Γ a,Γ ac,e,f,q]/\gd w a n/\dv w ac p t/\aq .i64 ag w a1 e (iv s)/\be n1 3 fT w j f L/\li R w L s:=by
 obtain⟨_,a1,j,ge,L,E,p,w0,r,⟨x,y,G⟩,⟨z,H,I,J⟩,B,⟨C,F⟩,K,M⟩:=h;exact⟨a1,j,L,p,r,x.ext y,z,B,C,F⟩
theorem OE{a b:Int}(e:0<=a/\a<=k)(f:0<=b/\b<=k)(hk:1<=k/\k<=2147483648):ai x8 ze [Δ a,Δ b,Δ k] w λv w'=>v= .tuple #[Δ (min (a+b) k),Δ 0]/\Ext w w':=by
 refine Bj.mono ?_;rintro _ J _ ⟨rfl,h⟩;refine⟨?_,h⟩;unfold qm;rw[if_pos ⟨⟨hk,e.1,e.2⟩,hk,f.1,f.2⟩]
def Room(t:az):Prop:=t.marks=[]\/t.olds.length<100000000
def dM(s:am)(i v:Nat):am:=match s.vars[i]? with
 |some x=>{s with vars:=s.vars.set i {x with mask:=((x.mask.toNat ||| 2 ^ v:Nat):Int)}}
 |none=>s
theorem bg.tt{s:am}{i:Nat}{x y:bh}(h:bg k sizes s)(e:s.vars[i]?=σ x)(r:y.un.length=x.un.length)(w:∀c∈y.un,0<=c/\c<=k)(hm:0<=y.mask/\y.mask<4294967296):bg k sizes {s with vars:=s.vars.set i y}:=
 ⟨h.fu,h.ef,h.zero,by show(s.vars.set i y).length=_;rw[Z9];exact h.vars,λp z q a f=>by
  have a:(s.vars.set i y)[p]?=σ z:=a;rw[X1]at a;by_cases j:i=p
  .subst j;rw[if_pos rfl,if_pos (x5.1 e).1]at a;cases a;exact⟨r.trans (h.var i x q e f).1,w,hm⟩
  .rw[if_neg j]at a;exact h.var p z q a f,h.funs⟩
theorem bg.DN{s:am}{f g:cK}(h:bg k sizes s)(e:s.funs[j]?=σ f)(h1:g.sc=f.sc)(p:g.ah=f.ah)(q:g.cs.length=f.cs.length)(r:∀c∈g.cs,0<=c/\c<=k):bg k sizes {s with funs:=s.funs.set j g}:=
 ⟨h.fu,h.ef,h.zero,h.vars,h.var,λx a=>by
  rcases W5 a with a|rfl
  .exact h.funs x a
  .obtain⟨⟨w,y,z,A,B,F⟩,C,E⟩:=h.funs f (x6 e);refine⟨⟨?_,?_,?_,?_,?_,r⟩,?_,?_⟩
   .show jn x.sc;rw[h1];exact w
   .show x.sc.Pairwise _;rw[h1];exact y
   .show ∀v∈x.sc,_;rw[h1];exact z
   .show x.cs.length=(aN (bI sizes x.sc)).toNat;rw[h1,q];exact A
   .show aN (bI sizes x.sc)<=_;rw[h1];exact B
   .rw[h1,p];exact C
   .rw[h1];exact E⟩
theorem OF{r:Nat}{c:List x3}(a:ad w r e c)(he:¬(e=fB\/e=eK\/e=kQ\/e=gl\/e=cG\/e=fT\/e=eY)):¬eA w r:=by
 rintro (⟨p,q,f,h⟩|j)
 .rw[fh a f]at he;exact he h
 .exact j _ a rfl
section
variable{w:x4}{ab ac:Nat}{A R:af}{n:aK}{s:am}{t:az}
theorem mL.set(h:mL t)(a:Room t)(p:Nat)(x:Int):mL (t.set p x):=by
 refine⟨by rw[az.C8];exact h.1,?_,by rw[az.wp];exact h.2.2⟩;rcases a with a|a
 .rw[az.wq a];exact h.2.1
 .have:=az.C9 t p x;omega
theorem DO{s':am}{p:Nat}{x:Int}(h:bH w ab ac A R n s t)(z:y=(p:Int))(a:p<s.cells.length)(B:s.cells.set p x=s'.cells)(I:n3 s s')(C:bg n.k n.sizes s')(E:Room t):
  ai x8 za [Γ ac,Δ y,Δ x] w λr w'=>r=Δ 0/\ae (eA w) w w'/\∃aI,Grow A w aI w'/\bH w' ab ac aI R n s' (t.set p x):=by
 obtain⟨G,j,q,_,H⟩:=id h;obtain⟨K,L,M⟩:=G.qP;have N:p<t.cells.length:=by rw[<-j]at a;unfold az.bY at a;rw[u7]at a;exact a
 refine(tc L.min z N q).mono ?_;rintro _ J _ ⟨rfl,O,e,P⟩;obtain⟨aI,Q,S⟩:=M (λr=>K r\/O r) J _ ⟨e.1.mono λr _ h=>h.1,λr f=>f.elim .inl λh=>(e.2.1 r h).imp (λh=>h.1) id,λr f=>.inl f⟩ (P.mono λr h=>.inr h);exact⟨rfl,e.1.mono λr _ h=>.inl h.2,aI,Q,S.same I,by rw[az.qb,j,B],q.set E p x,C,H⟩
theorem wO{i:Int}(h:bH w ab ac A R n s t)(K:Room t):ai x8 GP [Γ ab,Δ i,Δ v] w λr w'=>(¬eU n i v->r=Δ 1/\Ext w w')/\
  (eU n i v->r=Δ 0/\ae (eA w) w w'/\∃aI x,Grow A w aI w'/\bH w' ab ac aI R n (dM s i.toNat v.toNat) (t.set (fL s i.toNat+1) x)):=by
 refine ay func71 ?_;rw[da eh.u];simp only[Z6,aY];refine(wM h).mono ?_;rintro _ J _ ⟨rfl,f⟩;by_cases e:eU n i v
 rotate_left
 .rw[if_neg e,aR,aj];exact⟨λ_=>⟨λ_=>⟨by trivial,f⟩,λh=>absurd h e⟩,λh=>Ω⟩
 rw[if_pos e];refine b7 Ω ?_;obtain⟨x,a,M,ad,af⟩:=e.var h.2.2.2.1;obtain⟨h1,ah,ak,al⟩:=id e;have am:=h.2.2.2.1.vars;obtain⟨z,N⟩:=aD (l:=n.sizes) (i:=i.toNat) Ω;obtain⟨_,O,ao,ap⟩:=h.2.2.2.1.var i.toNat x z a N;have aq:=tn a;have au:=tm h.2.1 h.2.2.1;obtain⟨av,aw,ax,az,P⟩:=(h.ext f).1;obtain⟨a1,aA,L,aB,E,aC,Q,S,aE,aF⟩:=P.parts;rw[aQ cG.p 2 E rfl,fF (y:=i) (i:=i.toNat) Ω an.u ag.i Ψ S.ls (tk Ω),aM,wrap_i64 Ω Ω];intro U j _ _;have V:=f.trans j;have G:=E.ext j;have W:=Q.ext j;obtain⟨q,rfl⟩:∃q:Nat,v=q:=⟨v.toNat,Ω⟩;obtain⟨mk,H⟩:∃mk:Nat,x.mask=mk:=⟨x.mask.toNat,Ω⟩;rw[u9]at M;rw[aQ cG.p 1 G rfl,aQ cG.p 1 G rfl,OB Ω];have X:t.bY[fL s i.toNat+1]?=σ x.mask:=by rw[h.2.1,qO a Ω];rfl
 refine(n0 (i:=fL s i.toNat+1) W Ω X).mono ?_;rintro _ aG _ ⟨rfl,I⟩;refine⟨.inl I,?_⟩;have aH:(2:Nat) ^ q<=2 ^ 31:=T6 Ω Ω;rw[H,OA Ω Ω];have B:=V.trans I;have aJ:mk ||| 2 ^ q<2 ^ 32:=Nat.or_lt_two_pow Ω Ω;have C:dM s i.toNat (q:Int).toNat={s with vars:=s.vars.set i.toNat {x with mask:=((mk ||| 2 ^ q:Nat):Int)}}:=by
  unfold dM;rw[a];simp only[H,u9]
 refine(DO (p:=fL s i.toNat+1) (s':=dM s i.toNat (q:Int).toNat) (h.ext B) Ω Ω ?_ ?_ ?_ K).mono ?_
 .rw[C,C0 a Ω];rfl
 .rw[C];exact C6 a rfl
 .rw[C];exact h.2.2.2.1.tt a rfl O ⟨by simp only;omega,by simp only;omega⟩
 rintro _ aK _ ⟨rfl,Y,aI,Z,aa⟩;exact⟨λh=>absurd e h,λ_=>⟨rfl,iw B Y,aI,_,(Grow.ext B).trans Z,aa⟩⟩
end
theorem tu{c8:x3}(h:aH .i64 w c8 l):ai x8 Gp [c8,Δ v] w λr w'=>r= .bool (decide (v∈l))/\Ext w w':=by
 refine ay func31 ?_;rw[aV an.u h];refine b3.range l.length (λi _ J=>Ext w J/\v∉l.take i) h.le ⟨Ext.refl _,Ξ⟩ ?_ ?_
 .rintro i _ J k hi ⟨a,e⟩ hk;obtain⟨x,f⟩:=aD (l:=l) hi;refine bD Ω ?_;rw[bc an.u ag.i Ψ (h.ext a) f,bb,aj];refine⟨λhe=>⟨by rw[decide_eq_true];rw[<-he];exact x6 f,a⟩,λj=>?_⟩;rw[aM];refine hk _ _ ⟨a,λhm=>?_⟩;rw[r8,f,l7,l9,j4]at hm;rcases hm with hm|hm
  .exact e hm
  .exact j hm.symm
 .rintro _ J k ⟨a,e⟩;rw[o6]at e;rw[aR,aj];exact⟨λh=>Ω,λ_=>⟨by rw[decide_eq_false e],a⟩⟩
theorem DP:∀{s t:Λ}{m k v:Int},s.length=t.length->ck (s++[k]) (t++[v]) m=(ck s t m).bind λr=>if 0<=v/\v<k then σ (r*k+v)else ν
 |[],[],m,k,v,_=>by simp[ck]
 |x::s,y::t,m,k,v,h=>by
  have h:s.length=t.length:=by simpa using h
  rw[List.cons_append,List.cons_append];simp only[ck];split
  .exact DP h
  .rfl
theorem DQ{x:bh}(h:0<=v/\v<x.un.length):v∈ax x↔dropped x.mask v=false:=by
 unfold ax;rw[List.mem_filter,j0];constructor
 .rintro⟨_,a⟩;simpa using a
 .intro a;exact⟨⟨v.toNat,List.mem_range.2 Ω,Ω⟩,by simp[a]⟩
def cp(s:am):Prop:=∀f∈s.funs,f.live≠0->∀v∈f.sc,∀x,s.vars[v.toNat]?=σ x->x.gone=0
theorem gd.put{g x:Nat}{c:List x3}{n:aK}(h:gd w x n)(a:ad w g aA c)(f:ae (λr=>r=g) w w'):gd w' x n:=by
 have p:=DE a;have y:∀r,r=g->∃e c,ad w r e c/\e≠hs/\e≠cX/\e≠ag/\e≠ao/\e≠au:=λr j=>by
  subst j;exact⟨_,c,a,Φ,Φ,Φ,Φ,Φ⟩
 obtain⟨z,A,B,C,gr,aT,L,nm,szv,gz,fv2,h1,E,F,G,H,I,J⟩:=h;refine⟨z,A,B,C,gr,aT,L,nm,szv,gz,fv2,wJ h1 f p Φ,wJ E f p Φ,wI F f p Φ,G.aa f λr j=>?_,H,I.aa f λr j=>?_,J⟩
 .obtain⟨e,c,a,_,_,_,q,s⟩:=y r j;exact⟨e,c,a,q,s⟩
 .obtain⟨e,c,a,q,s,K,M,_⟩:=y r j;exact⟨e,c,a,q,s,K,M⟩
theorem StateM.put{g:Nat}{A R:af}{n:aK}{s:am}{t:az}{c:List x3}(h:StateM w ab ac A R n s t)(y:ad w g aA c)(p:ae (λr=>r=g) w w')(S:¬A g):∃R',(∀r,R' r->R r/\r≠g)/\StateM w' ab ac A R' n s t:=by
 obtain⟨U,V,W,X,⟨h1,Y,Z,ag⟩,a1,ah,ge,L,E,ai,w0,aj,⟨K,C,ak⟩,⟨al,M,an,ao⟩,ap,⟨aq,N⟩,au,O⟩:=h;obtain⟨cu,P⟩:=CT;have z:=p.size;have q:=DE y;have B:∀r,(w0.heap.setIfInBounds g cu)[r]?=if g=r then(if g<w0.heap.size then σ cu else ν)else w0.heap[r]?:=λr=>Array.getElem?_setIfInBounds;have av:∀r,A r->r≠g:=λr a he=>S (he▸a);have int:∀{v:x3}{l:Λ},iT R w v l->iT (λr=>R r/\r≠g) w' v l:=λ⟨⟨aw,hm⟩,ax⟩=>⟨⟨aw,wI hm p q Φ⟩,λr a=>⟨ax r a,ce hm y Φ a⟩⟩;refine⟨λr=>R r/\r≠g,λr h=>h,U,V,W,X,⟨h1,λr a ay=>Y r a ay.1,λr a=>by have:=Z r a.1;omega,λr a=>by have:=ag r a;omega⟩,a1,ah,ge,L,E,ai,{w0 with heap:=w0.heap.setIfInBounds g cu},wJ aj p q Φ,⟨?_,?_,?_⟩,
  ⟨al.aa p λr a=>av r (M r a),M,an,ao⟩,wI ap p q Φ,⟨DD aq p q Φ,N.1,λj x f F aB=>?_⟩,DD au p q Φ,O.1,λj x e F he=>?_⟩
 .by_cases I:∃o,w0.heap[g]?=σ o/\fx o=true
  .obtain⟨o,Q,aC⟩:=I;have aD:ad w0 g aA c:=by
    unfold ad at y ⊢;have:=C.aU g o Q aC;rw[y]at this;rw[Q,this]
   refine K.put aD ⟨Ξ,λr o a I aE=>?_⟩;show(w0.heap.setIfInBounds g cu)[r]?=σ o;rw[B,if_neg λhe=>aE he.symm];exact a
  .refine K.ext ⟨Ξ,λr o a aF=>?_⟩;show(w0.heap.setIfInBounds g cu)[r]?=σ o;rw[B,if_neg λhe=>I ⟨o,by rw[he];exact a,aF⟩];exact a
 .refine⟨by show(w0.heap.setIfInBounds g cu).size<=_;rw[Array.size_setIfInBounds];exact X0 C.size z,λr o a I=>?_⟩;have a:(w0.heap.setIfInBounds g cu)[r]?=σ o:=a;rw[B]at a;by_cases he:g=r
  .rw[if_pos he]at a;split at a
   .cases a;rw[P]at I;cases I
   .cases a
  .rw[if_neg he]at a;exact p.aU r o (C.aU r o a I) I λh=>he h.symm
 .intro r o a I;have a:(w0.heap.setIfInBounds g cu)[r]?=σ o:=a;rw[B]at a;by_cases he:g=r
  .rw[if_pos he]at a;split at a
   .cases a;rw[P]at I;cases I
   .cases a
  .rw[if_neg he]at a;exact⟨ak r o a I,λh=>he h.symm⟩
 .obtain⟨G,H,J⟩:=N.2 j x f F aB;exact⟨int G,int H,J⟩
 .obtain⟨G,H,J⟩:=O.2 j x e F he;exact⟨G,int H,int J⟩
theorem OG{pl:Λ}{f:ca}(j:pl.length<=60000)(h:gB pl=σ f):∃N,N<=60000/\ff N f/\f.name≠[]/\∀b∈f.name,bO b=true:=by
 unfold gB at h;rw[if_neg Ω]at h;cases a:hU ⟨(lex pl).1,0,false,[]⟩with
 |none=>rw[a]at h;cases h
 |some q=>
  obtain⟨p,s⟩:=q;rw[a]at h;simp only at h;split at h
  .rename_i ap;cases h;obtain⟨h1,e⟩:=Bd rfl a ap.2.2;have r:=p9 pl.length pl (o5 _);obtain⟨J,U,_⟩:=sa pl.length pl (o5 _) f.name e;exact⟨_,by show(lex pl).1.length<=60000;omega,h1,J,U⟩
  .cases h
theorem OH:ai x8 y3 [.pointer ν] w λv w'=>v= .pointer ν/\Ext w w':=by
 refine ay func62 ?_;rw[da mr.u];simp only[Option.isNone_none,bQ];exact⟨by trivial,Ext.refl _⟩
theorem OI{v:x3}(h:aH .u8 w v l)(B:l.length<=100000):ai x8 GC [v] w λf w'=>Ext w w'/\∃g,aq .u8 cH w' g f l:=by
 have e:=h;obtain⟨C,b,o,base,cap,rfl,E,hm,q,s⟩:=h;refine ay func58 ?_;rw[r1 cL.u,cj];refine⟨λx=>⟨Ext.refl _,0,?_⟩,λ_=>?_⟩
 .have:l=[]:=by
   cases base with
   |none=>
        by_cases e:0<l.length
        .have:=q e;cases this
        .exact b9 Ω
   |some a=>cases x
  subst this;exact aq.nil _ _ _ _
 .refine wK (k:=.u8) cL.u cH.i λG g1 J H j p=>?_;refine h5 cL.u cH.i rfl p (e.ext j) Θ Θ λf y U z I A=>?_;exact⟨j.then A (λr s he=>by have:=(bR p he).1;omega),y,by simpa using z⟩
def OJ(sv:x3):Prop:=∃cs:List x3,sv= .agg cs.toArray/\cs.length=8/\∀u∈cs,u.oneCell'=true
theorem DR:OJ (.agg z12.toArray):=⟨z12,rfl,rfl,by intro u hu;simp[z12]at hu;rcases hu with rfl|rfl|rfl|rfl<;>rfl⟩
theorem wP{N:Nat}{f:ca}(a:ff N f):(cg f).funs.length<=256:=by
 have h1:=(qC a).2.length_eq;have h:=(lb a).2.2;have j:=List.length_filter_le fH (fq f);have p:=a.k4;have e:=(pq f (fI f).length).2.2.2;rw[ta]at e;omega
theorem OK{n:aK}{t:az}(e:jR n)(f:n.funs.length<=256)(h:t.bY=(cZ n).cells)(a:Plain t):mL t:=by
 have h1:=ti e f n.unary.length n.funs.length;rw[wv,<-h]at h1;unfold az.bY at h1;rw[u7]at h1;refine⟨Ω,?_,?_⟩
 .rw[a.2.1];exact X5 _
 .rw[a.1];exact X5 _
section
variable{w:x4}{ab ac:Nat}{A R:af}{n:aK}{s:am}{t:az}
theorem OL{j:Int}(h:bH w ab ac A R n s t)(p:¬(0<=j/\j<s.funs.length)):ai x8 rT [Γ ab,Δ j] w λr w'=>r= .slice ν 0 0/\Ext w w':=by
 refine ay func205 ?_;refine aW (λv J=>v= .bool true/\Ext w J) ?_ ?_
 .rintro _ J ⟨rfl,e⟩;rw[bQ];exact⟨rfl,e⟩
 intro aw a;rw[aR,aj];refine⟨λ_=>a _ _ ⟨rfl,Ext.refl _⟩,λq=>?_⟩;refine(tp h).mono ?_;rintro _ x _ ⟨rfl,f⟩;rw[cQ];exact a _ _ ⟨by rw[decide_eq_true Ω],f⟩
end
section
variable{w:x4}{B:Nat}{sv:x3}{k:Int}{sizes:Λ}{s:am}
end
def ix:List (Λ)->List (Λ)
 |[]=>[[]]
 |d::a=>d.flatMap λv=>(ix a).map (v:: ·)
theorem qT:∀{e:List (Λ)}{t:Λ},t∈ix e↔t.length=e.length/\∀(p:Nat)d v,e[p]?=σ d->t[p]?=σ v->v∈d
 |[],t=>by
  simp only[ix,j4];exact⟨λh=>by subst h;exact⟨rfl,λp d v h=>by simp at h⟩,λh=>b9 h.1⟩
 |d::e,t=>by
  simp only[ix,List.mem_flatMap,j0];constructor
  .rintro⟨v,q,bn,r,rfl⟩;obtain⟨h1,f⟩:=qT.1 r;refine⟨by simp[h1],λp j u a hu=>?_⟩;cases p with
   |zero=>simp at a hu;subst a hu;exact q
   |succ p=>exact f p j u (by simpa using a) (by simpa using hu)
  .rintro⟨h1,f⟩;cases t with
   |nil=>simp at h1
   |cons v bn=>exact⟨v,f 0 d v rfl rfl,bn,qT.2 ⟨by simpa using h1,λp j u a hu=>f (p+1) j u (by simpa using a) (by simpa using hu)⟩,rfl⟩
def mS:List (Int->Bool)->Λ->Bool
 |q::a,v::t=>q v&&mS a t
 |_,_=>true
theorem DS:∀(j:List (Λ))(a:List (Int->Bool)),a.length=j.length->ix ((j.zip a).map λp=>p.1.filter p.2)=(ix j).filter (mS a)
 |[],[],_=>rfl
 |d::j,q::a,h=>by
  have r:=DS j a (by simpa using h);simp only[List.zip_cons_cons,T1,ix];rw[r];clear r h;induction d with
  |nil=>rfl
  |cons v d s=>
   rw[V4,List.filter_append,<-s];have e:((ix j).map (v:: ·)).filter (mS (q::a))=if q v then((ix j).filter (mS a)).map (v:: ·)else[]:=by
    rw[List.filter_map];by_cases f:q v=true
    .rw[if_pos f];congr 1;apply List.filter_congr;intro t _;show(q v&&mS a t)=_;rw[f,Bool.true_and]
    .rw[if_neg f];rw[List.filter_eq_nil_iff.2 λt _=>by show¬(q v&&mS a t)=true;simp[f]];rfl
   rw[e];by_cases f:q v=true
   .rw[if_pos f,List.filter_cons_of_pos f,V4]
   .rw[if_neg f,List.filter_cons_of_neg f];rfl
def hj(k:Int):Λ:=(W3 k.toNat).map λv:Nat=>(v:Int)
theorem tv:∀(s:Λ),bj s=ix (s.map hj)
 |[]=>rfl
 |k::s=>by
  simp only[bj,T1,ix,hj,List.flatMap_map,<-tv s]
theorem qU:v∈hj k↔0<=v/\v<k:=by
 unfold hj;rw[j0];constructor
 .rintro⟨n,a,rfl⟩;have:=List.mem_range.1 a;omega
 .intro h;exact⟨v.toNat,List.mem_range.2 Ω,Ω⟩
def dF(f:Int->Int)(L:List (Λ))(ah cs:Λ):Λ:=((bj ah).zip cs).map λp=>if p.1∈L then f p.2 else p.2
theorem oc(f:Int->Int)(L:List (Λ))(ah cs:Λ)(h:cs.length<=(bj ah).length):(dF f L ah cs).length=cs.length:=by
 unfold dF;rw[u7,List.length_zip];omega
theorem px{f:Int->Int}{i:Nat}(a:(bj ah)[i]?=σ t)(e:cs[i]?=σ c):(dF f L ah cs)[i]?=σ (if t∈L then f c else c):=by
 unfold dF;have h:((bj ah).zip cs)[i]?=σ (t,c):=List.getElem?_zip_eq_some.2 ⟨a,e⟩;rw[v8,h];rfl
theorem OM{f:Int->Int}{i:Nat}(I:dP ah)(q:cs.length<=(bj ah).length)(p:(bj ah)[i]?=σ t)(r:cs[i]?=σ c)(x:t∉L):(dF f L ah cs)[i]?=σ c/\(dF f L ah cs).set i (f c)=dF f (L++[t]) ah cs:=by
 have h1:=px (f:=f) (L:=L) p r;rw[if_neg x]at h1;refine⟨h1,?_⟩;apply Y7;intro j;rw[X1];by_cases s:i=j
 .subst s;rw[if_pos rfl,if_pos (x5.1 h1).1,px p r,if_pos Ξ]
 .rw[if_neg s];cases a:cs[j]? with
  |none=>
   have:=List.getElem?_eq_none_iff.1 a;rw[Y4 (by rw[oc _ _ _ _ q];exact this),Y4 (by rw[oc _ _ _ _ q];exact this)]
  |some A=>
   obtain⟨u,hu⟩:∃u,(bj ah)[j]?=σ u:=⟨_,x7 (by have:=(x5.1 a).1;omega)⟩;rw[px hu a,px hu a];have y:u≠t:=λhe=>by
    subst he;have z:=jl I p;have w:=jl I hu;rw[z]at w;have:=Z0 w;omega
   have:u∈L++[t]↔u∈L:=by simp[y]
   by_cases e:u∈L
   .rw[if_pos e,if_pos (this.2 e)]
   .rw[if_neg e,if_neg λh=>e (this.1 h)]
def jX(s:am)(i v:Nat)(c:Int):am:=match s.vars[i]? with
 |some x=>{s with vars:=s.vars.set i {x with un:=x.un.set v c}}
 |none=>s
def jY(s:am)(j m:Nat)(c:Int):am:=match s.funs[j]? with
 |some f=>{s with funs:=s.funs.set j {f with cs:=f.cs.set m c}}
 |none=>s
theorem qV{i:Nat}(h:∀x∈l,0<=x/\x<=k)(e:0<=c/\c<=k):∀x∈l.set i c,0<=x/\x<=k:=λx a=>by
 rcases W5 a with a|rfl
 .exact h x a
 .exact e
def mT(w:x4)(ab ac:Nat)(A R:af)(n:aK)(s':am)(t:az)(v:x3)(w':x4):Prop:=v=Δ 0/\ae (eA w) w w'/\∃aI p x,Grow A w aI w'/\bH w' ab ac aI R n s' (t.set p x)
theorem mT.ext{J:x4}{A R:af}{n:aK}{s':am}{t:az}{v:x3}(a:Ext w J)(h:mT J ab ac A R n s' t v w'):mT w ab ac A R n s' t v w':=by
 obtain⟨h1,e,aI,p,x,f,j⟩:=h;exact⟨h1,iw a e,aI,p,x,(Grow.ext a).trans f,j⟩
section
variable{w:x4}{ab ac:Nat}{A R:af}{n:aK}{s:am}{t:az}
theorem qW(h:bH w ab ac A R n s t)(f:y<0\/¬(0<=c/\c<=n.k)):ai x8 zn [Γ ab,Δ y,Δ c] w λv w'=>v=Δ (if y<0 then 1 else 3)/\Ext w w':=by
 refine ay func210 ?_;rw[da eh.u];simp only[Z6,aY];rw[aR,aj];refine⟨λe=>⟨by rw[if_pos e],Ext.refl _⟩,λe=>?_⟩;refine(mR h).mono ?_;rintro _ J _ ⟨rfl,j⟩;refine(jI (a:=c) (k:=n.k)).mono ?_;rintro _ U _ ⟨rfl,p⟩;have q:=f.resolve_left e;rw[decide_eq_false (λh=>q h.2),bJ,X9,bQ,if_neg e];exact⟨rfl,j.trans p⟩
theorem wQ{s':am}{p:Nat}(h:bH w ab ac A R n s t)(f:Room t)(j:y=(p:Int))(q:p<s.cells.length)(r:s.cells.set p c=s'.cells)(I:n3 s s')(x:bg n.k n.sizes s')(z:0<=c/\c<=n.k):
  ai x8 zn [Γ ab,Δ y,Δ c] w (mT w ab ac A R n s' t):=by
 refine ay func210 ?_;rw[da eh.u];simp only[Z6,aY];refine b7 Ω ?_;refine(mR h).mono ?_;rintro _ J _ ⟨rfl,B⟩;refine(jI (a:=c) (k:=n.k)).mono ?_;rintro _ U _ ⟨rfl,C⟩;have e:=B.trans C;rw[decide_eq_true (show cz c n.k from⟨h.2.2.2.1.fu,z⟩),bJ,Y9,aY];obtain⟨M,N,O,P,a1,Q,L,S,E,V,W,X,Y,Z⟩:=(h.ext e).1.parts;rw[aQ cG.p 1 E rfl];refine(DO (h.ext e) j q r I x f).mono ?_;rintro _ aa _ ⟨rfl,G,aI,H,K⟩;exact mT.ext e ⟨rfl,G,aI,_,_,H,K⟩
theorem ON(h:bH w ab ac A R n s t)(e:Room t):ai x8 HI [Γ ab,Δ c] w λv w'=>(¬(0<=c/\c<=n.k)->v=Δ 3/\Ext w w')/\((0<=c/\c<=n.k)->mT w ab ac A R n {s with zero:=c} t v w'):=by
 refine ay func158 ?_;by_cases a:0<=c/\c<=n.k
 .refine (wQ (p:=0) h e rfl (by unfold am.cells iR;simp) (ND s c) (C5 s c) ⟨h.2.2.2.1.fu,h.2.2.2.1.ef,a,h.2.2.2.1.vars,h.2.2.2.1.var,h.2.2.2.1.funs⟩ a).mono ?_;rintro v J _ f;exact⟨λh=>absurd a h,λ_=>f⟩
 .refine (qW h (.inr a)).mono ?_;rintro v J _ ⟨rfl,j⟩;exact⟨λ_=>⟨rfl,j⟩,λh=>absurd h a⟩
theorem DT{i:Int}(h:bH w ab ac A R n s t)(B:Room t):ai x8 HH [Γ ab,Δ i,Δ v,Δ c] w λr w'=>
  (¬eU n i v->r=Δ 1/\Ext w w')/\(eU n i v->¬(0<=c/\c<=n.k)->r=Δ 3/\Ext w w')/\(eU n i v->(0<=c/\c<=n.k)->mT w ab ac A R n (jX s i.toNat v.toNat c) t r w'):=by
 refine ay func157 ?_;refine(wM h).mono ?_;rintro _ J _ ⟨rfl,e⟩;by_cases a:eU n i v
 .rw[if_pos a];by_cases j:0<=c/\c<=n.k
  .obtain⟨x,f,H,I,_⟩:=a.var h.2.2.2.1;have K:=h.2.2.2.1.vars;obtain⟨z,C⟩:∃z,n.sizes[i.toNat]?=σ z:=⟨_,x7 (by have:=a.1;have:=a.2.1;omega)⟩;obtain⟨_,E,hm⟩:=h.2.2.2.1.var i.toNat x z f C;have L:=tn f;have q:jX s i.toNat v.toNat c={s with vars:=s.vars.set i.toNat {x with un:=x.un.set v.toNat c}}:=by unfold jX;rw[f]
   refine(wQ (p:=fL s i.toNat+(2+v.toNat)) (s':=jX s i.toNat v.toNat c) (h.ext e) B Ω Ω ?_ ?_ ?_ j).mono ?_
   .rw[q];refine C0 f Ω ?_;rw[show 2+v.toNat=v.toNat+1+1 by omega];rfl
   .rw[q];exact C6 f Ξ
   .rw[q];exact h.2.2.2.1.tt f Ξ (qV E j) hm
   .rintro r U _ G;exact⟨λh=>absurd a h,λ_ h=>absurd j h,λ_ _=>G.ext e⟩
  .refine (qW (h.ext e) (.inr j)).mono ?_;rintro r U _ ⟨rfl,y⟩;rw[if_neg Ω];exact⟨λh=>absurd a h,λ_ _=>⟨rfl,e.trans y⟩,λ_ h=>absurd h j⟩
 .rw[if_neg a];refine(qW (h.ext e) (.inl Ω)).mono ?_;rintro r U _ ⟨rfl,y⟩;rw[if_pos Ω];exact⟨λ_=>⟨rfl,e.trans y⟩,λh=>absurd h a,λh=>absurd h a⟩
theorem OO{aO:x3}(h:bH w ab ac A R n s t)(C:Room t)(E:aH .i64 w aO tl):ai x8 Ig [Γ ab,Δ (j:Int),aO,Δ c] w λr w'=>
  (iX s j tl=ν->r=Δ 1/\Ext w w')/\((iX s j tl).isSome=true->¬(0<=c/\c<=n.k)->r=Δ 3/\Ext w w')/\
  ((iX s j tl).isSome=true->(0<=c/\c<=n.k)->∀f (m:Nat),s.funs[j]?=σ f->ck f.ah tl 0=σ (m:Int)->mT w ab ac A R n (jY s j m c) t r w'):=by
 refine ay func207 ?_;refine(DL h E).mono ?_;rintro _ J _ ⟨rfl,e⟩;cases G:iX s j tl with
 |none=>
  simp only;refine(qW (h.ext e) (.inl Ω)).mono ?_;rintro r U _ ⟨rfl,x⟩;rw[if_pos Ω];exact⟨λ_=>⟨rfl,e.trans x⟩,λh=>by simp at h,λh=>by simp at h⟩
 |some p=>
  simp only;by_cases q:0<=c/\c<=n.k
  .obtain⟨K,f,a,L,m,hm,M,rfl⟩:=DM h.2.2.2.1 G;have N:=DH a;have y:jY s j m c={s with funs:=s.funs.set j {f with cs:=f.cs.set m c}}:=by unfold jY;rw[a]
   obtain⟨H,_⟩:=h.2.2.2.1.funs f (x6 a);refine(wQ (p:=fi s j+(m+1)) (s':=jY s j m c) (h.ext e) C rfl Ω ?_ ?_ ?_ q).mono ?_
   .rw[y];exact NE a Ω rfl
   .rw[y];exact NM a Ξ rfl rfl
   .rw[y];exact h.2.2.2.1.DN a rfl rfl Ξ (qV H.h3 q)
   .rintro r U _ I;refine⟨(λh=>by cases h),λ_ h=>absurd q h,λ_ _ O bV z B=>?_⟩;rw[a]at z;cases z;rw[hm]at B;have:bV=m:=by have:=Z0 B;omega
    subst this;exact I.ext e
  .refine (qW (h.ext e) (.inr q)).mono ?_;rintro r U _ ⟨rfl,x⟩;rw[if_neg Ω];exact⟨(λh=>by cases h),λ_ _=>⟨rfl,e.trans x⟩,λ_ h=>absurd h q⟩
end
def eV(of:Int->Int)(p:Int×Int)(v:Int):Int×Int:=if p.2= -1\/of v<p.1 then(of v,v)else p
def ds(k:Int)(l:Λ)(of:Int->Int):Int×Int:=l.foldl (eV of) (k,-1)
theorem mb{s:am}{n:aK}{i:Int}{b m:Nat}{x:bh}(h:tr s n i b m)(e:0<=i)(f:s.vars[i.toNat]?=σ x):(gD b m).map (λv:Nat=>(v:Int))=ax x:=by
 obtain⟨_,_,j⟩:=h;obtain⟨rfl,p⟩:=j x e f;unfold gD ax;rw[List.filter_map];congr 1;refine List.filter_congr λq a=>?_;have a:=List.mem_range.1 a;rw[p,decide_eq_true a,Bool.true_and];rfl
section
variable{w:x4}{ab ac:Nat}{A R:af}{n:aK}{s:am}{t:az}
def jZ(n:aK)(s:am)(i:Int):Bool:=decide (0<=i/\i<n.sizes.length)&& !dx s i.toNat
theorem OP{i:Int}(h:bH w ab ac A R n s t):ai x8 G8 [Γ ab,Δ i] w λv w'=>v=Δ (if jZ n s i=true then 0 else 1)/\Ext w w':=by
 refine ay func98 ?_;rw[da eh.u];simp only[Z6,aY];refine aW (λv J=>v= .bool (!jZ n s i)/\Ext w J) ?_ ?_
 .rintro _ J ⟨rfl,a⟩;rw[cj];refine⟨λj=>⟨by rw[if_neg (by simpa using j)],a⟩,λj=>⟨by rw[if_pos (by simpa using j)],a⟩⟩
 intro aw p;refine(tq h).mono ?_;rintro _ J _ ⟨rfl,a⟩;rw[cj];refine⟨λe=>p _ _ ⟨?_,a⟩,λe=>?_⟩
 .rw[U1]at e;unfold jZ;rw[e.2,Y9,Bool.and_false];rfl
 refine(jW (i:=i) (h.ext a)).mono ?_;rintro _ U _ ⟨⟨b,m,rfl,G,y,B⟩,C⟩;refine(vo (b:=b) (n:=m)).mono ?_;rintro _ H _ ⟨rfl,E⟩;rw[bb];refine p _ _ ⟨?_,(a.trans C).trans E⟩;congr 1;have I:=h.2.2.2.1.vars;unfold jZ;by_cases f:0<=i/\i<n.sizes.length
 .obtain⟨x,q⟩:=aD (l:=s.vars) (i:=i.toNat) Ω;obtain⟨z,r⟩:=aD (l:=n.sizes) (i:=i.toNat) Ω;have h1:=(h.2.2.2.1.var i.toNat x z q r).1;have K:=h.2.2.2.1.ef.2.2 z (x6 r);have hm:=(B x f.1 q).1;rw[decide_eq_true f.1,Bool.true_and]at e;rw[decide_eq_true f,e,decide_eq_false Ω];rfl
 .rw[decide_eq_false f,(y f).2];rfl
def DU(w:x4)(a:Nat)(cap:Array x3)(l:Λ)(of:Int->Int):Prop:=∀(w':x4)(v:Int),Ext w w'->v∈l->ai x8 a (Δ v::cap.toList) w' λr e=>r=Δ (of v)/\Ext w' e
theorem OQ{i:Int}{x:bh}{of:Int->Int}{E:Nat}{cap:Array x3}(h:bH w ab ac A R n s t)(N:Laid w)(aM:0<=i)(f:s.vars[i.toNat]?=σ x)(aN:DU w E cap (ax x) of):
  ai x8 G9 [Γ ab,Δ i,.func (.func E) #[] cap] w λr w'=>Ext w w'/\r= .tuple #[Δ (ds n.k (ax x) of).1,Δ (ds n.k (ax x) of).2]:=by
 refine iF func99 ?_;refine bk λap J bf O G=>?_;have G:ad J ap I4 [.func (.func E) #[] cap]:=G;refine(mR (h.ext O)).mono ?_;rintro _ U _ ⟨rfl,H⟩;refine bw ao.i λP bg bi aq au=>?_;refine bw ag.i λga bj bl Q av=>?_;have bm:=(O.trans H).size;have z3:=aq.size;have z4:=Q.size;refine bq (v:=Δ n.k) ao.i rfl rfl (au.ext Q) Φ λbn ay bo aO=>?_;have bp:=au.lt;have br:=av.lt;refine bq (v:=Δ (-1)) ag.i rfl rfl (av.aa ay Ω) Φ λaP az bt aQ=>?_;have aS:=aO.aa az Ω;have aA:Ext U aP:=((aq.trans Q).then ay λr a he=>by have he:r=P:=he;omega).put az Ω;have aB:=(O.trans H).trans aA;refine(jW (i:=i) (h.ext aB)).mono ?_;rintro _ bu _ ⟨⟨b,m,rfl,V⟩,aC⟩;refine(nJ (b:=b) (n:=m)).mono ?_;rintro _ W _ ⟨aT,a1,rfl,bx,X⟩;have bz:=V.1;have aD:=mb V aM f;have B:=aC.trans aT;have y:=aB.trans B;have bA:=y.size;have bB:=B.size;have bC:=G.lt;have bD:=aC.size;have z12:=H.size;obtain⟨S,I⟩:∃S:af,S=λr=>r=P\/r=ga:=⟨_,rfl⟩;have K:∀r,S r->w.heap.size<=r:=λr a=>by rw[I]at a;rcases a with rfl|rfl<;>omega
 have Y:∀r,S r->r≠ap/\r≠a1:=λr a=>by rw[I]at a;rcases a with rfl|rfl<;>omega
 let st:Nat->Int×Int:=λj=>((ax x).take j).foldl (eV of) (n.k,-1);have aU:=G.ext (H.trans (aA.trans B));refine kK.old ⟨_,false,jz,#[Γ a1],_,_,_,_,λj w'=>ae S W w'/\ad w' P ao [Δ (st j).1]/\ad w' ga ag [Δ (st j).2],λ_ _ _=>False,rfl,(nI (g:=a1) V.1).s,?_,
  λ_ _ f h=>⟨h.1.ext f,h.2.ext f⟩,λ_ _ _ f h=>⟨h.1.trans (f.aa S),h.2.1.ext f,h.2.2.ext f⟩,λ_ _ _ _ _ h=>h,⟨X,N.ext y⟩,⟨ae.refl _ _,aS.ext B,aQ.ext B⟩,?_,?_,λ_ _ h=>h.elim,λ_ _ _ h=>h.elim⟩
 .rintro _ _ _ _ ⟨_,_,_,_,rfl⟩;rfl
 .rintro _ j _ aV ⟨_,_⟩ ⟨bE,rfl,v,aX,aY⟩ ⟨z,L,M⟩;cases aY;intro Z p _ _;have aE:(ax x)[j]?=σ (v:Int):=by rw[<-aD,v8,aX];rfl
  have aG:st (j+1)=eV of (st j) v:=by
   show((ax x).take (j+1)).foldl _ _=_;rw[r8,aE,R5];rfl
  have aZ:Ext w Z:=((y.then z λr a h=>by have:=K r h;omega)).trans p;have a2:=(aU.aa z λh=>(Y _ h).1 rfl).ext p;rw[aF (v:=.func (.func E) #[] cap) Ψ (a2.Qz rfl)];refine ai.mono (aN Z v aZ (x6 aE)) ?_;rintro _ aH _ ⟨rfl,ah⟩;have ak:=p.trans ah;have al:=L.ext ak;have am:=M.ext ak;refine aW (λr an=>r= .bool (decide ((st j).2= -1\/of v<(st j).1))/\Ext aH an) ?_ ?_
  .rintro _ an ⟨rfl,C⟩;have aI:=ak.trans C;rw[aj];refine⟨λa6=>?_,λa7=>?_⟩
   .refine bq (v:=Δ (of v)) ao.i rfl rfl (al.ext C) Ξ λbF aJ bG a8=>?_;refine bq (v:=Δ (v:Int)) ag.i rfl rfl ((am.ext C).aa aJ Ω) Ξ λba aK bI bc=>?_;have bd:=a8.aa aK Ω;have q:ae S W ba:=((z.trans (aI.aa S)).trans (aJ.mono λr _ h=>by rw[I];exact .inl h)).trans (aK.mono λr _ h=>by rw[I];exact .inr h);have e:st (j+1)=(of v,(v:Int)):=by rw[aG];unfold eV;rw[if_pos a6]
    refine⟨⟨X.aa q λh=>(Y _ h).2 rfl,(N.ext (y.then q λr a h=>by have:=K r h;omega))⟩,⟨q,?_,?_⟩,λh=>by cases h⟩
    .rw[e];exact bd
    .rw[e];exact bc
   .have e:st (j+1)=st j:=by rw[aG];unfold eV;rw[if_neg a7]
    have q:ae S W an:=z.trans (aI.aa S);refine⟨⟨X.aa q λh=>(Y _ h).2 rfl,(N.ext (y.then q λr a h=>by have:=K r h;omega))⟩,⟨q,?_,?_⟩,λh=>by cases h⟩
    .rw[e];exact al.ext C
    .rw[e];exact am.ext C
  .intro aw aL;rw[aF (v:=Δ (st j).2) Ψ (am.Qz rfl),bb,aj];refine⟨λh1=>aL _ _ ⟨by rw[decide_eq_true (.inl h1)],Ext.refl _⟩,λh1=>?_⟩;rw[aF (v:=Δ (st j).1) Ψ (al.Qz rfl),aR];refine aL _ _ ⟨?_,Ext.refl _⟩;congr 1;exact decide_eq_decide.2 ⟨.inr,λh=>h.resolve_left h1⟩
 .rintro k aV rfl ⟨z,L,M⟩;intro Z p _ _;have be:st (gD b m).length=ds n.k (ax x) of:=by
   show((ax x).take _).foldl _ _=_;rw[j9 (by rw[<-aD,u7];exact o5 _)];rfl
  rw[be]at L M;rw[aF (v:=Δ (ds n.k (ax x) of).1) Ψ ((L.ext p).Qz rfl),aF (v:=Δ (ds n.k (ax x) of).2) Ψ ((M.ext p).Qz rfl)];intro aH ah _;exact⟨((y.then z λr a h=>by have:=K r h;omega).trans p).trans ah,rfl⟩
end
theorem DV{x:bh}(h:v∈ax x):0<=v/\v<x.un.length:=by
 unfold ax at h;obtain⟨h,_⟩:=List.mem_filter.1 h;obtain⟨q,a,rfl⟩:=j0.1 h;have:=List.mem_range.1 a;omega
theorem OR{s:am}{n:aK}{i:Int}{b m:Nat}{x:bh}(h:tr s n i b m)(f:0<=i)(j:s.vars[i.toNat]?=σ x):(decide (0<=v/\v<m)&&b.testBit v.toNat)=decide (v∈ax x):=by
 obtain⟨_,_,p⟩:=h;obtain⟨rfl,q⟩:=p x f j;by_cases a:0<=v/\v<x.un.length
 .rw[decide_eq_true a,Bool.true_and,q,decide_eq_true (show v.toNat<x.un.length by omega),Bool.true_and,show((v.toNat:Nat):Int)=v by omega];have:=DQ a;cases e:dropped x.mask v with
  |false=>rw[decide_eq_true (this.2 e)];rfl
  |true=>rw[decide_eq_false λh=>by rw[this.1 h]at e;cases e];rfl
 .rw[decide_eq_false a,decide_eq_false λh=>a (DV h)];rfl
def eB(n:aK)(s:am)(i v:Int):Int:=if eU n i v then gf s i.toNat v.toNat else 0
theorem tw{n:aK}{s:am}{i:Int}(a:bg n.k n.sizes s):0<=eB n s i v/\eB n s i v<=n.k:=by
 have hk:=a.fu;have p:=a.vars;unfold eB;split
 .rename_i h;obtain⟨x,e,f,_⟩:=h.var a;obtain⟨z,j⟩:∃z,n.sizes[i.toNat]?=σ z:=⟨_,x7 (by have:=(x5.1 e).1;omega)⟩;have:=(a.var i.toNat x z e j).2.1;unfold gf;rw[e];simp only;rw[u4,x7 f];exact this _ (Q3 f)
 .omega
section
variable{w:x4}{ab ac:Nat}{A R:af}{n:aK}{s:am}{t:az}
theorem OS{i:Int}(h:bH w ab ac A R n s t)(f:∀e w',Ext w w'->K (.tuple #[Δ (eB n s i v),Δ e]) w'):ai x8 uK [Γ ab,Δ i,Δ v] w K:=by
 refine(ob h).mono ?_;rintro _ J _ ⟨rfl,a⟩;have:=f;unfold eB at this;split
 .rename_i I;rw[if_pos I]at this;exact this 0 J a
 .rename_i I;rw[if_neg I]at this;exact this 1 J a
theorem OT{i:Int}(h:bH w ab ac A R n s t):ai x8 Ha [Γ ab,Δ i] w λr w'=>Ext w w'/\∃cap,r= .func (.func zd) #[] cap/\∀l,DU w' zd cap l (eB n s i):=by
 refine ay func100 ?_;refine bk λg1 J B x a=>?_;refine bk λy U C p f=>?_;rw[kV];have q:=x.trans p;refine⟨q,_,rfl,λl w' v j _=>?_⟩;refine ay func155 ?_;have a:ad J g1 eh [Γ ab]:=a;have f:ad U y ag [Δ i]:=f;rw[aF (v:=Γ ab) Ψ (((a.ext p).ext j).Qz rfl),aF (v:=Δ i) Ψ ((f.ext j).Qz rfl)];refine OS (h.ext (q.trans j)) λe E z=>?_;rw[bz,bA];exact⟨rfl,z⟩
theorem DW{i:Int}(f:bg n.k n.sizes s)(h:jZ n s i=true):0<=i/\∃x,s.vars[i.toNat]?=σ x/\x.gone=0:=by
 unfold jZ at h;rw[U1]at h;have h1:=of_decide_eq_true h.1;have j:=f.vars;obtain⟨x,e⟩:=aD (l:=s.vars) (i:=i.toNat) Ω;have a:=h.2;unfold dx at a;rw[e]at a;exact⟨h1.1,x,e,by simpa using a⟩
theorem OU{i:Int}(h:bH w ab ac A R n s t)(p:Laid w):ai x8 y2 [Γ ab,Δ i] w λr w'=>Ext w w'/\(jZ n s i=false->r= .tuple #[Δ 0,Δ (-1),Δ 1])/\
  ∀x,jZ n s i=true->s.vars[i.toNat]?=σ x->r= .tuple #[Δ (ds n.k (ax x) (eB n s i)).1,Δ (ds n.k (ax x) (eB n s i)).2,Δ 0]:=by
 refine ay func54 ?_;refine(OP h).mono ?_;rintro _ J _ ⟨rfl,a⟩;cases q:jZ n s i with
 |false=>
  rw[if_neg Φ,bK,aj];exact⟨λ_=>⟨a,λ_=>rfl,λ_ h=>by cases h⟩,λh=>absurd Φ h⟩
 |true=>
  obtain⟨y,x,f,_⟩:=DW h.2.2.2.1 q;rw[if_pos rfl,bK,aj];refine⟨λh=>absurd rfl h,λ_=>?_⟩;refine(OT (i:=i) (h.ext a)).mono ?_;rintro _ U _ ⟨z,cap,rfl,B⟩;have e:=a.trans z;refine(OQ (h.ext e) (p.ext e) y f (B _)).mono ?_;rintro _ E _ ⟨C,rfl⟩;rw[bz,bA];exact⟨e.trans C,(λh=>by cases h),λG _ j=>by rw[f]at j;cases j;rfl⟩
theorem wR{f:cK}(h:bH w ab ac A R n s t)(a:s.funs[j]?=σ f):ai x8 rT [Γ ab,Δ (j:Int)] w λr w'=>Ext w w'/\∃g,w.heap.size<=g/\aq .i64 ag w' g r f.sc:=by
 have I:=(x5.1 a).1;refine ay func205 ?_;refine aW (λv J=>v= .bool false/\Ext w J) ?_ ?_
 .rintro _ J ⟨rfl,e⟩;rw[aY];obtain⟨K,M,N,O,a1,P,L,Q,B,S,V,W,x,q⟩:=(h.ext e).1.parts;obtain⟨y,z⟩:∃y,L[j]?=σ y:=⟨_,x7 (by rw[q.1];omega)⟩;obtain⟨C,_,_⟩:=q.2 j y f z a;rw[aQ cG.p 3 B rfl,dE rfl fS.u fT.i x (by rw[q.1];omega),aS fT.p rfl,aF (v:=y.aL) Ψ (x.range z 0 _ rfl)];have X:f.sc.length<=6:=(h.2.2.2.1.funs f (x6 a)).1.scope.2;refine(jJ C.ls Ω).mono ?_;rintro v U _ ⟨E,g,Y,hm⟩;have:=e.size;exact⟨e.trans E,g,Ω,hm⟩
 intro aw G;rw[aR,aj];refine⟨λZ=>Ω,λ_=>?_⟩;refine(tp h).mono ?_;rintro _ aa _ ⟨rfl,H⟩;rw[cQ];exact G _ _ ⟨by rw[decide_eq_false Ω],H⟩
end
def bB(s:am)(i:Int):Λ:=match s.vars[i.toNat]? with
 |some x=>ax x
 |none=>[]
section
variable{ab ac:Nat}{A R:af}{n:aK}{s:am}{t:az}
end
def jp(s:am)(pos:Nat)(v:Int):Λ->Nat->List (Λ)
 |[],_=>[]
 |u::sc,p=>(if p=pos then[v]else bB s u)::jp s pos v sc (p+1)
def cm(s:am)(sc:Λ)(pos:Nat)(v:Int):List (Λ):=ix (jp s pos v sc 0)
def od(s:am)(pos:Nat)(v:Int):Λ->Nat->List (Int->Bool)
 |[],_=>[]
 |u::sc,p=>(λx=>(decide (p=pos->x=v))&&decide (x∈bB s u))::od s pos v sc (p+1)
theorem OV(h:0<=v/\v<k):(hj k).filter (λx=>decide (x=v))=[v]:=by
 have f:(hj k).Nodup:=by
  unfold hj;exact List.Pairwise.map _ (λa b s=>Ω) List.nodup_range
 have hm:v∈hj k:=qU.2 h;generalize hj k=l at f hm;induction l with
 |nil=>cases hm
 |cons a l p=>
  have j:=List.nodup_cons.1 f;by_cases e:a=v
  .subst e;rw[List.filter_cons_of_pos Ξ,List.filter_eq_nil_iff.2 λx q=>by simp;intro r;exact j.1 (r▸q)]
  .rw[List.filter_cons_of_neg (by simpa using e)];exact p j.2 ((V1.1 hm).resolve_left (S6 e))
section
variable{k:Int}{sizes:Λ}{s:am}{v:Int}{pos:Nat}
theorem OW{u:Int}(a:bg k sizes s)(h:0<=u/\u<sizes.length):(hj (sizes.getD u.toNat 0)).filter (λx=>decide (x∈bB s u))=bB s u:=by
 have w:=a.vars;obtain⟨x,j⟩:=aD (l:=s.vars) (i:=u.toNat) Ω;obtain⟨z,f⟩:=aD (l:=sizes) (i:=u.toNat) Ω;have h1:=(a.var _ x z j f).1;have e:bB s u=ax x:=by unfold bB;rw[j]
 have p:sizes.getD u.toNat 0=z:=by rw[u4,f];rfl
 have A:=a.ef.2.2 z (x6 f);have q:ax x=(hj z).filter λv=>!dropped x.mask v:=by unfold ax hj;rw[h1]
 rw[e,p,q];refine List.filter_congr λy r=>?_;simp[List.mem_filter,r]
theorem DX(r:bg k sizes s):∀(sc:Λ)(p:Nat),(∀u∈sc,0<=u/\u<sizes.length)->(∀u,p<=pos->sc[pos-p]?=σ u->v∈bB s u)->
  jp s pos v sc p=(((bI sizes sc).map hj).zip (od s pos v sc p)).map λq=>q.1.filter q.2
 |[],p,_,_=>rfl
 |u::sc,p,hu,w=>by
  have y:=DX r sc (p+1) (λu h=>hu u (.tail _ h)) λu' a h=>w u' Ω (by rw[show pos-p=(pos-(p+1))+1 by omega];exact h);have z:=hu u (.head _);have f:=OW (s:=s) r z;show(if p=pos then[v]else bB s u)::jp s pos v sc (p+1)=(hj (sizes.getD u.toNat 0)).filter (λx=>decide (p=pos->x=v)&&decide (x∈bB s u))::((((bI sizes sc).map hj).zip (od s pos v sc (p+1))).map λq=>q.1.filter q.2);rw[<-y];congr 1;by_cases a:p=pos
  .rw[if_pos a];have j:v∈bB s u:=w u Ω (by rw[a,U4];rfl);have A:v∈hj (sizes.getD u.toNat 0):=by rw[<-f]at j;exact(List.mem_filter.1 j).1
   rw[<-OV (qU.1 A)];refine List.filter_congr λx _=>?_;by_cases e:x=v
   .subst e;simp[j]
   .simp[e,a]
  .rw[if_neg a,<-f];refine(List.filter_congr λx B=>?_).symm;rw[f];simp[a]
theorem DY:∀(sc:Λ)(p:Nat),(od s pos v sc p).length=sc.length
 |[],_=>rfl
 |u::sc,p=>by unfold od;rw[Z5,DY sc (p+1),Z5]
theorem wS(a:bg k sizes s)(e:∀u∈sc,0<=u/\u<sizes.length)(f:∀u,sc[pos]?=σ u->v∈bB s u):
  cm s sc pos v=(bj (bI sizes sc)).filter (mS (od s pos v sc 0)):=by
 unfold cm;rw[DX a sc 0 e λu _ h=>f u h,DS _ _ (by rw[DY,u7];unfold bI;rw[u7]),tv]
end
theorem wT{k:Int}:∀(l:Λ)(z:Int),z<=k->(∀c∈l,0<=c)->l.foldl (λa c=>min (a+c) k) z=min (z+l.sum) k
 |[],z,h,_=>Θ
 |c::l,z,h,e=>by
  have I:∀(l:Λ),(∀c∈l,0<=c)->0<=l.sum:=λl=>by
   induction l with
   |nil=>intro _;simp
   |cons a l f=>intro h;have:=f λc e=>h c (.tail _ e);have:=h a (.head _);rw[List.sum_cons];omega
  have h1:=e c (.head _);have j:=I l λc h=>e c (.tail _ h);rw[T7,wT l _ Ω λc h=>e c (.tail _ h),List.sum_cons];omega
def dy(p:bh×Int):Int:=if p.1.gone≠0 then 0 else p.1.un.getD p.2.toNat 0
def fj(a:Λ)(f:cK):Int:=if f.live≠0 then bm f.ah f.cs (iS a f.sc)else 0
theorem foldl_map'{α β e:Type}(g:α->β)(h:e->β->e)(h':e->α->e)(P:e->Prop)(ap:∀c a,P c->h' c a=h c (g a))(f:∀c a,P c->P (h' c a)):∀(l:List α)(c:e),P c->l.foldl h' c=(l.map g).foldl h c
 |[],_,_=>rfl
 |a::l,c,j=>by
  rw[T7,T1,T7,<-ap c a j];exact foldl_map' g h h' P ap f l _ (f c a j)
theorem wU{i:Nat}{x:Int}(h:l[i]?=σ x):(l.set i y).sum=l.sum-x+y:=by
 induction l generalizing i with
 |nil=>simp at h
 |cons a l e=>
  cases i with
  |zero=>simp at h;subst h;rw[List.set_cons_zero,List.sum_cons,List.sum_cons];omega
  |succ i=>
   rw[List.set_cons_succ,List.sum_cons,List.sum_cons,e (by simpa using h)];omega
def dh(k a c:Int):Int:=if a=k then k else a-c
def cN(k a c:Int):Int:=min (a+c) k
theorem tx{r g u:Int}(a:0<=r)(e:c<=g/\g<=k)(hu:0<=u/\u<=k)(f:0<=c):min (r+dh k g c+cN k u c) k=min (r+g+u) k:=by
 unfold dh cN;split<;>omega
theorem oe:∀(l:Λ),(∀c∈l,0<=c)->0<=l.sum
 |[],_=>Ξ
 |a::l,h=>by have:=oe l λc e=>h c (.tail _ e);have:=h a (.head _);rw[List.sum_cons];omega
theorem qX:∀{l:Λ}{i:Nat}{x:Int},(∀c∈l,0<=c)->l[i]?=σ x->x<=l.sum
 |[],_,_,_,h=>by simp at h
 |a::l,0,x,e,h=>by
  simp at h;subst h;have:=oe l λc h=>e c (.tail _ h);rw[List.sum_cons];omega
 |a::l,i+1,x,e,h=>by
  have:=qX (λc h=>e c (.tail _ h)) (show l[i]?=σ x by simpa using h);have:=e a (.head _);rw[List.sum_cons];omega
theorem DZ{i:Nat}(hk:0<=k)(h:∀c∈l,0<=c/\c<=k):0<=l.getD i 0/\l.getD i 0<=k:=by
 rw[u4];cases a:l[i]? with
 |none=>exact⟨Q1 _,hk⟩
 |some c=>exact h c (x6 a)
theorem D0{f:Int->Int}{m:Int}(I:dP ah)(h:cs.length=(bj ah).length)(hi:ck ah t 0=σ m):bm ah (dF f L ah cs) t=if t∈L then f (bm ah cs t)else bm ah cs t:=by
 have a:=mE I hi;have j:=(x5.1 a).1;obtain⟨c,e⟩:=aD (l:=cs) (i:=m.toNat) Ω;have h1:=px (f:=f) (L:=L) a e;unfold bm;rw[hi];simp only;rw[u4,h1,u4,e,V2,V2]
section
variable{k:Int}{sizes a:Λ}{s:am}
theorem OX{i:Nat}{p:bh×Int}(e:bg k sizes s)(h:(s.vars.zip a)[i]?=σ p):0<=dy p/\dy p<=k:=by
 have hk:=e.fu;obtain⟨h1,_⟩:=List.getElem?_zip_eq_some.1 h;have f:=(x5.1 h1).1;have j:=e.vars;have:=e.var i p.1 _ h1 (x7 Ω);unfold dy;split
 .omega
 .exact DZ Ω this.2.1
theorem OY{f:cK}(e:bg k sizes s)(h:f∈s.funs):0<=fj a f/\fj a f<=k:=by
 have hk:=e.fu;have:=(e.funs f h).1.h3;unfold fj;split
 .exact (s6 e.fu λc j=>⟨e.fu,this c j⟩).2
 .omega
theorem qY(e:bg k sizes s):∀c∈(s.vars.zip a).map dy,0<=c:=λc f=>by
 obtain⟨p,h,rfl⟩:=j0.1 f;obtain⟨i,hi⟩:=X6.1 h;exact(OX e hi).1
theorem py(e:bg k sizes s):∀c∈s.funs.map (fj a),0<=c:=λc f=>by
 obtain⟨p,h,rfl⟩:=j0.1 f;exact(OY e h).1
theorem mU(e:bg k sizes s):er k s a=if(s.vars.zip a).all fM then min (s.zero+((s.vars.zip a).map dy).sum+(s.funs.map (fj a)).sum) k else k:=by
 have h1:(s.vars.zip a).foldl (kv k) s.zero=((s.vars.zip a).map dy).foldl (λx c=>min (x+c) k) s.zero:=by
  refine foldl_map' dy (λx c=>min (x+c) k) (kv k) (λc=>c<=k) (λc p f=>?_) (λc p f=>?_) _ _ e.zero.2
  .unfold kv dy;split
   .omega
   .rfl
  .unfold kv;split
   .exact f
   .omega
 have h:∀z,z<=k->s.funs.foldl (jT k a) z=(s.funs.map (fj a)).foldl (λx c=>min (x+c) k) z:=λz j=>by
  refine foldl_map' (fj a) (λx c=>min (x+c) k) (jT k a) (λc=>c<=k) (λc p f=>?_) (λc p f=>?_) _ _ j
  .unfold jT fj;split
   .rfl
   .omega
  .unfold jT;split
   .omega
   .exact f
 unfold er;split
 .rw[h1,wT _ _ e.zero.2 (qY e),h _ Ω,wT _ _ Ω (py e)];have:=oe _ (py (a:=a) e);omega
 .rfl
theorem tz{α β:Type}:∀{l:List α}{m:List β}{i:Nat}{x:α}{y:β},m[i]?=σ y->(l.set i x).zip m=(l.zip m).set i (x,y)
 |[],_,_,_,_,_=>Ξ
 |_::_,[],_,_,_,h=>by simp at h
 |a::l,b::m,0,x,y,h=>by simp at h;subst h;rfl
 |a::l,b::m,i+1,x,y,h=>by
  rw[List.set_cons_succ,List.zip_cons_cons,List.zip_cons_cons,List.set_cons_succ,tz (by simpa using h)]
theorem tA{α:Type}{q:α->Bool}:∀{l:List α}{i:Nat}{x y:α},l[i]?=σ x->q y=q x->(l.set i y).all q=l.all q
 |[],_,_,_,h,_=>by simp at h
 |a::l,0,x,y,h,e=>by simp at h;subst h;rw[List.set_cons_zero,List.all_cons,List.all_cons,e]
 |a::l,i+1,x,y,h,e=>by rw[List.set_cons_succ,List.all_cons,List.all_cons,tA (by simpa using h) e]
def ev(s:am)(u:Nat)(x:bh)(un:Λ):am:={s with vars:=s.vars.set u {x with un:=un}}
def dG(s:am)(j:Nat)(f:cK)(cs:Λ):am:={s with funs:=s.funs.set j {f with cs:=cs}}
theorem wV{u:Nat}{x:bh}{un:Λ}(a:bg k sizes s)(e:s.vars[u]?=σ x)(f:un.length=x.un.length)(h:∀c∈un,0<=c/\c<=k):bg k sizes (ev s u x un):=by
 have j:=(x5.1 e).1;have p:=a.vars;have h1:=a.var u x _ e (x7 Ω);exact a.tt e f h h1.2.2
theorem D1{f:cK}(a:bg k sizes s)(e:s.funs[j]?=σ f)(h:cs.length=f.cs.length)(p:∀c∈cs,0<=c/\c<=k):bg k sizes (dG s j f cs):=a.DN e rfl rfl h p
theorem OZ{u:Nat}{x:bh}{f:cK}{un:Λ}{a8:Int}(e:bg k sizes s)(w:s.vars[u]?=σ x)(p:s.funs[j]?=σ f)(z:un.length=x.un.length)(A:∀c∈un,0<=c/\c<=k)(B:cs.length=f.cs.length)(C:∀c∈cs,0<=c/\c<=k)(y:a[u]?=σ a8)(h:(s.vars.zip a).all fM=true->∀r,0<=r->min (r+fj a {f with cs:=cs}+dy ({x with un:=un},a8)) k=min (r+fj a f+dy (x,a8)) k):er k (ev (dG s j f cs) u x un) a=er k s a:=by
 have E:=D1 e p B C;have F:bg k sizes (ev (dG s j f cs) u x un):=wV E w z A;rw[mU F,mU e];have q:(s.vars.zip a)[u]?=σ (x,a8):=List.getElem?_zip_eq_some.2 ⟨w,y⟩;have G:((ev (dG s j f cs) u x un).vars.zip a)=(s.vars.zip a).set u ({x with un:=un},a8):=tz y;have H:((s.vars.zip a).set u ({x with un:=un},a8)).all fM=(s.vars.zip a).all fM:=tA q rfl;rw[G,H];split
 .rename_i I;have J:(((s.vars.zip a).set u ({x with un:=un},a8)).map dy).sum=((s.vars.zip a).map dy).sum-dy (x,a8)+dy ({x with un:=un},a8):=by
   rw[U5];exact wU (by rw[v8,q];rfl)
  have K:((ev (dG s j f cs) u x un).funs.map (fj a)).sum=(s.funs.map (fj a)).sum-fj a f+fj a {f with cs:=cs}:=by
   show((s.funs.set j {f with cs:=cs}).map (fj a)).sum=_;rw[U5];exact wU (by rw[v8,p];rfl)
  have h1:=qX (qY (a:=a) e) (i:=u) (x:=dy (x,a8)) (by rw[v8,q];rfl);have L:=qX (py (a:=a) e) (i:=j) (x:=fj a f) (by rw[v8,p];rfl);have M:=e.zero.1;have N:=h I (s.zero+(((s.vars.zip a).map dy).sum-dy (x,a8))+((s.funs.map (fj a)).sum-fj a f)) Ω;rw[J,K];show min (s.zero+_+_) k=_;omega
 .rfl
end
theorem wW{s:am}{pos:Nat}{v:Int}:∀(sc:Λ)(p q:Nat),(jp s pos v sc p)[q]?=(sc[q]?).map λu=>if p+q=pos then[v]else bB s u
 |[],_,q=>by simp[jp]
 |u::sc,p,0=>by simp[jp]
 |u::sc,p,q+1=>by
  unfold jp;rw[List.getElem?_cons_succ,List.getElem?_cons_succ,wW sc (p+1) q,show p+1+q=p+(q+1) by omega]
theorem D2{s:am}{pos:Nat}{v:Int}:∀(sc:Λ)(p:Nat),(jp s pos v sc p).length=sc.length
 |[],_=>rfl
 |u::sc,p=>by unfold jp;rw[Z5,D2 sc (p+1),Z5]
theorem wX{s:am}:t∈cm s sc pos v↔t.length=sc.length/\∀(p:Nat)u w,sc[p]?=σ u->t[p]?=σ w->if p=pos then w=v else w∈bB s u:=by
 unfold cm;rw[qT,D2];refine and_congr_right λ_=>⟨λh p u w hu hw=>?_,λh p d w a hw=>?_⟩
 .have:w∈if 0+p=pos then[v]else bB s u:=h p _ w (by rw[wW,hu];rfl) hw;rw[X3]at this;split
  .rename_i e;rw[if_pos e]at this;exact j4.1 this
  .rename_i e;rw[if_neg e]at this;exact this
 .rw[wW]at a;cases hu:sc[p]? with
  |none=>rw[hu]at a;cases a
  |some u=>
   rw[hu]at a;have a:(if 0+p=pos then[v]else bB s u)=d:=Z0 a;subst a;have:=h p u w hu hw;rw[X3];split
   .rename_i e;rw[if_pos e]at this;exact j4.2 this
   .rename_i e;rw[if_neg e]at this;exact this
theorem fd{x:bh}:v∈ax x↔(0<=v/\v<x.un.length)/\dropped x.mask v=false:=by
 unfold ax;rw[List.mem_filter];refine and_congr ?_ Ξ;have:=qU (k:=(x.un.length:Int)) (v:=v);unfold hj at this;rw[u9]at this;exact this
theorem D3{f:Int->Int}(I:dP ah)(q:∀c∈cs,0<=c/\c<=k)(r:∀t∈L,0<=f (bm ah cs t)/\f (bm ah cs t)<=k):∀c∈dF f L ah cs,0<=c/\c<=k:=λc a=>by
 unfold dF at a;obtain⟨p,s,rfl⟩:=j0.1 a;obtain⟨i,hi⟩:=X6.1 s;obtain⟨h1,h⟩:=List.getElem?_zip_eq_some.1 hi;split
 .rename_i w;have j:=r p.1 w;have e:bm ah cs p.1=p.2:=by
   unfold bm;rw[jl I h1];simp only;rw[u9,u4,h];rfl
  rw[e]at j;exact j
 .exact q _ (x6 h)
section
variable{k:Int}{sizes a:Λ}{s:am}
def iY(s:am)(j:Nat)(f:cK)(pos u:Nat)(x:bh)(v:Int)(tup un:Int->Int):am:=
 ev (dG s j f (dF tup (cm s f.sc pos v) f.ah f.cs)) u x (x.un.set v.toNat (un (x.un.getD v.toNat 0)))
theorem kB{f:cK}(e:bg k sizes s)(q:f∈s.funs):dP f.ah/\f.cs.length=(bj f.ah).length:=by
 obtain⟨a,h,_⟩:=e.funs f q;have j:dP f.ah:=by rw[h];exact nT e.ef.2.2 λv p=>⟨(a.scope.1 v p).1,a.vars v p⟩
 refine⟨j,?_⟩;have h1:=a.len;rw[jj j,h];exact h1
theorem D4{u:Nat}{f:cK}{x:bh}{tup un:Int->Int}(a:bg k sizes s)(e:s.funs[j]?=σ f)(h:s.vars[u]?=σ x)(p:∀t∈cm s f.sc pos v,0<=tup (bm f.ah f.cs t)/\tup (bm f.ah f.cs t)<=k)(q:0<=un (x.un.getD v.toNat 0)/\un (x.un.getD v.toNat 0)<=k):bg k sizes (iY s j f pos u x v tup un):=by
 obtain⟨r,y⟩:=kB a (x6 e);have w:=(a.funs f (x6 e)).1;have z:=(x5.1 h).1;have A:=a.vars;have h1:=a.var u x _ h (x7 Ω);exact wV (D1 a e (oc _ _ _ _ Ω) (D3 r w.h3 p)) h (by rw[Z9]) (qV h1.2.1 q)
theorem D5{u:Nat}{f:cK}{x:bh}{tup un:Int->Int}(p:bg k sizes s)(Q:gP s a)(G:s.funs[j]?=σ f)(R:f.live≠0)(hu:f.sc[pos]?=σ (u:Int))(B:s.vars[u]?=σ x)(Y:v∈ax x)(S:∀w∈f.sc,∀y,s.vars[w.toNat]?=σ y->y.gone=0)(Z:∀t∈cm s f.sc pos v,0<=tup (bm f.ah f.cs t)/\tup (bm f.ah f.cs t)<=k)(aa:0<=un (x.un.getD v.toNat 0)/\un (x.un.getD v.toNat 0)<=k)(ab:∀t∈cm s f.sc pos v,∀r,0<=r->min (r+tup (bm f.ah f.cs t)+un (x.un.getD v.toNat 0)) k=min (r+bm f.ah f.cs t+x.un.getD v.toNat 0) k):
  er k (iY s j f pos u x v tup un) a=er k s a:=by
 obtain⟨H,ac⟩:=kB p (x6 G);obtain⟨I,T,_⟩:=p.funs f (x6 G);have au:=(x5.1 B).1;have av:=p.vars;have h1:=p.var u x _ B (x7 Ω);have aw:=Q.1;obtain⟨a8,U⟩:=aD (l:=a) (i:=u) Ω;refine OZ p B G (by rw[Z9]) (qV h1.2.1 aa) (oc _ _ _ _ Ω) (D3 H I.h3 Z) U λad r ae=>?_;have V:x.gone=0:=S u (x6 hu) x (by rw[u9];exact B);obtain⟨tl,C⟩:∃tl,tl=iS a f.sc:=⟨_,rfl⟩;have J:∀(q:Nat)w,f.sc[q]?=σ w->∃y,s.vars[w.toNat]?=σ y/\tl[q]?=σ (a.getD w.toNat 0)/\a.getD w.toNat 0∈ax y/\f.ah[q]?=σ (y.un.length:Int):=λq w hw=>by
  have hm:=x6 hw;have ay:=(I.scope.1 w hm).1;have az:=I.vars w hm;obtain⟨y,h⟩:=aD (l:=s.vars) (i:=w.toNat) Ω;obtain⟨z,K⟩:=aD (l:=sizes) (i:=w.toNat) Ω;obtain⟨L,M⟩:=aD (l:=a) (i:=w.toNat) Ω;have af:=S w hm y h;have aA:=(p.var _ y z h K).1;have aB:=p.ef.2.2 z (x6 K);have e:a.getD w.toNat 0=L:=by rw[u4,M];rfl
  have W:=List.all_eq_true.1 ad (y,L) (x6 (List.getElem?_zip_eq_some.2 ⟨h,M⟩));have ag:=(Q.2 _ y L h M).resolve_left Ω;refine⟨y,h,by rw[C];unfold iS;rw[v8,hw];rfl,?_,?_⟩
  .rw[e,fd];refine⟨ag,?_⟩;unfold fM at W;simpa[af]using W
  .rw[T];unfold bI;rw[v8,hw,Z7,u4,K,V2];congr 1;omega
 have ai:tl.length=f.sc.length:=by rw[C];unfold iS;rw[u7]
 have aC:f.ah.length=f.sc.length:=by rw[T];unfold bI;rw[u7]
 obtain⟨m,hm⟩:∃m,ck f.ah tl 0=σ m:=by
  have:tl∈bj f.ah:=by
   rw[tv,qT];refine⟨by rw[u7];omega,λq d w X hw=>?_⟩;obtain⟨b,A⟩:=aD (l:=f.sc) (i:=q) (by have:=(x5.1 hw).1;omega);obtain⟨y,_,N,O,aj⟩:=J q b A;rw[v8,aj]at X;cases X;rw[N]at hw;cases hw;exact qU.2 (fd.1 O).1
  obtain⟨i,hi⟩:=X6.1 this;exact⟨_,jl H hi⟩
 have ak:fj a f=bm f.ah f.cs tl:=by unfold fj;rw[if_pos R,C]
 have al:fj a {f with cs:=dF tup (cm s f.sc pos v) f.ah f.cs}=if tl∈cm s f.sc pos v then tup (bm f.ah f.cs tl)else bm f.ah f.cs tl:=by
  rw[<-D0 H ac hm,C];unfold fj;rw[if_pos R]
 have am:dy (x,a8)=x.un.getD a8.toNat 0:=by unfold dy;rw[if_neg (by simp[V])]
 have an:dy ({x with un:=x.un.set v.toNat (un (x.un.getD v.toNat 0))},a8)=(x.un.set v.toNat (un (x.un.getD v.toNat 0))).getD a8.toNat 0:=by unfold dy;rw[if_neg (by simp[V])]
 obtain⟨y,h,E,P,_⟩:=J pos _ hu;rw[u9]at h E P;rw[B]at h;cases h;have ao:a.getD u 0=a8:=by rw[u4,U];rfl
 rw[ao]at E P;have aE:=(fd.1 Y).1;have aF:=(fd.1 P).1;rw[ak,al,am,an];by_cases he:a8=v
 .subst he;have F:tl∈cm s f.sc pos a8:=wX.2 ⟨ai,λq w b hw A=>by
   obtain⟨aG,ap,N,O,_⟩:=J q w hw;split
   .rename_i aq;subst aq;rw[E]at A;exact(Z0 A).symm
   .rw[N]at A;cases A;unfold bB;rw[ap];exact O⟩
  rw[if_pos F,u4 (l:=x.un.set _ _),c9 Ω,V2];exact ab tl F r ae
 .have F:tl∉cm s f.sc pos v:=λhm=>by
   have:=(wX.1 hm).2 pos _ a8 hu E;rw[if_pos rfl]at this;exact he this
  rw[if_neg F,u4 (l:=x.un.set _ _),Y5 Ω,<-u4]
end
def dZ(g:Int->Int)(un L:Λ):Λ:=L.foldl (λun v=>un.set v.toNat (g (un.getD v.toNat 0))) un
theorem qZ{g:Int->Int}:∀(L un:Λ),(dZ g un L).length=un.length
 |[],_=>rfl
 |v::L,un=>by
  unfold dZ;rw[T7];have:=qZ (g:=g) L (un.set v.toNat (g (un.getD v.toNat 0)));unfold dZ at this;rw[this,Z9]
theorem tB{g:Int->Int}:∀(L un:Λ)(w:Int),L.Nodup->(∀v∈L,0<=v/\v<un.length)->0<=w->(dZ g un L).getD w.toNat 0=if w∈L then g (un.getD w.toNat 0)else un.getD w.toNat 0
 |[],un,w,_,_,_=>by simp[dZ]
 |v::L,un,w,j,a,hw=>by
  obtain⟨h1,p⟩:=List.nodup_cons.1 j;have r:=a v (.head _);have q:=tB (g:=g) L (un.set v.toNat (g (un.getD v.toNat 0))) w p (λu hu=>by rw[Z9];exact a u (.tail _ hu)) hw;have e:dZ g un (v::L)=dZ g (un.set v.toNat (g (un.getD v.toNat 0))) L:=rfl;rw[e,q];by_cases f:w=v
  .subst f;have I:(un.set w.toNat (g (un.getD w.toNat 0))).getD w.toNat 0=g (un.getD w.toNat 0):=by
    rw[u4 (l:=un.set _ _),c9 Ω];rfl
   rw[if_neg h1,if_pos (.head _),I]
  .have I:(un.set v.toNat (g (un.getD v.toNat 0))).getD w.toNat 0=un.getD w.toNat 0:=by
    rw[u4 (l:=un.set _ _),Y5 Ω,<-u4]
   rw[I];by_cases hm:w∈L
   .rw[if_pos hm,if_pos (.tail _ hm)]
   .rw[if_neg hm,if_neg λh=>(V1.1 h).elim f hm]
theorem q0(x:bh):(ax x).Nodup:=by
 unfold ax;refine List.Nodup.sublist List.filter_sublist ?_;exact List.Pairwise.map _ (λa b e=>Ω) List.nodup_range
theorem D6{k:Int}{g:Int->Int}:∀(L un:Λ),(∀c∈un,0<=c/\c<=k)->L.Nodup->(∀v∈L,0<=v/\v<un.length)->(∀v∈L,0<=g (un.getD v.toNat 0)/\g (un.getD v.toNat 0)<=k)->∀c∈dZ g un L,0<=c/\c<=k
 |[],un,h,_,_,_,c,a=>h c a
 |v::L,un,h,p,f,j,c,a=>by
  obtain⟨h1,q⟩:=List.nodup_cons.1 p;have r:=f v (.head _);refine D6 (g:=g) L (un.set v.toNat (g (un.getD v.toNat 0))) (qV h (j v (.head _))) q (λu hu=>by rw[Z9];exact f u (.tail _ hu)) (λu hu=>?_) c a;have s:u≠v:=λe=>h1 (e▸hu);have w:=f u (.tail _ hu);rw[u4 (l:=un.set _ _),Y5 Ω,<-u4];exact j u (.tail _ hu)
section
variable{k:Int}{sizes a:Λ}{s:am}
def hl(s:am)(u:Nat)(x:bh)(g z:Int->Int):am:={ev s u x (dZ g x.un (ax x))with zero:=z s.zero}
theorem bg.O0(a:bg k sizes s)(h:0<=c/\c<=k):bg k sizes {s with zero:=c}:=⟨a.fu,a.ef,h,a.vars,a.var,a.funs⟩
theorem wY{u:Nat}{x:bh}{g z:Int->Int}(a:bg k sizes s)(e:s.vars[u]?=σ x)(f:∀v∈ax x,0<=g (x.un.getD v.toNat 0)/\g (x.un.getD v.toNat 0)<=k)(h:0<=z s.zero/\z s.zero<=k):bg k sizes (hl s u x g z):=by
 have p:=(x5.1 e).1;have q:=a.vars;have h1:=a.var u x _ e (x7 Ω);exact(wV a e (qZ _ _) (D6 _ _ h1.2.1 (q0 x) (λv j=>(fd.1 j).1) f)).O0 h
theorem D7{u:Nat}{x:bh}{g z:Int->Int}(e:bg k sizes s)(q:gP s a)(f:s.vars[u]?=σ x)(j:x.gone=0)(C:∀v∈ax x,0<=g (x.un.getD v.toNat 0)/\g (x.un.getD v.toNat 0)<=k)(E:0<=z s.zero/\z s.zero<=k)(F:∀v∈ax x,∀r,0<=r->min (r+g (x.un.getD v.toNat 0)+z s.zero) k=min (r+x.un.getD v.toNat 0+s.zero) k):er k (hl s u x g z) a=er k s a:=by
 have G:=wY e f C E;have O:=(x5.1 f).1;have P:=e.vars;have Q:=q.1;obtain⟨a8,p⟩:=aD (l:=a) (i:=u) Ω;rw[mU G,mU e];have h:(s.vars.zip a)[u]?=σ (x,a8):=List.getElem?_zip_eq_some.2 ⟨f,p⟩;obtain⟨un,w⟩:∃un,un=dZ g x.un (ax x):=⟨_,rfl⟩;have H:((hl s u x g z).vars.zip a)=(s.vars.zip a).set u ({x with un:=un},a8):=by rw[w];exact tz p
 have I:((s.vars.zip a).set u ({x with un:=un},a8)).all fM=(s.vars.zip a).all fM:=tA h rfl;rw[H,I];split
 .rename_i J;have K:(((s.vars.zip a).set u ({x with un:=un},a8)).map dy).sum=((s.vars.zip a).map dy).sum-dy (x,a8)+dy ({x with un:=un},a8):=by
   rw[U5];exact wU (by rw[v8,h];rfl)
  have h1:=qX (qY (a:=a) e) (i:=u) (x:=dy (x,a8)) (by rw[v8,h];rfl);have R:=oe _ (py (a:=a) e);have y:=List.all_eq_true.1 J (x,a8) (x6 h);have A:=(q.2 _ x a8 f p).resolve_left Ω;have B:a8∈ax x:=by
   rw[fd];refine⟨A,?_⟩;unfold fM at y;simpa[j]using y
  have L:dy (x,a8)=x.un.getD a8.toNat 0:=by unfold dy;rw[if_neg (by simp[j])]
  have M:dy ({x with un:=un},a8)=g (x.un.getD a8.toNat 0):=by
   unfold dy;rw[if_neg (by simp[j])];show un.getD a8.toNat 0=_;rw[w,tB _ _ _ (q0 x) (λv N=>(fd.1 N).1) A.1,if_pos B]
  rw[K,M];rw[L]at h1 ⊢;have S:=F a8 B (((s.vars.zip a).map dy).sum-x.un.getD a8.toNat 0+(s.funs.map (fj a)).sum) Ω;show min (z s.zero+_+(s.funs.map (fj a)).sum) k=_;omega
 .rfl
theorem wZ{m:Nat}{w:Int}(a:0<=v)(hw:0<=w):dropped ((m ||| 2 ^ v.toNat:Nat):Int) w=(dropped (m:Int) w||decide (w=v)):=by
 unfold dropped;rw[u9,u9,Nat.testBit_or,Nat.testBit_two_pow];congr 1;exact decide_eq_decide.2 ⟨λh=>Ω,λh=>Ω⟩
theorem jq{i:Nat}{x:bh}(a:s.vars[i]?=σ x):dM s i v.toNat={s with vars:=s.vars.set i {x with mask:=((x.mask.toNat ||| 2 ^ v.toNat:Nat):Int)}}:=by
 unfold dM;rw[a]
theorem w1{i:Nat}{x:bh}(a:bg k sizes s)(e:s.vars[i]?=σ x)(j:0<=v/\v<x.un.length):bg k sizes (dM s i v.toNat):=by
 rw[jq e];have p:=(x5.1 e).1;have q:=a.vars;have h1:=a.var i x _ e (x7 Ω);have r:=a.ef.2.2 _ (Q3 (l:=sizes) (n:=i) Ω);refine a.tt e rfl h1.2.1 ⟨by simp only;omega,?_⟩;have f:x.mask.toNat<2 ^ 32:=by have:=h1.2.2;omega
 have h:2 ^ v.toNat<2 ^ 32:=Nat.pow_lt_pow_right Ω Ω;have:=Nat.or_lt_two_pow f h;simp only;omega
theorem D8{i:Nat}{a8:Int}{x:bh}(j:bg k sizes s)(C:gP s a)(f:s.vars[i]?=σ x)(E:x.gone=0)(z:0<=v/\v<x.un.length)(p:a[i]?=σ a8):er k (dM s i v.toNat) a=if a8=v then k else er k s a:=by
 have F:=w1 j f z;rw[mU F,mU j];have r:(s.vars.zip a)[i]?=σ (x,a8):=List.getElem?_zip_eq_some.2 ⟨f,p⟩;have G:=(C.2 _ x a8 f p).resolve_left Ω;obtain⟨y,w⟩:∃y:bh,y={x with mask:=((x.mask.toNat ||| 2 ^ v.toNat:Nat):Int)}:=⟨_,rfl⟩;have H:((dM s i v.toNat).vars.zip a)=(s.vars.zip a).set i (y,a8):=by rw[jq f,w];exact tz p
 have A:(dM s i v.toNat).zero=s.zero/\(dM s i v.toNat).funs=s.funs:=by rw[jq f];exact⟨rfl,rfl⟩
 have B:fM (y,a8)=(fM (x,a8)&&decide (a8≠v)):=by
  unfold fM;rw[w];simp only[E];rw[wZ z.1 G.1];have hm:((x.mask.toNat:Nat):Int)=x.mask:=by
   have N:=(x5.1 f).1;have O:=j.vars;have h1:=j.var i x _ f (x7 Ω);omega
  rw[hm];by_cases e:a8=v
  .simp[e]
  .simp[e]
 rw[H,A.1,A.2];by_cases e:a8=v
 .rw[if_pos e,if_neg];intro I;have:=List.all_eq_true.1 I (y,a8) (x6 (c9 (x5.1 r).1));rw[B]at this;simp[e]at this
 .have J:((s.vars.zip a).set i (y,a8)).all fM=(s.vars.zip a).all fM:=tA r (by rw[B];simp[e]);have K:((s.vars.zip a).set i (y,a8)).map dy=(s.vars.zip a).map dy:=by
   rw[U5];have L:dy (y,a8)=dy (x,a8):=by rw[w];rfl
   rw[L];refine Y7 λq=>?_;rw[X1];split
   .rename_i M;subst M;split
    .rw[v8,r];rfl
    .rename_i h;rw[Y4 Ω]
   .rfl
  rw[if_neg e,J,K]
theorem D9{i:Nat}{a8:Int}{x:bh}(h:gP s a)(e:s.vars[i]?=σ x)(j:x.gone=0)(f:a[i]?=σ a8)(p:a8∉ax x):er k s a=k:=by
 have q:=(h.2 _ x a8 e f).resolve_left Ω;unfold er;rw[if_neg];intro r;have:=List.all_eq_true.1 r (x,a8) (x6 (List.getElem?_zip_eq_some.2 ⟨e,f⟩));unfold fM at this;have w:dropped x.mask a8=false:=by simpa[j]using this
 exact p (fd.2 ⟨q,w⟩)
end
end Go.Proofs.YtikkpokkcdocoaaGreatDoor
namespace Go.Vc
open Go Go.RowKit
section
variable{P:W9}{w:x4}{α:Type}[ak α]{S R:af}
theorem Ea{k:Nat}{vs:List (List x3)}{i:Nat}{c:List x3}(h:∀x∈vs,x.length=k)(e:c.length=k)(hi:i<vs.length):over vs.flatten (i*k) c=(vs.set i c).flatten:=by
 have:=vG (f:=id) (k:=k) (L:=vs) (i:=i) (a:=c) h e hi;rw[List.flatMap_id,List.flatMap_id]at this;exact this
theorem O1{v:x3}{l:List α}{i:Nat}(h:bl S R w [v] l)(T:i<l.length):∃g cap full p,v= .slice (σ ⟨g,0,ν⟩) l.length cap/\ad w g p full/\S g/\i*ak.n α+ak.n α<=full.length/\
  ∀{A:af}{cs:List x3}{a:α},bl A R w cs a->(∀r,r<w.heap.size->S r->¬A r/\¬R r)->∀w',ae (λr=>r=g) w w'->ad w' g p (over full (i*ak.n α) cs)->bl (λr=>S r\/A r) R w' [v] (l.set i a):=by
 obtain⟨vs,g,F,s,he,I,hm⟩:=ie h;obtain⟨U,p,V⟩:=hm rfl;obtain⟨ah,⟨rfl,ai⟩|⟨cap,full,rfl,E,H,W,J,X⟩⟩:=id V
 .omega
 have K:vs.length=l.length:=he.1;have Y:(i+1)*ak.n α<=l.length*ak.n α:=W0 _ T;have Z:l.length*ak.n α<=full.length:=by rw[J];exact W0 _ H
 rw[U7,Nat.one_mul]at Y;have y:S g:=U.resolve_left Ξ;refine⟨g,cap,full,p,rfl,E,y,Ω,λ{A cs a}L z w' M ab=>?_⟩;have N:=ak.len L;have O:¬A g:=(z g E.lt y).1;have P:¬R g:=(z g E.lt y).2;have ac:∀c∈vs.set i cs,c.length=ak.n α:=λc x=>by
  rcases W5 x with e|rfl
  .exact he.len c e
  .exact N
 have Q:bW w' g p (ak.n α) (.slice (σ ⟨g,0,ν⟩) l.length cap) (l.set i a).length (vs.set i cs).flatten:=by
  refine⟨by rw[p7 ac,Z9,Z9,K],.inr ⟨cap,_,by rw[Z9],ab,by rw[Z9];exact H,W,by rw[lU,J],?_⟩⟩;rw[Z9,sF Ω Z,X,Ea he.len N Ω]
 refine⟨_,rfl,vs.set i cs,g,λj r=>if j=i then A r/\r<w.heap.size else F j r/\r<w.heap.size,⟨λj r f=>?_,λ_ j f=>?_,λ_ j q r ag h1 e=>?_⟩,⟨by simp[K],λj c a' x B=>?_⟩,?_,λ_=>⟨.inr (.inl y),p,Q⟩⟩
 .split at f
  .exact .inr f.1
  .exact .inl (s.sub j r f.1)
 .split at f
  .exact O f.1
  .exact s.top rfl j f.1
 .split at h1<;>split at e
  .omega
  .exact (z r e.2 (s.sub q r e.1)).1 h1.1
  .exact (z r h1.2 (s.sub j r h1.1)).1 e.1
  .exact s.gL rfl j q r ag h1.1 e.1
 .by_cases C:j=i
  .subst C;rw[c9 Ω]at x B;cases x;cases B;have G:bl (λr=>if j=j then A r/\r<w.heap.size else F j r/\r<w.heap.size) R w cs a:=ak.mono L (λr f h=>by rw[if_pos rfl];exact⟨h,f⟩) λ_ _ h=>h;refine ak.aa G M λr f h1 e=>?_;have e:r=g:=e;subst e;rcases h1 with h1|h1
   .simp only[if_true]at h1;exact O h1.1
   .exact P h1
  .rw[Y5 (S6 C)]at x B;have G:bl (λr=>if j=i then A r/\r<w.heap.size else F j r/\r<w.heap.size) R w c a':=ak.mono (he.2 j c a' x B) (λr f h=>by rw[if_neg C];exact⟨h,f⟩) λ_ _ h=>h;refine ak.aa G M λr f h1 e=>?_;have e:r=g:=e;subst e;rcases h1 with h1|h1
   .simp only[if_neg C]at h1;exact s.top rfl j h1.1
   .exact P h1
 .have:=nC (S:=λr=>(S r\/A r)\/R r) Q (.inr (.inl (.inl y)));exact this
theorem Eb{t:r9}{C:o9}{i b:Nat}{v x:x3}{l:List α}{a:α}{A:af}{K:Unit->x4->Prop}(j:ak.n α=1)(E:y=(i:Int))(F:P.underlying t=σ (.slice e))(hi:aP P e 1 b z)(h:bl S R w [v] l)(q:i<l.length)(G:x.cells= #[x])(s:bl A R w [x] a)(H:∀r,r<w.heap.size->S r->¬A r/\¬R r)(I:∀w',ae S w w'->bl (λr=>S r\/A r) R w' [v] (l.set i a)->K () w'):V P (j5 t v (.int C y)) w λp=>aC P (o8 e p x) w K:=by
 subst E;obtain⟨g,cap,full,Q,rfl,J,L,M,N⟩:=O1 h q;rw[j]at M;rw[eL F hi q λ_=>rfl];refine bq (o:=0+i*1) hi G (ak.one s x (.head _)) J Ω λw' B _ O=>I w' (B.mono λr _ f=>by have f:r=g:=f;subst f;exact L) (N s H w' B ?_);rw[j,X3]at*;exact O
end
end Go.Vc
namespace Go.Proofs.YtikkpokkcdocoaaGreatDoor
open Go Go.Vc Go.RowKit Go.Proofs Go.Proofs.Tryz
set_option maxRecDepth 100000
abbrev iy:Type:=(Rd (Λ)×Rd (Λ)×Λ)×Bool
abbrev lp:Type:=Int×Rd (Λ)×Rd (Λ)
def hF(f:cK):iy:=((f.sc,f.ah,f.cs),decide (f.live≠0))
def pz(e:td):lp:=(e.v,e.sc,e.lg)
def bt(m:Bool)(A:Nat->af)(R:af)(w:x4)(cs:List x3)(k:Int)(sizes:Λ)(zero:Int)(D:List (Λ))(G:List Bool)(aT:List (Λ))(H:List iy)(E:List lp):Prop:=
 ∃szv a e f h p,cs=[Δ k,szv,Δ zero,a,e,f,h,p]/\Seen R w [szv] sizes/\
 ak.rep m (A 0) R w [a] D/\ak.rep m (A 1) R w [e] G/\ak.rep m (A 2) R w [f] aT/\ak.rep m (A 3) R w [h] H/\ak.rep m (A 4) R w [p] E/\
 (m=true->(∀i j r,i≠j->A i r->¬A j r)/\∀i r,A i r->¬R r)
abbrev fQ(m:Bool)(A:Nat->af)(R:af)(w:x4)(cs:List x3)(k:Int)(sizes:Λ)(s:am):Prop:=
 bt m A R w cs k sizes s.zero (s.vars.map ax) (s.vars.map λx=>decide (x.gone≠0)) (s.vars.map (·.un)) (s.funs.map hF) (s.dd.map pz)
def eW(w:x4)(v:x3)(k:Int)(sizes:Λ)(s:am):Prop:=∃cs,v= .agg cs.toArray/\fQ false (λ_ _=>False) eN w cs k sizes s
def fk(A:Nat->af)(i:Nat)(B:af):Nat->af:=λj=>if j=i then B else A j
section
variable{m:Bool}{A:Nat->af}{R:af}{w w':x4}{cs:List x3}{k zero:Int}{sizes:Λ}{D:List (Λ)}{G:List Bool}{aT:List (Λ)}{H:List iy}{E:List lp}{s:am}
theorem bt.len(h:bt m A R w cs k sizes zero D G aT H E):cs.length=8/\∀u∈cs,u.oneCell'=true:=by
 obtain⟨szv,q,r,s,x,y,rfl,h1,a,e,f,j,p,_⟩:=h;refine⟨rfl,λu hu=>?_⟩;simp only[V1,List.not_mem_nil,or_false]at hu;rcases hu with rfl|rfl|rfl|rfl|rfl|rfl|rfl|rfl
 .rfl
 .exact hT h1
 .rfl
 .exact hT a
 .exact hT e
 .exact hT f
 .exact hT j
 .exact hT p
theorem bt.aa{T:af}(h:bt m A R w cs k sizes zero D G aT H E)(a:ae T w w')(f:∀r,r<w.heap.size->(∃i,A i r)\/R r->¬T r):bt m A R w' cs k sizes zero D G aT H E:=by
 obtain⟨szv,j,p,q,s,x,rfl,h1,y,z,B,C,F,I⟩:=h;have ap:∀i r,r<w.heap.size->A i r\/R r->¬T r:=λi r e h=>f r e (h.imp (λh=>⟨i,h⟩) id);exact⟨szv,j,p,q,s,x,rfl,ak.aa h1 a λr e h=>f r e (h.elim False.elim .inr),ak.aa y a (ap 0),ak.aa z a (ap 1),ak.aa B a (ap 2),ak.aa C a (ap 3),ak.aa F a (ap 4),I⟩
theorem bt.ext(h:bt m A R w cs k sizes zero D G aT H E)(a:Ext w w'):bt m A R w' cs k sizes zero D G aT H E:=h.aa (a.aa λ_=>False) λ_ _ _ h=>h
theorem fQ.pA(h:fQ m A R w cs k sizes s):eW w (.agg cs.toArray) k sizes s:=by
 obtain⟨szv,a,e,f,j,p,rfl,h1,q,r,x,y,z,B⟩:=h;exact⟨_,rfl,szv,a,e,f,j,p,rfl,hS h1,hS q,hS r,hS x,hS y,hS z,λh=>by cases h⟩
theorem eW.ext{v:x3}(h:eW w v k sizes s)(a:Ext w w'):eW w' v k sizes s:=by
 obtain⟨cs,rfl,h⟩:=h;exact⟨cs,rfl,h.ext a⟩
theorem bt.old(h:bt true A R w cs k sizes zero D G aT H E):bt true (λi r=>A i r/\r<w.heap.size) R w cs k sizes zero D G aT H E:=by
 obtain⟨szv,f,p,q,s,x,rfl,h1,a,y,z,B,C,e⟩:=h;obtain⟨e,F⟩:=e rfl;have hm:∀i r,r<w.heap.size->A i r->A i r/\r<w.heap.size:=λi r I h=>⟨h,I⟩;exact⟨szv,f,p,q,s,x,rfl,h1,ak.mono a (hm 0) λ_ _ h=>h,ak.mono y (hm 1) λ_ _ h=>h,ak.mono z (hm 2) λ_ _ h=>h,ak.mono B (hm 3) λ_ _ h=>h,ak.mono C (hm 4) λ_ _ h=>h,
  λ_=>⟨λi j r J h1 a=>e i j r J h1.1 a.1,λi r h=>F i r h.1⟩⟩
theorem q1{i:Nat}{B:af}(h:∀i j r,i≠j->A i r->¬A j r)(e:∀j r,j≠i->B r->¬A j r):∀p q r,p≠q->fk A i B p r->¬fk A i B q r:=λp q r f h1 a=>by
 unfold fk at h1 a;split at h1<;>split at a
 .omega
 .exact e q r (by assumption) h1 a
 .exact e p r (by assumption) a h1
 .exact h p q r f h1 a
theorem q2{i:Nat}{B:af}(h:∀i r,A i r->¬R r)(a:∀r,B r->¬R r):∀p r,fk A i B p r->¬R r:=λp r h1=>by
 unfold fk at h1;split at h1
 .exact a r h1
 .exact h p r h1
theorem bt.w2{B:af}{x:x3}{D':List (Λ)}(h:bt true A R w cs k sizes zero D G aT H E){T:af}(e:ae T w w')(p:∀r,T r->A 0 r\/(∀j,¬A j r)/\¬R r)(y:bl B R w' [x] D')(z:∀j r,j≠0->B r->¬A j r)(C:∀r,B r->¬R r):bt true (fk A 0 B) R w' (cs.set 3 x) k sizes zero D' G aT H E:=by
 obtain⟨szv,Q,F,I,J,K,rfl,h1,a,L,M,N,O,f⟩:=h;obtain⟨f,q⟩:=f rfl;have s:∀r,R r->¬T r:=λr h a=>(p r a).elim (λa=>q 0 r a h) λa=>a.2 h;have ap:∀j r,j≠0->r<w.heap.size->A j r\/R r->¬T r:=λj r P _ h a=>h.elim (λh=>(p r a).elim (λa=>f j 0 r P h a) λa=>a.1 j h) λh=>s r h a;refine⟨szv,x,F,I,J,K,rfl,ak.aa h1 e λr _ h=>h.elim False.elim (s r),?_,?_,?_,?_,?_,λ_=>⟨q1 f z,q2 q C⟩⟩
 .exact y
 .exact ak.aa L e λr=>ap 1 r Ω
 .exact ak.aa M e λr=>ap 2 r Ω
 .exact ak.aa N e λr=>ap 3 r Ω
 .exact ak.aa O e λr=>ap 4 r Ω
theorem bt.O2{B:af}{x:x3}{p:List Bool}(h:bt true A R w cs k sizes zero D G aT H E){T:af}(e:ae T w w')(q:∀r,T r->A 1 r\/(∀j,¬A j r)/\¬R r)(z:bl B R w' [x] p)(C:∀j r,j≠1->B r->¬A j r)(F:∀r,B r->¬R r):bt true (fk A 1 B) R w' (cs.set 4 x) k sizes zero D p aT H E:=by
 obtain⟨szv,I,Q,J,K,L,rfl,h1,a,S,M,N,O,f⟩:=h;obtain⟨f,s⟩:=f rfl;have y:∀r,R r->¬T r:=λr h a=>(q r a).elim (λa=>s 1 r a h) λa=>a.2 h;have ap:∀j r,j≠1->r<w.heap.size->A j r\/R r->¬T r:=λj r P _ h a=>h.elim (λh=>(q r a).elim (λa=>f j 1 r P h a) λa=>a.1 j h) λh=>y r h a;refine⟨szv,I,x,J,K,L,rfl,ak.aa h1 e λr _ h=>h.elim False.elim (y r),?_,?_,?_,?_,?_,λ_=>⟨q1 f C,q2 s F⟩⟩
 .exact ak.aa a e λr=>ap 0 r Ω
 .exact z
 .exact ak.aa M e λr=>ap 2 r Ω
 .exact ak.aa N e λr=>ap 3 r Ω
 .exact ak.aa O e λr=>ap 4 r Ω
theorem bt.jX{B:af}{x:x3}{p:List (Λ)}(h:bt true A R w cs k sizes zero D G aT H E){T:af}(e:ae T w w')(q:∀r,T r->A 2 r\/(∀j,¬A j r)/\¬R r)(z:bl B R w' [x] p)(C:∀j r,j≠2->B r->¬A j r)(F:∀r,B r->¬R r):bt true (fk A 2 B) R w' (cs.set 5 x) k sizes zero D G p H E:=by
 obtain⟨szv,I,J,Q,K,L,rfl,h1,a,M,S,N,O,f⟩:=h;obtain⟨f,s⟩:=f rfl;have y:∀r,R r->¬T r:=λr h a=>(q r a).elim (λa=>s 2 r a h) λa=>a.2 h;have ap:∀j r,j≠2->r<w.heap.size->A j r\/R r->¬T r:=λj r P _ h a=>h.elim (λh=>(q r a).elim (λa=>f j 2 r P h a) λa=>a.1 j h) λh=>y r h a;refine⟨szv,I,J,x,K,L,rfl,ak.aa h1 e λr _ h=>h.elim False.elim (y r),?_,?_,?_,?_,?_,λ_=>⟨q1 f C,q2 s F⟩⟩
 .exact ak.aa a e λr=>ap 0 r Ω
 .exact ak.aa M e λr=>ap 1 r Ω
 .exact z
 .exact ak.aa N e λr=>ap 3 r Ω
 .exact ak.aa O e λr=>ap 4 r Ω
theorem bt.jY{B:af}{x:x3}{p:List iy}(h:bt true A R w cs k sizes zero D G aT H E){T:af}(e:ae T w w')(q:∀r,T r->A 3 r\/(∀j,¬A j r)/\¬R r)(z:bl B R w' [x] p)(C:∀j r,j≠3->B r->¬A j r)(F:∀r,B r->¬R r):bt true (fk A 3 B) R w' (cs.set 6 x) k sizes zero D G aT p E:=by
 obtain⟨szv,I,J,K,Q,L,rfl,h1,a,M,N,S,O,f⟩:=h;obtain⟨f,s⟩:=f rfl;have y:∀r,R r->¬T r:=λr h a=>(q r a).elim (λa=>s 3 r a h) λa=>a.2 h;have ap:∀j r,j≠3->r<w.heap.size->A j r\/R r->¬T r:=λj r P _ h a=>h.elim (λh=>(q r a).elim (λa=>f j 3 r P h a) λa=>a.1 j h) λh=>y r h a;refine⟨szv,I,J,K,x,L,rfl,ak.aa h1 e λr _ h=>h.elim False.elim (y r),?_,?_,?_,?_,?_,λ_=>⟨q1 f C,q2 s F⟩⟩
 .exact ak.aa a e λr=>ap 0 r Ω
 .exact ak.aa M e λr=>ap 1 r Ω
 .exact ak.aa N e λr=>ap 2 r Ω
 .exact z
 .exact ak.aa O e λr=>ap 4 r Ω
theorem bt.O3{B:af}{x:x3}{p:List lp}(h:bt true A R w cs k sizes zero D G aT H E){T:af}(e:ae T w w')(q:∀r,T r->A 4 r\/(∀j,¬A j r)/\¬R r)(z:bl B R w' [x] p)(C:∀j r,j≠4->B r->¬A j r)(F:∀r,B r->¬R r):bt true (fk A 4 B) R w' (cs.set 7 x) k sizes zero D G aT H p:=by
 obtain⟨szv,I,J,K,L,Q,rfl,h1,a,M,N,O,S,f⟩:=h;obtain⟨f,s⟩:=f rfl;have y:∀r,R r->¬T r:=λr h a=>(q r a).elim (λa=>s 4 r a h) λa=>a.2 h;have ap:∀j r,j≠4->r<w.heap.size->A j r\/R r->¬T r:=λj r P _ h a=>h.elim (λh=>(q r a).elim (λa=>f j 4 r P h a) λa=>a.1 j h) λh=>y r h a;refine⟨szv,I,J,K,L,x,rfl,ak.aa h1 e λr _ h=>h.elim False.elim (y r),?_,?_,?_,?_,?_,λ_=>⟨q1 f C,q2 s F⟩⟩
 .exact ak.aa a e λr=>ap 0 r Ω
 .exact ak.aa M e λr=>ap 1 r Ω
 .exact ak.aa N e λr=>ap 2 r Ω
 .exact ak.aa O e λr=>ap 3 r Ω
 .exact z
theorem bt.O4{z:Int}(h:bt m A R w cs k sizes zero D G aT H E):bt m A R w (cs.set 2 (Δ z)) k sizes z D G aT H E:=by
 obtain⟨szv,a,e,f,j,p,rfl,h1,q,r,s,x,y,B⟩:=h;exact⟨szv,a,e,f,j,p,rfl,h1,q,r,s,x,y,B⟩
end
theorem og{α:Type}[ak α]{st t J:r9}{pl:List (Nat×Nat)}{gs c q b L:Nat}{M y v:x3}{box cs:List x3}{S A R:af}{l:List α}{a:α}{K:x4->Prop}(N:bM x8 st pl)(O:pl[c]?=σ (c,q+1))(P:x8.underlying t=σ (.slice e))(Q:aP x8 t 1 L M)(hi:aP x8 e (ak.n α) b z)(T:z.cells.size=ak.n α)(C:ad w gs st box)(W:box[c]?=σ v)(h:bl S R w [v] l)(I:cc w (ak.n α) y 1 cs)(X:bl A R w cs a)(Y:∀r,r<w.heap.size->S r->¬A r/\¬R r)(p:¬S gs/\¬A gs/\¬R gs)(ah:(l.length+1)*b<=140737488355328)(ai:l.length+1<=1000000)(Z:∀j w',ae (λr=>S r\/r=gs) w w'->ad w' gs st (box.set c j)->bl (λr=>S r\/A r\/w.heap.size<=r) R w' [j] (l++[a])->K w'):
  aC x8 (Z3 #[t,t] J #[v,y]) w λj U=>V x8 (u6 st (Γ gs) c) U λab=>aC x8 (o8 t ab j) U λ_ s=>K s:=by
 have ac:=(x5.1 W).1;refine my (A:=A) P hi T h I X (λr E I f=>?_) Ω Ω λj U x F=>?_
 .have:=Y r E I;exact f.elim this.1 this.2
 have ag:ad U gs st box:=C.aa F p.1;rw[aS N O];refine bq (o:=0+c) Q (kj x) (hT x) ag (by rw[X3];exact ac) λs G aj H=>?_;refine Z j s ((F.mono λr _ h=>.inl h).trans (G.mono λr _ h=>.inr h)) (by rw[X3]at H;exact H) (ak.aa x G λr E f B=>?_);have B:r=gs:=B;subst B;have al:=C.lt;rcases f with f|f
 .rcases f with f|f|f
  .exact p.1 f
  .exact p.2.1 f
  .omega
 .exact p.2.2 f
section
variable{A:Nat->af}{B R:af}{w:x4}{cs xs:List x3}{gs:Nat}{y v:x3}{k zero:Int}{sizes:Λ}{D:List (Λ)}{G:List Bool}{aT:List (Λ)}{H:List iy}{E:List lp}{K:x4->Prop}
theorem bt.O5{S:r9}(h:bt true A R w cs k sizes zero D G aT H E)(J:ad w gs aA cs)(x:cs[3]?=σ v)(f:∀j r,A j r->gs<r)(s:∀r,R r->r<gs)(I:cc w 1 y 1 xs)(W:bl B R w xs a)(q:∀r,r<w.heap.size->B r->(∀j,¬A j r)/\gs<r)(aj:D.length<=1000)(X:∀aI bu w',ae (λr=>gs<=r) w w'->ad w' gs aA bu->bt true aI R w' bu k sizes zero (D++[a]) G aT H E->(∀j r,aI j r->gs<r)->(∀j,j≠3->bu[j]?=cs[j]?)->K w'):
  aC x8 (Z3 #[b2,b2] S #[v,y]) w λL U=>V x8 (u6 aA (Γ gs) 3) U λY=>aC x8 (o8 b2 Y L) U λ_ z=>K z:=by
 have M:=h.old;have Z:=J.lt;obtain⟨szv,aa,al,am,ao,N,ab,h1,ac,ap,aq,au,av,C⟩:=id M;obtain⟨C,O⟩:=C rfl;have N:v=aa:=by rw[ab]at x;exact(Z0 x).symm
 subst N;have af:bl (λr=>B r/\r<w.heap.size) R w xs a:=ak.mono W (λr e h=>⟨h,e⟩) λ_ _ h=>h;refine og (pl:=_) (l:=D) aA.p rfl b2.u b2.i an.i rfl J x ac I af (λr e P=>⟨λag=>(q r e ag.1).1 0 P.1,O 0 r P⟩) ⟨λh=>by have:=f 0 gs h.1;omega,λh=>by have:=(q gs Z h.1).2;omega,λh=>by have:=s gs h;omega⟩ Ω Ω λL z Q ah ai=>?_;refine X _ _ z (Q.mono λr _ h=>h.elim (λh=>by have:=f 0 r h.1;omega) λh=>Ω) ah (M.w2 Q (λr e=>?_) ai (λj r F e=>?_) λr e=>?_) (λj r e=>?_) λj F=>?_
 .rcases e with e|rfl
  .exact .inl e
  .exact .inr ⟨λj h=>by have:=f j r h.1;omega,λh=>by have:=s r h;omega⟩
 .rcases e with e|e|e
  .exact C 0 j r (S6 F) e
  .exact λh=>(q r e.2 e.1).1 j h.1
  .exact λh=>by have:=h.2;omega
 .rcases e with e|e|e
  .exact O 0 r e
  .exact λh=>by have:=(q r e.2 e.1).2;have:=s r h;omega
  .exact λh=>by have:=s r h;omega
 .unfold fk at e;split at e
  .rcases e with e|e|e
   .exact f 0 r e.1
   .exact (q r e.2 e.1).2
   .omega
  .exact f j r e.1
 .rw[Y5 (S6 F)]
theorem bt.O6{a:Bool}{S:r9}(h:bt true A R w cs k sizes zero D G aT H E)(J:ad w gs aA cs)(x:cs[4]?=σ v)(f:∀j r,A j r->gs<r)(s:∀r,R r->r<gs)(I:cc w 1 y 1 xs)(W:bl B R w xs a)(q:∀r,r<w.heap.size->B r->(∀j,¬A j r)/\gs<r)(aj:G.length<=1000)(X:∀aI bu w',ae (λr=>gs<=r) w w'->ad w' gs aA bu->bt true aI R w' bu k sizes zero D (G++[a]) aT H E->(∀j r,aI j r->gs<r)->(∀j,j≠4->bu[j]?=cs[j]?)->K w'):
  aC x8 (Z3 #[hM,hM] S #[v,y]) w λL U=>V x8 (u6 aA (Γ gs) 4) U λY=>aC x8 (o8 hM Y L) U λ_ z=>K z:=by
 have M:=h.old;have Z:=J.lt;obtain⟨szv,al,aa,am,an,N,ab,h1,ao,ac,ap,aq,au,C⟩:=id M;obtain⟨C,O⟩:=C rfl;have N:v=aa:=by rw[ab]at x;exact(Z0 x).symm
 subst N;have af:bl (λr=>B r/\r<w.heap.size) R w xs a:=ak.mono W (λr e h=>⟨h,e⟩) λ_ _ h=>h;refine og (pl:=_) (l:=G) aA.p rfl hM.u hM.i eb.i rfl J x ac I af (λr e P=>⟨λag=>(q r e ag.1).1 1 P.1,O 1 r P⟩) ⟨λh=>by have:=f 1 gs h.1;omega,λh=>by have:=(q gs Z h.1).2;omega,λh=>by have:=s gs h;omega⟩ Ω Ω λL z Q ah ai=>?_;refine X _ _ z (Q.mono λr _ h=>h.elim (λh=>by have:=f 1 r h.1;omega) λh=>Ω) ah (M.O2 Q (λr e=>?_) ai (λj r F e=>?_) λr e=>?_) (λj r e=>?_) λj F=>?_
 .rcases e with e|rfl
  .exact .inl e
  .exact .inr ⟨λj h=>by have:=f j r h.1;omega,λh=>by have:=s r h;omega⟩
 .rcases e with e|e|e
  .exact C 1 j r (S6 F) e
  .exact λh=>(q r e.2 e.1).1 j h.1
  .exact λh=>by have:=h.2;omega
 .rcases e with e|e|e
  .exact O 1 r e
  .exact λh=>by have:=(q r e.2 e.1).2;have:=s r h;omega
  .exact λh=>by have:=s r h;omega
 .unfold fk at e;split at e
  .rcases e with e|e|e
   .exact f 1 r e.1
   .exact (q r e.2 e.1).2
   .omega
  .exact f j r e.1
 .rw[Y5 (S6 F)]
theorem bt.O7{S:r9}(h:bt true A R w cs k sizes zero D G aT H E)(J:ad w gs aA cs)(x:cs[5]?=σ v)(f:∀j r,A j r->gs<r)(s:∀r,R r->r<gs)(I:cc w 1 y 1 xs)(W:bl B R w xs a)(q:∀r,r<w.heap.size->B r->(∀j,¬A j r)/\gs<r)(aj:aT.length<=1000)(X:∀aI bu w',ae (λr=>gs<=r) w w'->ad w' gs aA bu->bt true aI R w' bu k sizes zero D G (aT++[a]) H E->(∀j r,aI j r->gs<r)->(∀j,j≠5->bu[j]?=cs[j]?)->K w'):
  aC x8 (Z3 #[cP,cP] S #[v,y]) w λL U=>V x8 (u6 aA (Γ gs) 5) U λY=>aC x8 (o8 cP Y L) U λ_ z=>K z:=by
 have M:=h.old;have Z:=J.lt;obtain⟨szv,al,am,aa,an,N,ab,h1,ao,ap,ac,aq,av,C⟩:=id M;obtain⟨C,O⟩:=C rfl;have N:v=aa:=by rw[ab]at x;exact(Z0 x).symm
 subst N;have af:bl (λr=>B r/\r<w.heap.size) R w xs a:=ak.mono W (λr e h=>⟨h,e⟩) λ_ _ h=>h;refine og (pl:=_) (l:=aT) aA.p rfl cP.u cP.i au.i rfl J x ac I af (λr e P=>⟨λag=>(q r e ag.1).1 2 P.1,O 2 r P⟩) ⟨λh=>by have:=f 2 gs h.1;omega,λh=>by have:=(q gs Z h.1).2;omega,λh=>by have:=s gs h;omega⟩ Ω Ω λL z Q ah ai=>?_;refine X _ _ z (Q.mono λr _ h=>h.elim (λh=>by have:=f 2 r h.1;omega) λh=>Ω) ah (M.jX Q (λr e=>?_) ai (λj r F e=>?_) λr e=>?_) (λj r e=>?_) λj F=>?_
 .rcases e with e|rfl
  .exact .inl e
  .exact .inr ⟨λj h=>by have:=f j r h.1;omega,λh=>by have:=s r h;omega⟩
 .rcases e with e|e|e
  .exact C 2 j r (S6 F) e
  .exact λh=>(q r e.2 e.1).1 j h.1
  .exact λh=>by have:=h.2;omega
 .rcases e with e|e|e
  .exact O 2 r e
  .exact λh=>by have:=(q r e.2 e.1).2;have:=s r h;omega
  .exact λh=>by have:=s r h;omega
 .unfold fk at e;split at e
  .rcases e with e|e|e
   .exact f 2 r e.1
   .exact (q r e.2 e.1).2
   .omega
  .exact f j r e.1
 .rw[Y5 (S6 F)]
theorem bt.O8{a:iy}{S:r9}(h:bt true A R w cs k sizes zero D G aT H E)(J:ad w gs aA cs)(x:cs[6]?=σ v)(f:∀j r,A j r->gs<r)(s:∀r,R r->r<gs)(I:cc w 4 y 1 xs)(W:bl B R w xs a)(q:∀r,r<w.heap.size->B r->(∀j,¬A j r)/\gs<r)(aj:H.length<=1000)(X:∀aI bu w',ae (λr=>gs<=r) w w'->ad w' gs aA bu->bt true aI R w' bu k sizes zero D G aT (H++[a]) E->(∀j r,aI j r->gs<r)->(∀j,j≠6->bu[j]?=cs[j]?)->K w'):
  aC x8 (Z3 #[dm,dm] S #[v,y]) w λL U=>V x8 (u6 aA (Γ gs) 6) U λY=>aC x8 (o8 dm Y L) U λ_ z=>K z:=by
 have M:=h.old;have Z:=J.lt;obtain⟨szv,al,am,an,aa,N,ab,h1,ao,ap,aq,ac,au,C⟩:=id M;obtain⟨C,O⟩:=C rfl;have N:v=aa:=by rw[ab]at x;exact(Z0 x).symm
 subst N;have af:bl (λr=>B r/\r<w.heap.size) R w xs a:=ak.mono W (λr e h=>⟨h,e⟩) λ_ _ h=>h;refine og (pl:=_) (l:=H) aA.p rfl dm.u dm.i cU.i rfl J x ac I af (λr e P=>⟨λag=>(q r e ag.1).1 3 P.1,O 3 r P⟩) ⟨λh=>by have:=f 3 gs h.1;omega,λh=>by have:=(q gs Z h.1).2;omega,λh=>by have:=s gs h;omega⟩ Ω Ω λL z Q ah ai=>?_;refine X _ _ z (Q.mono λr _ h=>h.elim (λh=>by have:=f 3 r h.1;omega) λh=>Ω) ah (M.jY Q (λr e=>?_) ai (λj r F e=>?_) λr e=>?_) (λj r e=>?_) λj F=>?_
 .rcases e with e|rfl
  .exact .inl e
  .exact .inr ⟨λj h=>by have:=f j r h.1;omega,λh=>by have:=s r h;omega⟩
 .rcases e with e|e|e
  .exact C 3 j r (S6 F) e
  .exact λh=>(q r e.2 e.1).1 j h.1
  .exact λh=>by have:=h.2;omega
 .rcases e with e|e|e
  .exact O 3 r e
  .exact λh=>by have:=(q r e.2 e.1).2;have:=s r h;omega
  .exact λh=>by have:=s r h;omega
 .unfold fk at e;split at e
  .rcases e with e|e|e
   .exact f 3 r e.1
   .exact (q r e.2 e.1).2
   .omega
  .exact f j r e.1
 .rw[Y5 (S6 F)]
end
theorem mV{R:af}{v:x3}{g:Nat}(h:aq .i64 e w g v l):bl (λr=>leads v r) R w [v] l:=by
 have h1:=kX (R:=R) h;by_cases f:v= .slice ν 0 0
 .subst f;have:l=[]:=by
   obtain⟨j,⟨_,a⟩|⟨_,_,a,_⟩⟩:=h
   .exact b9 a
   .cases a
  subst this;exact fV
 .obtain⟨j,⟨a,_⟩|⟨cap,cs,a,_⟩⟩:=id h
  .exact absurd a f
  .refine ak.mono h1 (λr _ p=>?_) λ_ _ h=>h;rw[a];exact⟨_,_,_,rfl,p.symm⟩
theorem w3{R:af}{v:x3}{g:Nat}(e:∀r c,B<=r->ad w r ag c->R r)(h:aq .i64 ag w g v l)(f:∀r,leads v r->B<=r):Seen R w [v] l:=nA (mV (R:=λ_=>False) h) λr p a=>by
 rcases a with a|a
 .obtain⟨c,j⟩:=Ox h r a;exact e r c (f r a) j
 .exact a.elim
theorem O9{R:af}{zero:Int}(h:Seen R w [szv] sizes):bt true (λ_ _=>False) R w [Δ k,szv,Δ zero,.slice ν 0 0,.slice ν 0 0,.slice ν 0 0,.slice ν 0 0,.slice ν 0 0] k sizes zero [] [] [] [] []:=
 ⟨_,_,_,_,_,_,rfl,h,fV,fV,fV,fV,fV,λ_=>⟨λ_ _ _ _ h=>h.elim,λ_ _ h=>h.elim⟩⟩
theorem bt.at{m:Bool}{A:Nat->af}{R:af}{cs:List x3}{zero:Int}{D:List (Λ)}{G:List Bool}{aT:List (Λ)}{H:List iy}{E:List lp}(h:bt m A R w cs k sizes zero D G aT H E)(c:Nat)(a:c<8):∃v,cs[c]?=σ v:=⟨_,x7 (by rw[h.len.1];exact a)⟩
def Pa(R:af)(w:x4)(e gt gs:Nat)(n:aK)(f:List x3)(i j:Nat)(a:x4):Prop:=Ext w a/\ad a e dI f/\ad a gt aA z12/\∃A cs,ad a gs aA cs/\(∀q r,A q r->gs<r)/\
 bt true A R a cs n.k n.sizes n.zero ((n.unary.take i).map λu=>ax (newVar u)) (o4 i false) (n.unary.take i) ((n.funs.take j).map λg=>hF (kw n.sizes g)) []
theorem Ec{bI:x3}{n:aK}{R:af}(az:∀r,R r->r<w.heap.size)(a6:∀r c,B<=r->ad w r ag c->R r)(cB:wH w B bI n)(ac:jR n)(ee:n.funs.length<=256):ai x8 GH [bI] w λv w'=>Ext w w'/\∃A cs,v= .agg cs.toArray/\fQ true A R w' cs n.k n.sizes (cZ n)/\∀q r,A q r->w.heap.size<=r:=by
 have ef:=ac.sizes.2.1;have cC:=ac.ku;refine ay func63 ?_;refine bk λg1 J eg a7 cD=>?_;obtain⟨szv,gz,cE,eh,bJ,cF,ei,a8,aB,aC,cG,bK,ba,cH,bL,cI,bM⟩:=Oy cB cD;refine bw aA.i λgt U ej aE aH=>?_;have aH:ad U gt aA z12:=aH;have bb:=aB.ext aE;rw[aG dI.p 0 bb rfl,aG dI.p 1 bb rfl,aG dI.p 2 bb rfl,
  dn (cs:=#[Δ n.k,szv,Δ n.zero,.slice ν 0 0,.slice ν 0 0,.slice ν 0 0,.slice ν 0 0,.slice ν 0 0]) (by obtain⟨_,_,_,e⟩:=cY aC.ls;rw[e];kernel_rfl)]
 refine bw aA.i λgs ek em aI cJ=>?_;have cK:Seen R w [szv] n.sizes:=w3 a6 aC cI;have en:=a7.size;have eo:=aE.size;have z3:=aI.size;have cL:=(a7.trans aE).trans aI;have bN:=O9 (k:=n.k) (zero:=n.zero) (bi cK cL);refine bT (vs:=[Δ n.k,szv,Δ n.zero,.slice ν 0 0,.slice ν 0 0,.slice ν 0 0,.slice ν 0 0,.slice ν 0 0]) aA.i rfl rfl bN.len.2 cJ λcM bd ep cN=>?_;have er:=aH.lt;have es:=aB.lt;have cO:gt≠gs:=Ω
 have be:Ext J cM:=(aE.trans aI).put bd Ω;have bO:=a7.trans be;have cQ:=(aH.ext aI).aa bd λhe=>cO he;have et:w.heap.size<gs:=Ω
 rw[aG dI.p 1 (aB.ext be) rfl,aV an.u (aC.ext bO).ls];have cR:=bN.aa bd λr f h he=>by
  have he:r=gs:=he;rcases h with⟨_,h⟩|h
  .exact h
  .have:=az r h;omega
 refine b1.range n.sizes.length (λi O=>Pa R w g1 gt gs n [Δ n.k,szv,Δ n.zero,cE,cF] i 0 O) Ω ⟨bO,aB.ext be,cQ,_,_,cN,(λ_ _ h=>h.elim),cR⟩ ?_ ?_
 .rintro i O cS hi ⟨P,bf,bg,A,cs,ah,bh,aJ⟩ cT;obtain⟨z,bj⟩:=aD (l:=n.sizes) hi;obtain⟨u,hu⟩:=aD (l:=n.unary) (i:=i) Ω;have eu:=ac.sizes.2.2 z (x6 bj);obtain⟨ev,_⟩:=ac.unary i z u bj hu;refine bD Ω ?_;rw[bc an.u ag.i Ψ (aC.ext P).ls bj];obtain⟨bP,rfl⟩:∃m:Nat,z=m:=⟨z.toNat,Ω⟩;refine b3.range bP (λj aj aN=>Ext O aN/\∃g,aq .i64 ag aN g aj ((W3 j).map λv:Nat=>(v:Int))/\∀r,leads aj r->O.heap.size<=r) Ω
   ⟨Ext.refl _,0,aq.nil _ _ _ _,λr f=>by obtain⟨a,n,c,I,Q⟩:=f;cases I⟩ ?_ ?_
  .rintro j aj aN bm bn ⟨K,cW,S,aO⟩ bo;refine bD Ω ?_;refine eM (k:=.i64) an.u ag.i rfl λew ey cX ez H c0=>?_;refine h5 an.u ag.i rfl (S.ext H) c0.ls Θ Θ λeA c1 c2 c3 c4 V=>?_;rw[aM];have c5:=K.size;have c6:=H.size;refine bo _ _ ⟨(K.trans H).then V λr f he=>by have:=aO r he;omega,c1,?_,λr f=>(c4 r f).elim (aO r) λh=>Ω⟩;rw[List.range_succ,Z2];exact c3
  rintro aj aN bm ⟨K,cW,S,aO⟩;refine b7 Ω ?_;have c7:(W3 bP).map (λv:Nat=>(v:Int))=ax (newVar u):=by rw[Oz];congr 2;omega
  rw[c7]at S;have c5:=K.size;have eB:=P.size;have eC:=ah.lt;have ak:∀r,R r->r<gs:=λr f=>by have:=az r f;omega
  have low:∀{s C:x4}{b:Nat}{e:r9}{c:List x3},ae (λr=>gs<=r) s C->b<gs->ad s b e c->ad C b e c:=λL c8 h=>h.aa L λW=>by have W:gs<=_:=W;omega
  have al:∀{s C:x4},Ext w s->ae (λr=>gs<=r) s C->Ext w C:=λbp L=>bp.then L λr f h=>by have h:gs<=r:=h;omega
  have bQ:=aJ.old.ext K;have c9:∀q r,(A q r/\r<O.heap.size)->gs<r:=λq r h=>bh q r h.1;obtain⟨eD,bS⟩:=bQ.at 3 Ω;rw[aG aA.p 3 (ah.ext K) bS];refine ig b2.u an.i Φ (a:=ax (newVar u)) (cs:=[aj]) S.ls.cells.1 (mV (R:=R) S) λeE cX H _ da=>?_;have c6:=H.size;have aP:=K.trans H;refine bt.O5 (bQ.ext H) (ah.ext aP) bS c9 ak da (bi (mV (R:=R) S) H) (λr f h=>?_) Θ λeF eH c2 V bU bV db _=>?_
  .have:=aO r h;exact⟨λj h=>Ω,Ω⟩
  have eI:=V.size;obtain⟨eJ,bW⟩:=bV.at 4 Ω;rw[aG aA.p 4 bU bW];refine ig (a:=false) (cs:=[.bool false]) (A:=λ_=>False) (R:=R) hM.u eb.i Φ rfl rfl λeK eL X _ dc=>?_;refine bt.O6 (a:=false) (xs:=[.bool false]) (B:=λ_=>False) (bV.ext X) (bU.ext X) bW db ak dc rfl (λr f h=>h.elim) Θ λdd eN bX aQ bY de df _=>?_;have z9:=X.size;have eO:=aQ.size;have dg:Ext w bX:=al ((al (P.trans aP) V).trans X) aQ;have dh:=low aQ Ω ((low V Ω (bf.ext aP)).ext X);have di:=low aQ Ω ((low V Ω (bg.ext aP)).ext X);intro bq Y _ _;have bZ:=bY.ext Y;have b0:=dh.ext Y;have b4:=dg.trans Y;obtain⟨Z,aR⟩:∃Z,bJ[i]?=σ Z:=⟨_,x7 (by have:=congrArg Q0 bK;rw[u7]at this;omega)⟩;have dj:Z.l=u:=by
   have b5:(bJ.map (·.l))[i]?=σ Z.l:=by rw[v8,aR];rfl
   rw[bK,hu]at b5;exact(Z0 b5).symm
  have br:=cG.ext b4;obtain⟨eP,b6⟩:=br.2 Z (x6 aR);rw[dj]at b6;have b9:=de.old.ext Y;have dk:∀q r,(dd q r/\r<bX.heap.size)->gs<r:=λq r h=>df q r h.1;obtain⟨eQ,ca⟩:=b9.at 5 Ω;rw[aG aA.p 5 bZ ca,aG dI.p 3 b0 rfl,dE rfl cP.u au.i br.1 (x5.1 aR).1,aF (v:=Z.v) (o:=i*1) Ψ (br.1.range aR 0 _ rfl)];refine wK (k:=.i64) au.u ao.i λdl eR eS eU aS cb=>?_;refine⟨.inl aS,?_⟩;refine h5 au.u ao.i rfl cb (b6.ext aS).ls Θ Θ λcc eV dp aT dq ds=>?_;rw[List.nil_append]at aT;have eW:=Y.size;have eX:=aS.size;have cd:∀r,leads dl r->bq.heap.size<=r:=λr f=>by have:=(bR cb f).1;omega
  have dt:∀r,leads cc r->bq.heap.size<=r:=λr f=>(dq r f).elim (cd r) λh=>Ω
  have bu:Ext bq dp:=aS.then ds λr f he=>by have:=cd r he;omega
  refine⟨.inl bu,?_⟩;have eY:=bu.size;refine ig cP.u au.i Φ (a:=u) (cs:=[cc]) aT.ls.cells.1 (mV (R:=R) aT) λeZ e0 bx _ du=>?_;have e1:=bx.size;have ab:=bu.trans bx;refine⟨.inl ab,?_⟩;refine bt.O7 (b9.ext ab) (bZ.ext ab) ca dk ak du (bi (mV (R:=R) aT) bx) (λr f h=>?_) Θ λdv dx e2 bz dy dz dA _=>?_
  .have:=dt r h;have:=bY.lt;exact⟨λj h=>Ω,Ω⟩
  rw[aM];refine cT _ ⟨al (b4.trans ab) bz,low bz Ω (b0.ext ab),low bz Ω ((di.ext Y).ext ab),dv,dx,dy,dA,?_⟩;rw[r8,hu,l7,Z2,T1,List.map_nil,List.replicate_succ'];exact dz
 rintro O cS ⟨P,bf,bg,A,cs,ah,bh,aJ⟩;refine b7 Ω ?_;rw[j9 Ω]at aJ;have e3:a8.length=n.funs.length:=by rw[<-bL,u7]
 have dC:=ba.ext P;rw[aG dI.p 4 bf rfl,e9 cV.u dC];have ak:∀r,R r->r<gs:=λr f=>by have:=az r f;omega
 have low:∀{s C:x4}{b:Nat}{e:r9}{c:List x3},ae (λr=>gs<=r) s C->b<gs->ad s b e c->ad C b e c:=λL c8 h=>h.aa L λW=>by have W:gs<=_:=W;omega
 have al:∀{s C:x4},Ext w s->ae (λr=>gs<=r) s C->Ext w C:=λbp L=>bp.then L λr f h=>by have h:gs<=r:=h;omega
 refine b1.range a8.length (λj G=>Ext w G/\ad G gt aA z12/\∃A cs,ad G gs aA cs/\(∀q r,A q r->gs<r)/\
  bt true A R G cs n.k n.sizes n.zero (n.unary.map λu=>ax (newVar u)) (o4 n.sizes.length false) n.unary ((n.funs.take j).map λg=>hF (kw n.sizes g)) []) ba.le ⟨P,bg,A,cs,ah,bh,aJ⟩ ?_ ?_
 .rintro j G bm bn ⟨M,bA,bB,aU,aW,aY,am⟩ bo;obtain⟨y,ap⟩:=aD (l:=a8) bn;have ce:n.funs[j]?=σ (dw y):=by rw[<-bL,v8,ap];rfl
  have cg:=(ac.funs (dw y) (x6 ce)).1;have e4:y.cs.length<=4096:=by
   have h1:y.cs.length=_:=cg.len;have W:=cg.small;omega
  have ch:=cH y (x6 ap);have ci:=ch.ext M;have cj:=ba.ext M;refine bD Ω ?_;rw[dE rfl cV.u aX.i cj bn,bF aX.p aX.i rfl (cj.range ap)];refine bw aX.i λe5 e7 e8 dD dF=>?_;refine bT (vs:=dr y) aX.i rfl rfl ci.one dF λdG dH fa dJ=>?_;have dK:Ext G dG:=dD.put dH Ω;intro bC ck _ _;have N:=dK.trans ck;have cl:=aW.ext N;have bE:=dJ.ext ck;have dL:=ci.ext N;obtain⟨⟨fb,cm⟩,⟨fc,cn⟩,fd,dM⟩:=id dL;have cp:=am.old.ext N;have dN:∀q r,(bB q r/\r<G.heap.size)->gs<r:=λq r h=>aY q r h.1;obtain⟨fe,cq⟩:=cp.at 6 Ω;rw[aG aA.p 6 cl cq,aG aX.p 0 bE rfl,aG aX.p 1 bE rfl,aG aX.p 2 bE rfl];refine wK (k:=.i64) au.u ao.i λv25 ff fg fh aZ cr=>?_;refine⟨.inl aZ,?_⟩;refine h5 au.u ao.i rfl cr (dM.ext aZ).ls Θ Θ λE fi ct a1 dO dP=>?_;rw[List.nil_append]at a1;have fj:=N.size;have z25:=aZ.size;have cu:∀r,leads v25 r->bC.heap.size<=r:=λr f=>by have:=(bR cr f).1;omega
  have dQ:∀r,leads E r->bC.heap.size<=r:=λr f=>(dO r f).elim (cu r) λh=>Ω
  have a2:Ext bC ct:=aZ.then dP λr f he=>by have:=cu r he;omega
  refine⟨.inl a2,?_⟩;rw[dn (cs:=#[y.aL,y.szv,E]) (by obtain⟨_,_,_,I⟩:=cY cm.ls;obtain⟨_,_,_,Q⟩:=cY cn.ls;obtain⟨_,_,_,av⟩:=cY a1.ls;rw[I,Q,av];kernel_rfl),
   dn (cs:=#[y.aL,y.szv,E,.bool true]) (by obtain⟨_,_,_,I⟩:=cY cm.ls;obtain⟨_,_,_,Q⟩:=cY cn.ls;obtain⟨_,_,_,av⟩:=cY a1.ls;rw[I,Q,av];kernel_rfl)]
  have fk:=a2.size;have cw:=(M.trans N).trans a2;obtain⟨⟨ga,dR⟩,⟨fm,dS⟩,_⟩:=id ch;have own:bl (α:=iy) (λr=>leads E r) R ct [y.aL,y.szv,E,.bool true] (hF (kw n.sizes (dw y))):=by
   refine⟨[y.aL,y.szv,E],[.bool true],λr=>leads E r,λ_=>False,rfl,λ_ h=>h,λ_ h=>h.elim,λ_ _ _ h=>h,⟨[y.aL],[y.szv,E],λ_=>False,λr=>leads E r,rfl,λ_ h=>h.elim,λ_ h=>h,λ_ _ h=>h.elim,?_,[y.szv],[E],λ_=>False,λr=>leads E r,rfl,λ_ h=>h.elim,λ_ h=>h,λ_ _ h=>h.elim,?_,?_⟩,rfl⟩
   .exact bi (w3 a6 dR λr f=>bM y (x6 ap) r (.inr (.inl f))) cw
   .exact bi (w3 a6 dS λr f=>bM y (x6 ap) r (.inr (.inr f))) cw
   .exact mV a1
  refine ig dm.u cU.i Φ rfl own λfo fp bG _ dT=>?_;have fq:=bG.size;have aw:=a2.trans bG;refine⟨.inl aw,?_⟩;refine bt.O8 (cp.ext aw) (cl.ext aw) cq dN ak dT (bi own bG) (λr f h=>?_) Θ λdU dV fs cz dW dX dY _=>?_
  .have:=dQ r h;have:=aW.lt;exact⟨λj h=>Ω,Ω⟩
  rw[aM];refine bo _ ⟨al (M.trans (N.trans aw)) cz,low cz Ω (bA.ext (N.trans aw)),dU,dV,dW,dY,?_⟩;rw[r8,ce,l7,Z2,T1,List.map_nil];exact dX
 rintro G bm ⟨M,bA,bB,aU,aW,aY,am⟩;rw[j9 Ω]at am;refine b7 Ω ?_;obtain⟨bH,dZ⟩:=am.len;rw[bF aA.p aA.i bH (show G.rangeAt gs 0 aU from aW.range)];refine bT (vs:=aU) aA.i bH rfl dZ bA λft cA fu ea=>?_;rw[e6 aA.p aA.i bH ea.range];have ec:=am.aa cA λr f h he=>by
  have he:r=gt:=he;rcases h with⟨q,h⟩|h
  .have:=aY q r h;omega
  .have:=az r h;omega
 have fv:=M.size;refine⟨M.then cA λr f he=>by have he:r=gt:=he;omega,bB,aU,rfl,?_,λq r h=>by have:=aY q r h;omega⟩;have I:(cZ n).vars.map ax=n.unary.map λu=>ax (newVar u):=by show(n.unary.map newVar).map ax=_;rw[R2];rfl
 have Q:(cZ n).vars.map (λx=>decide (x.gone≠0))=o4 n.sizes.length false:=by
  show(n.unary.map newVar).map _=_;rw[R2,<-cC];exact List.map_const' ..
 have av:(cZ n).vars.map (·.un)=n.unary:=by show(n.unary.map newVar).map _=_;rw[R2];exact List.map_id _
 have ed:(cZ n).funs.map hF=n.funs.map λg=>hF (kw n.sizes g):=by show(n.funs.map (kw n.sizes)).map hF=_;rw[R2];rfl
 unfold fQ;rw[I,Q,av,ed];exact ec
section
variable{A:Nat->af}{B R:af}{w:x4}{cs xs:List x3}{gs:Nat}{y v:x3}{k zero:Int}{sizes:Λ}{D:List (Λ)}{G:List Bool}{aT:List (Λ)}{H:List iy}{E:List lp}{K:x4->Prop}{Z:af}
theorem bt.Pb{ab:r9}(h:bt true A R w cs k sizes zero D G aT H E)(N:ad w gs aA cs)(x:cs[3]?=σ v)(z:∀j r,A j r->gs<r\/Z r)(f:∀r,Z r->r<gs/\A 4 r)(s:∀r,R r->r<gs)(I:cc w 1 y 1 xs)(ac:bl B R w xs a)(q:∀r,r<w.heap.size->B r->(∀j,¬A j r)/\gs<r)(av:D.length<=1000)(af:∀aI bu w',ae (λr=>gs<=r) w w'->ad w' gs aA bu->bt true aI R w' bu k sizes zero (D++[a]) G aT H E->(∀j r,aI j r->gs<r\/Z r)->(∀r,Z r->r<gs/\aI 4 r)->(∀j,j≠3->bu[j]?=cs[j]?)->K w'):
  aC x8 (Z3 #[b2,b2] ab #[v,y]) w λO U=>V x8 (u6 aA (Γ gs) 3) U λag=>aC x8 (o8 b2 ag O) U λ_ C=>K C:=by
 have P:=h.old;have ah:∀i j r,i≠j->A i r->¬A j r:=by obtain⟨_,_,_,_,_,_,_,_,_,_,_,_,_,ai⟩:=id h;exact(ai rfl).1
 have Q:∀r,A 0 r->gs<r:=λr h=>(z 0 r h).resolve_right λF=>ah 0 4 r Ω h (f r F).2;have S:∀j,¬A j gs:=λj h=>(z j gs h).elim (λh=>Ω) λh=>by have:=(f gs h).1;omega
 have aj:=N.lt;obtain⟨szv,al,aw,ax,ay,W,am,h1,F,az,aB,aD,aE,J⟩:=id P;obtain⟨J,X⟩:=J rfl;have W:v=al:=by rw[am]at x;exact(Z0 x).symm
 subst W;have ao:bl (λr=>B r/\r<w.heap.size) R w xs a:=ak.mono ac (λr e h=>⟨h,e⟩) λ_ _ h=>h;refine og (pl:=_) (l:=D) aA.p rfl b2.u b2.i an.i rfl N x F I ao (λr e Y=>⟨λap=>(q r e ap.1).1 0 Y.1,X 0 r Y⟩) ⟨λh=>S 0 h.1,λh=>by have:=(q gs aj h.1).2;omega,λh=>by have:=s gs h;omega⟩ Ω Ω λO C aa aq au=>?_;refine af _ _ C (aa.mono λr _ h=>h.elim (λh=>by have:=Q r h.1;omega) λh=>Ω) aq (P.w2 aa (λr e=>?_) au (λj r L e=>?_) λr e=>?_) (λj r e=>?_) (λr M=>⟨(f r M).1,?_⟩) λj L=>?_
 .rcases e with e|rfl
  .exact .inl e
  .exact .inr ⟨λj h=>S j h.1,λh=>by have:=s r h;omega⟩
 .rcases e with e|e|e
  .exact J 0 j r (S6 L) e
  .exact λh=>(q r e.2 e.1).1 j h.1
  .exact λh=>by have:=h.2;omega
 .rcases e with e|e|e
  .exact X 0 r e
  .exact λh=>by have:=(q r e.2 e.1).2;have:=s r h;omega
  .exact λh=>by have:=s r h;omega
 .unfold fk at e;split at e
  .rcases e with e|e|e
   .exact .inl (Q r e.1)
   .exact .inl (q r e.2 e.1).2
   .exact .inl Ω
  .exact z j r e.1
 .unfold fk;rw[if_neg Ω];exact⟨(f r M).2,by have:=(f r M).1;omega⟩
 .rw[Y5 (S6 L)]
theorem bt.Pc{ab:r9}(h:bt true A R w cs k sizes zero D G aT H E)(M:ad w gs aA cs)(x:cs[5]?=σ v)(z:∀j r,A j r->gs<r\/Z r)(f:∀r,Z r->r<gs/\A 4 r)(s:∀r,R r->r<gs)(I:cc w 1 y 1 xs)(ac:bl B R w xs a)(q:∀r,r<w.heap.size->B r->(∀j,¬A j r)/\gs<r)(aw:aT.length<=1000)(af:∀aI bu w',ae (λr=>gs<=r) w w'->ad w' gs aA bu->bt true aI R w' bu k sizes zero D G (aT++[a]) H E->(∀j r,aI j r->gs<r\/Z r)->(∀r,Z r->r<gs/\aI 4 r)->(∀j,j≠5->bu[j]?=cs[j]?)->K w'):
  aC x8 (Z3 #[cP,cP] ab #[v,y]) w λN U=>V x8 (u6 aA (Γ gs) 5) U λag=>aC x8 (o8 cP ag N) U λ_ C=>K C:=by
 have O:=h.old;have ah:∀i j r,i≠j->A i r->¬A j r:=by obtain⟨_,_,_,_,_,_,_,_,_,_,_,_,_,ai⟩:=id h;exact(ai rfl).1
 have P:∀r,A 2 r->gs<r:=λr h=>(z 2 r h).resolve_right λQ=>ah 2 4 r Ω h (f r Q).2;have S:∀j,¬A j gs:=λj h=>(z j gs h).elim (λh=>Ω) λh=>by have:=(f gs h).1;omega
 have aj:=M.lt;obtain⟨szv,ax,ay,al,az,W,am,h1,Q,aB,an,aD,aE,F⟩:=id O;obtain⟨F,X⟩:=F rfl;have W:v=al:=by rw[am]at x;exact(Z0 x).symm
 subst W;have ao:bl (λr=>B r/\r<w.heap.size) R w xs a:=ak.mono ac (λr e h=>⟨h,e⟩) λ_ _ h=>h;refine og (pl:=_) (l:=aT) aA.p rfl cP.u cP.i au.i rfl M x an I ao (λr e Y=>⟨λap=>(q r e ap.1).1 2 Y.1,X 2 r Y⟩) ⟨λh=>S 2 h.1,λh=>by have:=(q gs aj h.1).2;omega,λh=>by have:=s gs h;omega⟩ Ω Ω λN C aa aq av=>?_;refine af _ _ C (aa.mono λr _ h=>h.elim (λh=>by have:=P r h.1;omega) λh=>Ω) aq (O.jX aa (λr e=>?_) av (λj r J e=>?_) λr e=>?_) (λj r e=>?_) (λr L=>⟨(f r L).1,?_⟩) λj J=>?_
 .rcases e with e|rfl
  .exact .inl e
  .exact .inr ⟨λj h=>S j h.1,λh=>by have:=s r h;omega⟩
 .rcases e with e|e|e
  .exact F 2 j r (S6 J) e
  .exact λh=>(q r e.2 e.1).1 j h.1
  .exact λh=>by have:=h.2;omega
 .rcases e with e|e|e
  .exact X 2 r e
  .exact λh=>by have:=(q r e.2 e.1).2;have:=s r h;omega
  .exact λh=>by have:=s r h;omega
 .unfold fk at e;split at e
  .rcases e with e|e|e
   .exact .inl (P r e.1)
   .exact .inl (q r e.2 e.1).2
   .exact .inl Ω
  .exact z j r e.1
 .unfold fk;rw[if_neg Ω];exact⟨(f r L).2,by have:=(f r L).1;omega⟩
 .rw[Y5 (S6 J)]
theorem bt.Pd{a:iy}{ab:r9}(h:bt true A R w cs k sizes zero D G aT H E)(M:ad w gs aA cs)(x:cs[6]?=σ v)(z:∀j r,A j r->gs<r\/Z r)(f:∀r,Z r->r<gs/\A 4 r)(s:∀r,R r->r<gs)(I:cc w 4 y 1 xs)(ac:bl B R w xs a)(q:∀r,r<w.heap.size->B r->(∀j,¬A j r)/\gs<r)(av:H.length<=1000)(af:∀aI bu w',ae (λr=>gs<=r) w w'->ad w' gs aA bu->bt true aI R w' bu k sizes zero D G aT (H++[a]) E->(∀j r,aI j r->gs<r\/Z r)->(∀r,Z r->r<gs/\aI 4 r)->(∀j,j≠6->bu[j]?=cs[j]?)->K w'):
  aC x8 (Z3 #[dm,dm] ab #[v,y]) w λN U=>V x8 (u6 aA (Γ gs) 6) U λag=>aC x8 (o8 dm ag N) U λ_ C=>K C:=by
 have O:=h.old;have ah:∀i j r,i≠j->A i r->¬A j r:=by obtain⟨_,_,_,_,_,_,_,_,_,_,_,_,_,ai⟩:=id h;exact(ai rfl).1
 have P:∀r,A 3 r->gs<r:=λr h=>(z 3 r h).resolve_right λQ=>ah 3 4 r Ω h (f r Q).2;have S:∀j,¬A j gs:=λj h=>(z j gs h).elim (λh=>Ω) λh=>by have:=(f gs h).1;omega
 have aj:=M.lt;obtain⟨szv,aw,ax,ay,al,W,am,h1,Q,az,aB,an,aD,F⟩:=id O;obtain⟨F,X⟩:=F rfl;have W:v=al:=by rw[am]at x;exact(Z0 x).symm
 subst W;have ao:bl (λr=>B r/\r<w.heap.size) R w xs a:=ak.mono ac (λr e h=>⟨h,e⟩) λ_ _ h=>h;refine og (pl:=_) (l:=H) aA.p rfl dm.u dm.i cU.i rfl M x an I ao (λr e Y=>⟨λap=>(q r e ap.1).1 3 Y.1,X 3 r Y⟩) ⟨λh=>S 3 h.1,λh=>by have:=(q gs aj h.1).2;omega,λh=>by have:=s gs h;omega⟩ Ω Ω λN C aa aq au=>?_;refine af _ _ C (aa.mono λr _ h=>h.elim (λh=>by have:=P r h.1;omega) λh=>Ω) aq (O.jY aa (λr e=>?_) au (λj r J e=>?_) λr e=>?_) (λj r e=>?_) (λr L=>⟨(f r L).1,?_⟩) λj J=>?_
 .rcases e with e|rfl
  .exact .inl e
  .exact .inr ⟨λj h=>S j h.1,λh=>by have:=s r h;omega⟩
 .rcases e with e|e|e
  .exact F 3 j r (S6 J) e
  .exact λh=>(q r e.2 e.1).1 j h.1
  .exact λh=>by have:=h.2;omega
 .rcases e with e|e|e
  .exact X 3 r e
  .exact λh=>by have:=(q r e.2 e.1).2;have:=s r h;omega
  .exact λh=>by have:=s r h;omega
 .unfold fk at e;split at e
  .rcases e with e|e|e
   .exact .inl (P r e.1)
   .exact .inl (q r e.2 e.1).2
   .exact .inl Ω
  .exact z j r e.1
 .unfold fk;rw[if_neg Ω];exact⟨(f r L).2,by have:=(f r L).1;omega⟩
 .rw[Y5 (S6 J)]
end
def iz(w:x4)(g:Nat)(k:Int)(sizes:Λ)(s:am):Prop:=∃szv a e f h j,ad w g aA [Δ k,szv,Δ s.zero,a,e,f,h,j]/\aH .i64 w szv sizes/\Seen eN w [szv] sizes/\
 Seen eN w [a] (s.vars.map ax)/\Seen eN w [e] (s.vars.map λx=>decide (x.gone≠0))/\Seen eN w [f] (s.vars.map (·.un))/\Seen eN w [h] (s.funs.map hF)/\Seen eN w [j] (s.dd.map pz)
section
variable{w w':x4}{g:Nat}{v:x3}{k:Int}{sizes:Λ}{s:am}
theorem iz.ext(h:iz w g k sizes s)(a:Ext w w'):iz w' g k sizes s:=by
 obtain⟨szv,e,f,j,p,q,r,h1,x,y,z,A,B,C⟩:=h;exact⟨szv,e,f,j,p,q,r.ext a,h1.ext a,bi x a,bi y a,bi z a,bi A a,bi B a,bi C a⟩
theorem eW.box(h:eW w v k sizes s)(f:Ext w w')(j:ad w' g aA v.cells.toList):iz w' g k sizes s:=by
 obtain⟨cs,rfl,szv,z,B,C,E,F,rfl,h1,p,q,r,x,y,_⟩:=h;obtain⟨_,_,_,G⟩:=cY (dD h1);have c:∀{α:Type}[ak α]{v:x3}{l:List α}{A:af},ak.rep false A eN w [v] l->∃a n c,v= .slice a n c:=λh=>by
  obtain⟨_,_,_,_,_,⟨_,b,o,base,cap,e,_⟩,_⟩:=ie h;exact⟨_,_,_,e⟩
 obtain⟨_,_,_,H⟩:=c p;obtain⟨_,_,_,I⟩:=c q;obtain⟨_,_,_,J⟩:=c r;obtain⟨_,_,_,K⟩:=c x;obtain⟨_,_,_,L⟩:=c y;refine⟨szv,z,B,C,E,F,?_,(dD h1).ext f,bi h1 f,bi p f,bi q f,bi r f,bi x f,bi y f⟩;rw[G,H,I,J,K,L]at j ⊢;exact j
theorem iz.load{K:x3->Prop}(h:iz w g k sizes s)(a:∀u,eW w u k sizes s->K u):V x8 (u5 aA (Γ g)) w K:=by
 obtain⟨szv,e,f,j,q,r,x,h1,y,z,A,B,C,E⟩:=h;rw[bF aA.p aA.i rfl x.range];exact a _ ⟨_,rfl,szv,e,f,j,q,r,rfl,y,z,A,B,C,E,λh=>by cases h⟩
theorem Pe{i:Int}(h:eW w v k sizes s):ai x8 Hv [v,Δ i] w λr w'=>r= .bool (decide (0<=i/\i<sizes.length))/\Ext w w':=by
 refine ay func143 ?_;refine bk λg1 J x a e=>?_;obtain⟨szv,y,z,A,B,C,e,q,_⟩:=h.box a e;refine aW (λv U=>v= .bool (decide (0<=i/\i<sizes.length))/\Ext w U) (λ_ _ h=>h) λaw f=>?_;rw[cQ,aj];refine⟨λj=>?_,λj=>f _ _ ⟨by rw[decide_eq_false];omega,a⟩⟩;rw[aG aA.p 1 e rfl,aV an.u q,aR];refine f _ _ ⟨?_,a⟩;congr 1;exact decide_eq_decide.2 ⟨λh=>⟨j,h⟩,λh=>h.2⟩
theorem mW{m:Bool}{S R:af}{cs:List x3}{f:cK}(h:ak.rep (α:=iy) m S R w cs (hF f)):∃aL szv aZ,cs=[aL,szv,aZ,.bool (decide (f.live≠0))]/\Seen eN w [aL] f.sc/\Seen eN w [szv] f.ah/\Seen eN w [aZ] f.cs:=by
 obtain⟨E,p,A,B,rfl,_,_,_,⟨q,F,aI,G,rfl,_,_,_,h1,r,s,H,x,rfl,_,_,_,a,e⟩,j⟩:=h;have one:∀{α:Type}[ak α]{m:Bool}{S R:af}{c:List x3}{l:List α},ak.rep m S R w c l->∃v,c=[v]:=λh=>by obtain⟨v,y,_⟩:=h;exact⟨v,y⟩
 have h1:Seen _ w q f.sc:=h1;have a:Seen _ w r f.ah:=a;have j:p=[.bool (decide (f.live≠0))]:=j;have e:ak.rep m x R w s f.cs:=e;obtain⟨z,rfl⟩:=one h1;obtain⟨C,rfl⟩:=one a;obtain⟨v3,rfl⟩:=one e;subst j;exact⟨z,C,v3,rfl,hS h1,hS a,hS e⟩
theorem Pf{j:Int}(h:eW w v k sizes s):ai x8 IF [v,Δ j] w λr w'=>r= .bool (decide (0<=j)&&hh s j.toNat)/\Ext w w':=by
 refine ay func248 ?_;refine bk λg1 J C a e=>?_;obtain⟨szv,E,G,H,I,K,e,L,_,_,_,_,y,_⟩:=h.box a e;refine aW (λv U=>v= .bool (decide (0<=j)&&hh s j.toNat)/\Ext w U) (λ_ _ h=>h) λaw q=>?_;rw[cQ,aj];refine⟨λx=>?_,λx=>q _ _ ⟨by rw[decide_eq_false x];rfl,a⟩⟩;rw[aG aA.p 6 e rfl,fG dm.u y,aR,aj,u7];refine⟨λM=>?_,λN=>q _ _ ⟨by unfold hh;rw[Y4 Ω,Bool.and_false],a⟩⟩;obtain⟨f,z⟩:=aD (l:=s.funs) (i:=j.toNat) Ω;rw[aG aA.p 6 e rfl];refine jH (i:=j.toNat) Ω dm.u cU.i y (by rw[v8,z];rfl) λb o cs A B=>?_;obtain⟨O,P,v3,rfl,_⟩:=mW B;rw[aS cU.p rfl,aF (v:=.bool (decide (f.live≠0))) Ψ (A 3 _ rfl)];exact q _ _ ⟨by unfold hh;rw[z,decide_eq_true x,Bool.true_and],a⟩
end
end Go.Proofs.YtikkpokkcdocoaaGreatDoor
namespace Go.Vc
open Go Go.RowKit
section
variable{P:W9}{w:x4}{α:Type}[ak α]{S R:af}
theorem q3{t:r9}{b:Nat}(f:P.underlying t=σ (.slice e))(hi:aP P e (ak.n α) b z)(j:∀v w',Ext w w'->bl (λr=>w.heap.size<=r) R w' [v] ([]:List α)->K v w'):aC P (Y8 t 0 #[]) w K:=
 jF f hi Ω (cs:=#[]) (by simp[Instr.fill]) λg w' x p q=>j _ w' p (by
  have hm:bW w' g e (ak.n α) (.slice (σ ⟨g,0,ν⟩) 0 0) 0 []:=bW.full (by simpa using q) Ξ (by simp[maxLen]);exact⟨_,rfl,[],g,λ_ _=>False,⟨λ_ _ h=>h.elim,λ_ _ h=>h,λ_ _ _ _ _ h=>h.elim⟩,⟨rfl,λi c a s=>by simp at s⟩,nC hm (.inr (.inl Ω)),λ_=>⟨.inr Ω,e,hm⟩⟩)
theorem q4{t p:r9}{b:Nat}{v x:x3}{m:Bool}{S':af}{l':List α}(j:P.underlying t=σ (.slice e))(hi:aP P e (ak.n α) b z)(q:z.cells.size=ak.n α)(h:bl S R w [v] ([]:List α))(s:ak.rep m S' R w [x] l')(y:∀{F:af}{c:List x3}{a:α},ak.rep m F R w c a->bl (λ_=>False) R w c a)(A:∀r,r<w.heap.size->S r->¬R r)(B:l'.length*b<=140737488355328)(C:l'.length<=9223372036854775807)(E:∀f w',bl (λr=>S r\/w.heap.size<=r) R w' [f] l'->ae S w w'->K f w'):aC P (Z3 #[t,t] p #[v,x]) w K:=by
 obtain⟨vs,g,F,N,he,I,_⟩:=ie s;refine zM (l:=[]) (l':=l') (us:=vs) (G:=λ_ _=>False) j j hi q h I.sl ⟨he.1,λi c a H J=>y (he.2 i c a H J)⟩ (λ_ _ _ _ h=>h.elim) (λr L h=>⟨λ_ h=>h,A r L h⟩) (by simpa using B) (by simpa using C) λf w' h1 M=>E f w' (ak.mono h1 (λr _ h=>?_) λ_ _ h=>h) M;rcases h with h|⟨_,h⟩|h
 .exact .inl h
 .exact h.elim
 .exact .inr h
end
end Go.Vc
namespace Go.Proofs.YtikkpokkcdocoaaGreatDoor
open Go Go.Vc Go.RowKit Go.Proofs Go.Proofs.Tryz
set_option maxRecDepth 100000
theorem pB{α:Type}[ak α]{m:Bool}{S R:af}{v:x3}{l:List α}(h:ak.rep m S R w [v] l):∃a n c,v= .slice a n c:=by
 obtain⟨_,_,_,_,_,⟨_,b,o,base,cap,e,_⟩,_⟩:=ie h;exact⟨_,_,_,e⟩
theorem Pg{cc:Nat->af}{R:af}{cs:List x3}{s:am}(h:fQ true cc R w cs k sizes s)(E:∀r,R r->r<w.heap.size)(aL:bg k sizes s)(eS:s.funs.length<=1000)(he:s.dd.length<=1000):
  ai x8 Gs [.agg cs.toArray] w λv w'=>Ext w w'/\∃A bu,v= .agg bu.toArray/\fQ true A R w' bu k sizes s/\∀q r,A q r->w.heap.size<=r:=by
 have eU:=aL.ef.2.1;have eV:=aL.vars;obtain⟨szv,Y,ab,ac,aj,I,rfl,cd,bp,ce,cg,br,bx,c7⟩:=bt.old h;refine ay func34 ?_;refine bk λg1 J eW ch N=>?_;have N:ad J g1 aA [Δ k,szv,Δ s.zero,Y,ab,ac,aj,I]:=by
  obtain⟨_,_,_,c8⟩:=pB cd;obtain⟨_,_,_,c9⟩:=pB bp;obtain⟨_,_,_,da⟩:=pB ce;obtain⟨_,_,_,db⟩:=pB cg;obtain⟨_,_,_,dc⟩:=pB br;obtain⟨_,_,_,de⟩:=pB bx;rw[c8,c9,da,db,dc,de]at N ⊢;exact N
 have df:∀u∈([Δ k,szv,Δ s.zero,Y,ab,ac,aj,I]:List x3),u.oneCell'=true:=(bt.len h).2;refine bw aA.i λgt U eX bz ci=>?_;rw[bF aA.p aA.i rfl (N.ext bz).range];refine bw aA.i λgs eY eZ bA dg=>?_;refine bT (vs:=[Δ k,szv,Δ s.zero,Y,ab,ac,aj,I]) aA.i rfl rfl df dg λO cj e0 ck=>?_;have e1:=ch.size;have e2:=bz.size;have z3:=bA.size;have e3:=N.lt;have e4:=ci.lt;have bB:Ext J O:=(bz.trans bA).put cj Ω;have dh:=(ci.ext bA).aa cj λhe=>by have he:gt=gs:=he;omega
 have cl:=ch.trans bB;have bC:∀r,R r->r<gs:=λr B=>by have:=E r B;omega
 refine q3 (α:=Bool) (R:=R) hM.u eb.i λv5 P al di=>?_;have aN:=bB.trans al;have z4:=bB.size;have z5:=al.size;rw[aG aA.p 4 (N.ext aN) rfl];refine q4 (α:=Bool) hM.u eb.i rfl di (bi (bi ce cl) al) (λh=>h) (λr B y H=>by have:=E r H;omega) Θ Θ λbE aY bG cm=>?_;have aU:∀{K L:x4}{b:Nat}{e:r9}{c:List x3},ae (λr=>gs<=r) K L->b<gs->ad K b e c->ad L b e c:=λbH e5 h=>h.aa bH λy=>by have y:gs<=_:=y;omega
 have aO:∀{K L:x4},Ext w K->ae (λr=>gs<=r) K L->Ext w L:=λdj bH=>dj.then bH λr B h=>by have h:gs<=r:=h;omega
 have e7:=ck.lt;have bI:ae (λr=>gs<=r) P aY:=cm.mono λr _ h=>by have h:O.heap.size<=r:=h;omega
 have dk:ad aY gs aA [Δ k,szv,Δ s.zero,Y,ab,ac,aj,I]:=(ck.ext al).aa cm λh=>by have h:O.heap.size<=gs:=h;omega
 rw[aS aA.p rfl];refine bq (g:=gs) (o:=3) b2.i Ψ rfl dk Ξ λe8 dl e9 dn=>?_;rw[aS aA.p rfl];refine bq (g:=gs) (o:=4) hM.i (kj bG) (hT bG) dn Ξ λfa dp fb dq=>?_;rw[aS aA.p rfl];refine bq (g:=gs) (o:=5) cP.i Ψ rfl dq Ξ λfc dr fd ds=>?_;rw[aS aA.p rfl];refine bq (g:=gs) (o:=6) dm.i Ψ rfl ds Ξ λaZ dt fe bJ=>?_;have bJ:ad aZ gs aA [Δ k,szv,Δ s.zero,.slice ν 0 0,bE,.slice ν 0 0,.slice ν 0 0,I]:=bJ;have bK:∀{K L:x4},ae (λr=>r=gs) K L->ae (λr=>gs<=r) K L:=λh=>h.mono λr _ h=>by have h:r=gs:=h;omega
 have a1:ae (λr=>r=gs) aY aZ:=((dl.trans dp).trans dr).trans dt;have a2:Ext w aZ:=aO (aO (cl.trans al) bI) (bK a1);have cn:=aU (bK a1) Ω (aU bI Ω (N.ext aN));have du:=aU (bK a1) Ω (aU bI Ω (dh.ext al));obtain⟨ff,dv⟩:=c7 rfl;let Z:af:=λr=>cc 4 r/\r<w.heap.size;have cp:∀r,Z r->r<gs:=λr h=>by have:=h.2;omega
 let Q:Nat->af:=λj r=>if j=1 then O.heap.size<=r else if j=4 then Z r else False;have dw:bt true Q R aZ [Δ k,szv,Δ s.zero,.slice ν 0 0,bE,.slice ν 0 0,.slice ν 0 0,I] k sizes s.zero [] (s.vars.map λx=>decide (x.gone≠0)) [] [] (s.dd.map pz):=by
  refine⟨_,_,_,_,_,_,rfl,bi cd a2,fV,?_,fV,fV,bi bx a2,λ_=>⟨λi j r fg h1 y=>?_,λi r h1 y=>?_⟩⟩
  .have dx:bl (λr=>O.heap.size<=r) R aY [bE] (s.vars.map λx=>decide (x.gone≠0)):=ak.mono bG (λr _ h=>by
    rcases h with h|h
    .exact h
    .show O.heap.size<=r;omega) λ_ _ h=>h
   refine ak.aa dx a1 λr B h1 y=>?_;have y:r=gs:=y;subst y;rcases h1 with h1|h1
   .have h1:O.heap.size<=r:=h1;omega
   .have:=E r h1;omega
  .simp only[Q]at h1 y;split at h1<;>split at y
   .omega
   .split at y
    .have:=y.2;omega
    .exact y
   .split at h1
    .have:=h1.2;omega
    .exact h1
   .split at h1<;>split at y
    .omega
    .exact y
    .exact h1
    .exact h1
  .simp only[Q]at h1;have:=E r y;split at h1
   .omega
   .split at h1
    .exact dv 4 r h1 y
    .exact h1
 have dy:∀j r,Q j r->gs<r\/Z r:=λj r h=>by
  simp only[Q]at h;split at h
  .exact .inl Ω
  .split at h
   .exact .inr h
   .exact h.elim
 have dz:∀r,Z r->r<gs/\Q 4 r:=λr h=>⟨cp r h,h⟩;have dA:=bi bp a2;rw[aG aA.p 3 cn rfl,fG b2.u dA,u7];refine b1.range s.vars.length (λi P=>Ext w P/\ad P g1 aA [Δ k,szv,Δ s.zero,Y,ab,ac,aj,I]/\ad P gt aA z12/\∃A cs,ad P gs aA cs/\(∀q r,A q r->gs<r\/Z r)/\(∀r,Z r->r<gs/\A 4 r)/\
  bt true A R P cs k sizes s.zero ((s.vars.take i).map ax) (s.vars.map λx:bh=>decide (x.gone≠0)) ((s.vars.take i).map λx:bh=>x.un) [] (s.dd.map pz)) Ω ⟨a2,cn,du,Q,_,bJ,dy,dz,dw⟩ ?_ ?_
 .rintro i dC dD hi ⟨a6,a7,bL,A,cs,ap,bM,aP,aQ⟩ dE;obtain⟨x,a8⟩:=aD (l:=s.vars) hi;obtain⟨z,cq⟩:=aD (l:=sizes) (i:=i) Ω;have fh:=(aL.var i x z a8 cq).1;have fi:=aL.ef.2.2 z (x6 cq);have fj:(ax x).length<=32:=by
   unfold ax;refine X0 (List.length_filter_le _ _) ?_;rw[u7,List.length_range];omega
  have dF:=ap.lt;refine bD Ω ?_;intro aq S _ _;have bN:=a6.trans S;have fm:=S.size;have cr:=a7.ext S;obtain⟨d0,ct⟩:=aQ.at 3 Ω;rw[aG aA.p 3 (ap.ext S) ct,aG aA.p 3 cr rfl];refine jH (α:=Λ) (a:=ax x) rfl b2.u an.i (bi bp bN) (by rw[v8,a8];rfl) λfo fp dG dH cu=>?_;obtain⟨cw,rfl⟩:∃u,dG=[u]:=by obtain⟨u,hu,_⟩:=cu;exact⟨u,hu⟩
  rw[aF (v:=cw) Ψ (by have:=dH 0 cw rfl;simpa using this)];refine q3 (α:=Int) (R:=R) an.u ag.i λfq fs ba dI=>?_;refine⟨.inl ba,?_⟩;refine q4 (α:=Int) an.u ag.i rfl dI (bi cu ba) (λh=>h) (λr B y H=>by have:=E r H;have:=bN.size;omega) Ω Ω λcz cA cB cC=>?_;have ft:=ba.size;have fu:=cC.size;have cD:Ext aq cA:=ba.then cC λr B h=>by have h:aq.heap.size<=r:=h;omega
  refine⟨.inl cD,?_⟩;have cE:bl (λr=>aq.heap.size<=r) R cA [cz] (ax x):=ak.mono cB (λr _ h=>by
   rcases h with h|h
   .exact h
   .show aq.heap.size<=r;omega) λ_ _ h=>h
  refine ig b2.u an.i Φ (a:=ax x) (cs:=[cz]) (kj cB) cE λfv fw aN _ dJ=>?_;have av:=cD.trans aN;refine⟨.inl av,?_⟩;have dK:=aQ.old.ext (S.trans av);refine bt.Pb dK (ap.ext (S.trans av)) ct (λq r h=>bM q r h.1) (λr h=>⟨(aP r h).1,(aP r h).2,by have:=(aP r h).1;omega⟩) bC dJ (bi cE aN) (λr B h=>⟨λj y=>by have h:aq.heap.size<=r:=h;omega,by have h:aq.heap.size<=r:=h;omega⟩) Θ λfx fy dL bO bP cF dM bQ _=>?_;have dN:Ext w dL:=aO (bN.trans av) bO;have dO:=aU bO Ω (cr.ext av);have dP:=aU bO Ω ((bL.ext S).ext av);have fz:=bP.lt;intro aw V _ _;have bR:=dN.trans V;have fA:=V.size;have cG:=dO.ext V;obtain⟨fB,cH⟩:=cF.at 5 Ω;rw[aG aA.p 5 (bP.ext V) cH,aG aA.p 5 cG rfl];refine jH (α:=Λ) (a:=x.un) rfl cP.u au.i (bi cg bR) (by rw[v8,a8];rfl) λfD fE bb dQ cI=>?_;obtain⟨cJ,rfl⟩:∃u,bb=[u]:=by obtain⟨u,hu,_⟩:=cI;exact⟨u,hu⟩
  rw[aF (v:=cJ) Ψ (by have:=dQ 0 cJ rfl;simpa using this)];refine q3 (α:=Int) (R:=R) au.u ao.i λfF fH bc dR=>?_;refine⟨.inl bc,?_⟩;refine q4 (α:=Int) au.u ao.i rfl dR (bi cI bc) (λh=>h) (λr B y H=>by have:=E r H;have:=bR.size;omega) Ω Ω λcK cL cM cN=>?_;have fI:=bc.size;have fJ:=cN.size;have cO:Ext aw cL:=bc.then cN λr B h=>by have h:aw.heap.size<=r:=h;omega
  refine⟨.inl cO,?_⟩;have cQ:bl (λr=>aw.heap.size<=r) R cL [cK] x.un:=ak.mono cM (λr _ h=>by
   rcases h with h|h
   .exact h
   .show aw.heap.size<=r;omega) λ_ _ h=>h
  refine ig cP.u au.i Φ (a:=x.un) (cs:=[cK]) (kj cM) cQ λfK fL cR _ dS=>?_;have az:=cO.trans cR;refine⟨.inl az,?_⟩;have dT:=cF.old.ext (V.trans az);refine bt.Pc dT (bP.ext (V.trans az)) cH (λq r h=>dM q r h.1) (λr h=>⟨(bQ r h).1,(bQ r h).2,by have:=(bQ r h).1;omega⟩) bC dS (bi cQ cR) (λr B h=>⟨λj y=>by have h:aw.heap.size<=r:=h;omega,by have h:aw.heap.size<=r:=h;omega⟩) Θ λdU dV fM bS dW dX dY dZ _=>?_;rw[aM];refine dE _ ⟨aO (bR.trans az) bS,aU bS Ω (cG.ext az),aU bS Ω ((dP.ext V).ext az),dU,dV,dW,dY,dZ,?_⟩;rw[r8,a8,l7,Z2,Z2];exact dX
 rintro dC dD ⟨a6,a7,bL,A,cs,ap,bM,aP,aQ⟩;rw[o6]at aQ;refine b7 Ω ?_;have ea:=bi br a6;have dF:=ap.lt;rw[aG aA.p 6 a7 rfl,fG dm.u ea,u7];refine b1.range s.funs.length (λj C=>Ext w C/\ad C g1 aA [Δ k,szv,Δ s.zero,Y,ab,ac,aj,I]/\ad C gt aA z12/\∃A cs,ad C gs aA cs/\(∀q r,A q r->gs<r\/Z r)/\(∀r,Z r->r<gs/\A 4 r)/\
  bt true A R C cs k sizes s.zero (s.vars.map ax) (s.vars.map λx:bh=>decide (x.gone≠0)) (s.vars.map λx:bh=>x.un) ((s.funs.take j).map hF) (s.dd.map pz)) Ω ⟨a6,a7,bL,A,cs,ap,bM,aP,aQ⟩ ?_ ?_
 .rintro j C ec cS ⟨M,bU,bd,aR,bb,aB,be,aT,W⟩ ed;obtain⟨f,bV⟩:∃f,s.funs[j]?=σ f:=⟨_,x7 cS⟩;obtain⟨_,fN,fO⟩:=ts aL (x6 bV);have ee:=aB.lt;refine bD Ω ?_;refine lX cU.p rfl dm.u cU.i (bi br M) (by rw[v8,bV];rfl) λfP bW=>?_;have eg:=ak.one bW;have fR:=bW;obtain⟨cT,cV,eh,ei,rfl,_,_,_,⟨bf,cW,ej,ek,rfl,_,_,_,aC,cX,cY,fS,em,rfl,_,_,_,aE,aH⟩,bX⟩:=bW;have aC:Seen R C bf f.sc:=aC;have aE:Seen R C cX f.ah:=aE;have aH:ak.rep true em R C cY f.cs:=aH;have bX:cV=[.bool (decide (f.live≠0))]:=bX;obtain⟨aV,rfl⟩:∃u,bf=[u]:=by obtain⟨u,hu,_⟩:=aC;exact⟨u,hu⟩
  obtain⟨aI,rfl⟩:∃u,cX=[u]:=by obtain⟨u,hu,_⟩:=aE;exact⟨u,hu⟩
  obtain⟨v3,rfl⟩:∃u,cY=[u]:=by obtain⟨u,hu,_⟩:=aH;exact⟨u,hu⟩
  subst bX;refine bw cU.i λaJ fU fW en eo=>?_;refine bT (vs:=[aV,aI,v3,.bool (decide (f.live≠0))]) cU.i rfl rfl eg eo λG ep fX bj=>?_;have bY:Ext C G:=en.put ep Ω;refine q3 (α:=Int) (R:=R) au.u ao.i λfY fZ bm er=>?_;have cZ:=bY.trans bm;rw[aS cU.p rfl,aS aX.p rfl,aF (v:=v3) Ψ ((bj.ext bm).cell (o:=0+0+2) rfl)];refine q4 (α:=Int) au.u ao.i rfl er (bi aH cZ) (λh=>h) (λr B y H=>by have:=E r H;have:=(M.trans bY).size;omega) Ω Ω λaK gb bZ b0=>?_;have gc:=bY.size;have gd:=bm.size;have gf:=b0.size;have es:=(bj.ext bm).aa b0 λh=>by have h:G.heap.size<=aJ:=h;have:=bj.lt;omega
  rw[aS cU.p rfl,aS aX.p rfl];refine bq (g:=aJ) (o:=2) au.i (kj bZ) (hT bZ) es Ξ λbn c0 gg b3=>?_;have b3:ad bn aJ cU [aV,aI,aK,.bool (decide (f.live≠0))]:=b3;have gh:C.heap.size<=aJ:=Ω
  have gi:=bj.lt;have bo:Ext C bn:=(cZ.then b0 λr B h=>by have h:G.heap.size<=r:=h;omega).then c0 λr B h=>by have h:r=aJ:=h;omega
  have et:bl (λr=>G.heap.size<=r) R bn [aK] f.cs:=ak.mono (ak.aa bZ c0 λr B h y=>by
   have y:r=aJ:=y;rcases h with h|h
   .rcases h with h|h
    .have h:G.heap.size<=r:=h;omega
    .omega
   .have:=E r h;have:=M.size;omega) (λr _ h=>by
    rcases h with h|h
    .exact h
    .show G.heap.size<=r;omega) λ_ _ h=>h
  have own:bl (α:=iy) (λr=>G.heap.size<=r) R bn [aV,aI,aK,.bool (decide (f.live≠0))] (hF f):=
   ⟨[aV,aI,aK],[.bool (decide (f.live≠0))],λr=>G.heap.size<=r,λ_=>False,rfl,λ_ h=>h,λ_ h=>h.elim,λ_ _ _ h=>h,⟨[aV],[aI,aK],λ_=>False,λr=>G.heap.size<=r,rfl,λ_ h=>h.elim,λ_ h=>h,λ_ _ h=>h.elim,bi aC bo,[aI],[aK],λ_=>False,λr=>G.heap.size<=r,rfl,λ_ h=>h.elim,λ_ h=>h,λ_ _ h=>h.elim,bi aE bo,et⟩,rfl⟩
  obtain⟨f0,c1⟩:=W.at 6 Ω;rw[aG aA.p 6 (aB.ext bo) c1,bF cU.p cU.i rfl b3.range];refine ig dm.u cU.i Φ rfl own λgj gk c2 _ eu=>?_;have aW:=bo.trans c2;have ev:=W.old.ext aW;refine bt.Pd ev (aB.ext aW) c1 (λq r h=>be q r h.1) (λr h=>⟨(aT r h).1,(aT r h).2,by have:=(aT r h).1;omega⟩) bC eu (bi own c2) (λr B h=>⟨λj y=>by have h:G.heap.size<=r:=h;omega,by have h:G.heap.size<=r:=h;omega⟩) Θ λew ey gl b4 ez eA eB eC _=>?_;rw[aM];refine ed _ ⟨aO (M.trans aW) b4,aU b4 Ω (bU.ext aW),aU b4 Ω (bd.ext aW),ew,ey,ez,eB,eC,?_⟩;rw[r8,bV,l7,Z2];exact eA
 rintro C ec ⟨M,bU,bd,aR,bb,aB,be,aT,W⟩;rw[o6]at W;refine b7 Ω ?_;have ee:=aB.lt;have gm:=M.size;refine q3 (α:=lp) (R:=R) nr.u p0.i λgn eD X eE=>?_;have gp:=X.size;rw[aG aA.p 7 (bU.ext X) rfl];refine q4 (α:=lp) nr.u p0.i rfl eE (bi bx (M.trans X)) (λh=>?_) (λr B y H=>by have:=E r H;omega) Θ Θ λb5 gq b6 b8=>?_
 .obtain⟨cT,cV,eh,ei,rfl,_,_,_,aC,bf,cW,ej,ek,rfl,_,_,_,aE,aH⟩:=h;exact⟨cT,_,λ_=>False,λ_=>False,rfl,λ_ h=>h,λ_ h=>h,λ_ _ h=>h.elim,aC,bf,cW,λ_=>False,λ_=>False,rfl,λ_ h=>h,λ_ h=>h,λ_ _ h=>h.elim,aE,aH⟩
 have gu:=b8.size;have eF:=(aB.ext X).aa b8 λh=>by have h:C.heap.size<=gs:=h;omega
 rw[aS aA.p rfl];refine bq (g:=gs) (o:=7) nr.i (kj b6) (hT b6) eF (by rw[(bt.len W).1];omega) λb9 c3 gv eH=>?_;have ca:ae (λr=>C.heap.size<=r\/r=gs) eD b9:=(b8.mono λr _ h=>.inl h).trans (c3.mono λr _ h=>.inr h);have eI:bl (λr=>C.heap.size<=r) R b9 [b5] (s.dd.map pz):=ak.mono (ak.aa b6 c3 λr B h y=>by
  have y:r=gs:=y;rcases h with h|h
  .rcases h with h|h
   .have h:C.heap.size<=r:=h;omega
   .omega
  .have:=E r h;omega) (λr _ h=>by
   rcases h with h|h
   .exact h
   .show C.heap.size<=r;omega) λ_ _ h=>h
 have eJ:=(W.old).ext X;have eK:∀j,¬aR j gs:=λj h=>(be j gs h).elim (λh=>Ω) λh=>by have:=cp gs h;omega
 have eL:∀i j r,i≠j->aR i r->¬aR j r:=by obtain⟨_,_,_,_,_,_,_,_,_,_,_,_,_,eM⟩:=id W;exact(eM rfl).1
 have c4:=eJ.O3 (x:=b5) ca (λr B=>?_) eI (λj r cS B y=>by have B:C.heap.size<=r:=B;have:=y.2;omega) (λr B y=>by have B:C.heap.size<=r:=B;have:=E r y;omega)
 rotate_left
 .refine .inr ⟨λj y=>?_,λy=>?_⟩
  .rcases B with B|rfl
   .have:=y.2;omega
   .exact eK j y.1
  .have:=E r y;rcases B with B|B<;>omega
 obtain⟨cb,eN⟩:=c4.len;have eO:ad b9 gt aA z12:=(bd.ext X).aa ca λh=>by
  rcases h with h|h
  .have:=bd.lt;omega
  .omega
 rw[bF aA.p aA.i cb eH.range];refine bT (vs:=bb.set 7 b5) aA.i cb rfl eN eO λgw c5 gx eP=>?_;rw[e6 aA.p aA.i cb eP.range];have c6:∀q r,fk (λi r=>aR i r/\r<C.heap.size) 4 (λr=>C.heap.size<=r) q r->gs<r:=λq r h=>by
  unfold fk at h;split at h
  .have h:C.heap.size<=r:=h;omega
  .rename_i eQ;exact(be q r h.1).resolve_right λy=>eL q 4 r eQ h.1 (aT r y).2
 have eR:=c4.aa c5 λr B h he=>by
  have he:r=gt:=he;rcases h with⟨q,h⟩|h
  .have:=c6 q r h;omega
  .have:=E r h;omega
 refine⟨((M.trans X).then ca λr B h=>?_).then c5 λr B h=>by have h:r=gt:=h;omega,_,_,rfl,eR,λq r h=>by have:=c6 q r h;omega⟩;rcases h with h|h<;>omega
theorem tC{T:Nat->Prop}(h:ae S w w')(k:ae T w w'):ae (λr=>S r/\T r) w w':=
 ⟨h.size,λr o a I f=>by
  by_cases e:S r
  .exact k.aU r o a I λj=>f ⟨e,j⟩
  .exact h.aU r o a I e⟩
theorem mc{A R:af}{n:aK}{s:am}{t:az}(h:bH w ab ac A R n s t):∀r,A r\/R r->r<w.heap.size:=λr a=>by
 obtain⟨j,p,q,x,⟨_,_,e,f⟩,_⟩:=h.1;exact a.elim (f r) (e r)
structure b5(w:x4)(ab ac al:Nat)(A R:af)(A9:Nat->af)(aB:af)(n:aK)(s u:am)(t:az)(h:List az)(cs:List x3):Prop where
 de:bH w ab ac A R n s t
 hg:hv t h
 box:ad w al aA cs
 doc:fQ true A9 aB w cs n.k n.sizes u
 apart:∀q r,A9 q r->¬A r/\¬R r/\r≠al
 read:∀r,aB r->¬eA w r/\r<w.heap.size/\r≠al
 out:¬A al/\¬R al
section
variable{w w':x4}{ab ac al:Nat}{A R:af}{A9:Nat->af}{aB:af}{n:aK}{s u:am}{t:az}{h:List az}{cs:List x3}
theorem b5.ext(p:b5 w ab ac al A R A9 aB n s u t h cs)(a:Ext w w'):b5 w' ab ac al A R A9 aB n s u t h cs:=
 ⟨p.de.ext a,p.hg,p.box.ext a,p.doc.ext a,p.apart,λr e=>⟨λh=>(p.read r e).1 (mN (λo f I _=>a.aU r o f I) h),by have:=(p.read r e).2.1;have:=a.size;omega,(p.read r e).2.2⟩,p.out⟩
theorem b5.prog{aI R':af}{s':am}{bn:az}{h':List az}(p:b5 w ab ac al A R A9 aB n s u t h cs)(x:ae (eA w) w w')(f:Grow A w aI w')(C:bH w' ab ac aI R' n s' bn)(j:hv bn h')(y:∀r,R' r->R r\/B<=r)(E:∀q r,A9 q r->r<w.heap.size->r<B)(J:al<B):
  b5 w' ab ac al aI R' (λq r=>A9 q r/\r<w.heap.size) aB n s' u bn h' cs:=by
 have K:=p.box.lt;have z:=x.size;refine⟨C,j,p.box.aa f.1 p.out.1,bt.aa p.doc.old (tC x f.1) λr e h j=>?_,λq r h=>⟨λa=>?_,λe=>(y r e).elim (p.apart q r h.1).2.1 λF=>by have:=E q r h.1 h.2;omega,(p.apart q r h.1).2.2⟩,λr e=>⟨λh=>?_,by have:=(p.read r e).2.1;omega,(p.read r e).2.2⟩,λa=>?_,λe=>(y al e).elim p.out.2 λF=>Ω⟩
 .rcases h with⟨q,h⟩|h
  .exact (p.apart q r h.1).1 j.2
  .exact (p.read r h).1 j.1
 .rcases f.2.1 r a with a|a
  .exact (p.apart q r h.1).1 a
  .have:=h.2;omega
 .exact (p.read r e).1 (mN (λo G I H=>x.aU r o G I H) h)
 .rcases f.2.1 al a with a|a
  .exact p.out.1 a
  .omega
theorem b5.Ph{S:af}{cq:Nat->af}{u':am}{bu:List x3}(p:b5 w ab ac al A R A9 aB n s u t h cs)(f:ae S w w')(y:∀r,r<w.heap.size->S r->(∃q,A9 q r)\/r=al)(B:ad w' al aA bu)(C:fQ true cq aB w' bu n.k n.sizes u')(E:∀q r,cq q r->(∃j,A9 j r)\/(¬A r/\¬R r/\r≠al)):
  b5 w' ab ac al A R cq aB n s u' t h bu:=by
 have J:=p.box.lt;have z:=f.size;have F:∀q r,A9 q r->¬aB r:=by obtain⟨_,_,_,_,_,_,_,_,_,_,_,_,_,G⟩:=p.doc;exact(G rfl).2
 refine⟨⟨p.de.1.aa f λr e h I=>?_,p.de.2⟩,p.hg,B,C,λq r h=>?_,λr e=>⟨λh=>(p.read r e).1 (mN (λo H I _=>f.aU r o H I λa=>?_) h),by have:=(p.read r e).2.1;omega,(p.read r e).2.2⟩,p.out⟩
 .rcases y r e I with⟨q,a⟩|a
  .exact h.elim (p.apart q r a).1 (p.apart q r a).2.1
  .subst a;exact h.elim p.out.1 p.out.2
 .rcases E q r h with⟨j,a⟩|a
  .exact p.apart j r a
  .exact a
 .rcases y r (p.read r e).2.1 a with⟨q,x⟩|x
  .exact F q r x e
  .exact (p.read r e).2.2 x
theorem b5.Pj{S:af}{cq:Nat->af}{u':am}{bu:List x3}(p:b5 w ab ac al A R A9 aB n s u t h cs)(e:∀r,A r\/R r->r<B)(E:al<B)(f:ae S w w')(j:∀r,r<w.heap.size->S r->(∃q,A9 q r)\/r=al)(x:ad w' al aA bu)(y:fQ true cq aB w' bu n.k n.sizes u')(z:∀q r,cq q r->(∃C,A9 C r)\/B<=r):
  b5 w' ab ac al A R cq aB n s u' t h bu:=
 p.Ph f j x y λq r h=>(z q r h).imp id λF=>⟨λa=>by have:=e r (.inl a);omega,λa=>by have:=e r (.inr a);omega,Ω⟩
theorem b5.Ed{S:af}{cq:Nat->af}{u':am}{bu:List x3}(p:b5 w ab ac al A R A9 aB n s u t h cs)(a:ae S w w')(e:∀r,r<w.heap.size->S r->(∃q,A9 q r)\/r=al)(f:ad w' al aA bu)(j:fQ true cq aB w' bu n.k n.sizes u')(x:∀q r,cq q r->(∃y,A9 y r)\/w.heap.size<=r):
  b5 w' ab ac al A R cq aB n s u' t h bu:=p.Pj (mc p.de) p.box.lt a e f j x
theorem b5.look(p:b5 w ab ac al A R A9 aB n s u t h cs):iz w al n.k n.sizes u:=by
 refine eW.box p.doc.pA (Ext.refl _) ?_;have:=p.box;exact this
theorem b5.oh(p:b5 w ab ac al A R A9 aB n s u t h cs):∃szv a e f j q,cs=[Δ n.k,szv,Δ u.zero,a,e,f,j,q]/\aH .i64 w szv n.sizes:=by
 obtain⟨szv,a,e,f,j,q,h1,r,_⟩:=p.doc;exact⟨szv,a,e,f,j,q,h1,dD r⟩
end
end Go.Proofs.YtikkpokkcdocoaaGreatDoor
namespace Go.Vc
open Go Go.RowKit
section
variable{P:W9}{w:x4}{α:Type}[ak α]{S R:af}
theorem tD{v:x3}{l:List α}{i:Nat}{a:α}(h:bl S R w [v] l)(H:l[i]?=σ a)(Y:∀r,r<w.heap.size->S r->¬R r):∃g cap c F,v= .slice (σ ⟨g,0,ν⟩) l.length cap/\w.rangeAt g (i*ak.n α) c/\bl F R w c a/\(∀r,F r->S r)/\
  ∀{w':x4}{a':α}{T z:af},ae T w w'->(∀r,r<w.heap.size->T r->F r)->bl z R w' c a'->(∀r,z r->F r\/w.heap.size<=r)->bl (λr=>S r\/w.heap.size<=r) R w' [v] (l.set i a'):=by
 have ao:=(x5.1 H).1;obtain⟨vs,g,F,s,he,I,hm⟩:=ie h;obtain⟨Z,J,K⟩:=hm rfl;obtain⟨ap,⟨rfl,aq⟩|⟨cap,full,rfl,L,au,av,aw,ax⟩⟩:=id K
 .omega
 have ab:vs.length=l.length:=he.1;have M:S g:=Z.resolve_left Ξ;obtain⟨c,B⟩:∃c,vs[i]?=σ c:=⟨_,x7 Ω⟩;have ac:=he.2 i c a B H;refine⟨g,cap,c,F i,rfl,?_,ac,λr p=>s.sub i r p,λ{w' a' T z}N O P C=>?_⟩
 .obtain⟨_,ay,o',az,aA,ad,_,_,ag,_,ah⟩:=I;cases ad;cases ag Ω;intro j u ai;have Q:=ah (i*ak.n α+j) u (by rw[<-List.flatMap_id];exact pg (f:=id) (k:=ak.n α) (λx aj=>he.len x aj) B ai);rw[X3]at Q;exact Q
 have al:¬T g:=λh=>s.top rfl i (O g L.lt h);have aB:=ak.len P;have aC:vs.set i c=vs:=by
  refine Y7 λq=>?_;rw[X1];by_cases U:i=q
  .subst U;rw[if_pos rfl,if_pos Ω,B]
  .rw[if_neg U]
 have V:bW w' g J (ak.n α) (.slice (σ ⟨g,0,ν⟩) l.length cap) (l.set i a').length vs.flatten:=by
  rw[Z9];exact K.aa N λ_=>al
 refine⟨_,rfl,vs,g,λj r=>if j=i then z r else F j r/\r<w.heap.size,⟨λj r p=>?_,λ_ j p=>?_,λ_ j q r am h1 y=>?_⟩,⟨by simp[ab],λj W X G E=>?_⟩,?_,λ_=>⟨.inr (.inl M),J,V⟩⟩
 .split at p
  .exact (C r p).imp (s.sub i r) id
  .exact .inl (s.sub j r p.1)
 .split at p
  .rcases C g p with h|h
   .exact s.top rfl i h
   .have:=L.lt;omega
  .exact s.top rfl j p.1
 .split at h1<;>split at y
  .omega
  .rcases C r h1 with h|h
   .rename_i e _;exact s.gL rfl i q r Ω h y.1
   .have:=y.2;omega
  .rcases C r y with h|h
   .exact s.gL rfl j i r Ω h1.1 h
   .have:=h1.2;omega
  .exact s.gL rfl j q r am h1.1 y.1
 .by_cases A:j=i
  .subst A;rw[B]at G;rw[c9 Ω]at E;cases G;cases E;exact ak.mono P (λr _ h=>by simpa using h) λ_ _ h=>h
  .rw[Y5 (S6 A)]at E;have an:bl (λr=>if j=i then z r else F j r/\r<w.heap.size) R w W X:=ak.mono (he.2 j W X G E) (λr p h=>by rw[if_neg A];exact⟨h,p⟩) λ_ _ h=>h;refine ak.aa an N λr p h1 y=>?_;have y:=O r p y;rcases h1 with h1|h1
   .simp only[if_neg A]at h1;exact s.gL rfl j i r A h1.1 y
   .exact Y r p (s.sub i r y) h1
 .have:=nC (S:=λr=>(S r\/w.heap.size<=r)\/R r) V (.inr (.inl (.inl M)));exact this
theorem Ee{v:x3}{l:List α}{i:Nat}{a:α}(h:bl S R w [v] l)(N:l[i]?=σ a)(O:∀r,r<w.heap.size->S r->¬R r):∃g cap full z c F,v= .slice (σ ⟨g,0,ν⟩) l.length cap/\ad w g z full/\S g/\i*ak.n α+ak.n α<=full.length/\(∀(q:Nat)x,c[q]?=σ x->full[i*ak.n α+q]?=σ x)/\bl F R w c a/\(∀r,F r->S r)/\¬F g/\
  ∀{w':x4}{a':α}{A:List x3}{T C:af},ae T w w'->(∀r,r<w.heap.size->T r->F r\/r=g)->ad w' g z (over full (i*ak.n α) A)->bl C R w' A a'->(∀r,C r->F r\/w.heap.size<=r)->bl (λr=>S r\/w.heap.size<=r) R w' [v] (l.set i a'):=by
 have ag:=(x5.1 N).1;obtain⟨vs,g,F,y,he,I,hm⟩:=ie h;obtain⟨ah,z,ai⟩:=hm rfl;obtain⟨ay,⟨rfl,az⟩|⟨cap,full,rfl,P,Q,aj,U,V⟩⟩:=id ai
 .omega
 have W:vs.length=l.length:=he.1;have G:S g:=ah.resolve_left Ξ;obtain⟨c,K⟩:∃c,vs[i]?=σ c:=⟨_,x7 Ω⟩;have al:=he.2 i c a K N;have am:(i+1)*ak.n α<=l.length*ak.n α:=W0 _ ag;have an:l.length*ak.n α<=full.length:=by rw[U];exact W0 _ Q
 rw[U7,Nat.one_mul]at am;refine⟨g,cap,full,z,c,F i,rfl,P,G,Ω,λq x X=>?_,al,λr s=>y.sub i r s,y.top rfl i,λ{w' a' A T C}ao ap aq Y H=>?_⟩
 .have L:=pg (f:=id) (k:=ak.n α) (λx au=>he.len x au) K X;rw[List.flatMap_id,<-V]at L;have aA:=(x5.1 X).1;have M:=he.len c (x6 K);rw[Y0 Ω]at L;exact L
 have M:=ak.len Y;have av:∀c∈vs.set i A,c.length=ak.n α:=λc B=>by
  rcases W5 B with p|rfl
  .exact he.len c p
  .exact M
 have Z:bW w' g z (ak.n α) (.slice (σ ⟨g,0,ν⟩) l.length cap) (l.set i a').length (vs.set i A).flatten:=by
  refine⟨by rw[p7 av,Z9,Z9,W],.inr ⟨cap,_,by rw[Z9],aq,by rw[Z9];exact Q,aj,by rw[lU,U],?_⟩⟩;rw[Z9,sF Ω an,V,Ea he.len M Ω]
 refine⟨_,rfl,vs.set i A,g,λj r=>if j=i then C r else F j r/\r<w.heap.size,⟨λj r s=>?_,λ_ j s=>?_,λ_ j q r aw h1 p=>?_⟩,⟨by simp[W],λj ab ac B J=>?_⟩,?_,λ_=>⟨.inr (.inl G),z,Z⟩⟩
 .split at s
  .exact (H r s).imp (y.sub i r) id
  .exact .inl (y.sub j r s.1)
 .split at s
  .rcases H g s with h|h
   .exact y.top rfl i h
   .have:=P.lt;omega
  .exact y.top rfl j s.1
 .split at h1<;>split at p
  .omega
  .rcases H r h1 with h|h
   .rename_i e _;exact y.gL rfl i q r Ω h p.1
   .have:=p.2;omega
  .rcases H r p with h|h
   .exact y.gL rfl j i r Ω h1.1 h
   .have:=h1.2;omega
  .exact y.gL rfl j q r aw h1.1 p.1
 .by_cases E:j=i
  .subst E;rw[c9 Ω]at B;rw[c9 Ω]at J;cases B;cases J;exact ak.mono Y (λr _ h=>by simpa using h) λ_ _ h=>h
  .rw[Y5 (S6 E)]at B J;have ax:bl (λr=>if j=i then C r else F j r/\r<w.heap.size) R w ab ac:=ak.mono (he.2 j ab ac B J) (λr s h=>by rw[if_neg E];exact⟨h,s⟩) λ_ _ h=>h;refine ak.aa ax ao λr s h1 p=>?_;have p:=ap r s p;rcases h1 with h1|h1
   .simp only[if_neg E]at h1;rcases p with p|rfl
    .exact y.gL rfl j i r E h1.1 p
    .exact y.top rfl j h1.1
   .rcases p with p|rfl
    .exact O r s (y.sub i r p) h1
    .exact O r s G h1
 .have:=nC (S:=λr=>(S r\/w.heap.size<=r)\/R r) Z (.inr (.inl (.inl G)));exact this
end
end Go.Vc
namespace Go.Proofs.YtikkpokkcdocoaaGreatDoor
open Go Go.Vc Go.RowKit Go.Proofs Go.Proofs.Tryz
set_option maxRecDepth 100000
section
variable{w0 w:x4}{ab ac al ga:Nat}{A R:af}{A9 cq:Nat->af}{aB:af}{n:aK}{s u:am}{t:az}{h:List az}{cs bu:List x3}{aO aL lq:x3}{Q:x3->x4->Prop}
theorem b5.olds(p:b5 w0 ab ac al A R A9 aB n s u t h cs):b5 w0 ab ac al A R (λq r=>A9 q r/\r<w0.heap.size) aB n s u t h cs:=
 ⟨p.de,p.hg,p.box,p.doc.old,λq r a=>p.apart q r a.1,p.read,p.out⟩
end
theorem pC{α β:Type}{l:List α}{i:Nat}{a b:α}{f:α->β}(h:l[i]?=σ a)(j:f b=f a):(l.set i b).map f=l.map f:=by
 rw[U5,j];refine Y7 λq=>?_;rw[X1];by_cases e:i=q
 .subst e;rw[if_pos rfl,v8,h,if_pos (by rw[u7];exact(x5.1 h).1)];rfl
 .rw[if_neg e]
theorem w4{T:Nat->Prop}(h:ae T w w'):ae (λr=>T r/\r<w.heap.size) w w':=⟨h.size,λr o a I e=>h.aU r o a I λf=>e ⟨f,(j6.1 a).1⟩⟩
section
variable{w0 w w':x4}{ab ac al ga:Nat}{A R:af}{A9:Nat->af}{aB:af}{n:aK}{s u u':am}{t:az}{h:List az}{cs:List x3}{aO aL lq v:x3}{Q:x3->x4->Prop}
theorem bt.qh{m:Bool}{zero:Int}{D:List (Λ)}{G:List Bool}{aT:List (Λ)}{H:List iy}{E:List lp}{i:Nat}(a:cs[i]?=σ v)(h:bt m A9 aB w (cs.set i v) k sizes zero D G aT H E):bt m A9 aB w cs k sizes zero D G aT H E:=by
 have:cs.set i v=cs:=by
  refine Y7 λq=>?_;rw[X1];by_cases e:i=q
  .subst e;have:=(x5.1 a).1;rw[if_pos rfl,if_pos this,a]
  .rw[if_neg e]
 rw[this]at h;exact h
theorem b5.row{T:af}{cq:Nat->af}{q:Nat}(p:b5 w ab ac al A R A9 aB n s u t h cs)(a:ae T w w')(e:∀r,r<w.heap.size->T r->A9 q r)(f:fQ true cq aB w' cs n.k n.sizes u')(j:∀q r,cq q r->(∃x,A9 x r)\/w.heap.size<=r):
  b5 w' ab ac al A R cq aB n s u' t h cs:=
 p.Ed a (λr y h=>.inl ⟨q,e r y h⟩) (p.box.aa a λh=>(p.apart q al (e al p.box.lt h)).2.2 rfl) f j
theorem w5{q:Nat}{B:af}(a:∀r,B r->A9 q r\/w.heap.size<=r):∀j r,fk A9 q B j r->(∃e,A9 e r)\/w.heap.size<=r:=λj r h=>by
 unfold fk at h;split at h
 .exact (a r h).imp (λh=>⟨q,h⟩) id
 .exact .inl ⟨j,h⟩
end
theorem Pk{sv:x3}{q:Nat}{cap:Array x3}{p:Int->Bool}(h:aH .i64 w sv l)(z:∀w' x,Ext w w'->x∈l->ai x8 q (Δ x::cap.toList) w' λr A=>r= .bool (p x)/\Ext w' A):
  ai x8 uO [sv,.func (.func q) #[] cap] w λv w'=>Ext w w'/\((v=Δ (-1)/\∀x∈l,p x=false)\/∃i:Nat,v=Δ (i:Int)/\i<l.length/\(∀x∈l.take i,p x=false)/\∀x,l[i]?=σ x->p x=true):=by
 refine ay func138 ?_;rw[aV an.u h];refine b3.range l.length (λi _ J=>Ext w J/\∀x∈l.take i,p x=false) h.le ⟨Ext.refl _,Ξ⟩ ?_ ?_
 .rintro i _ J k hi ⟨e,f⟩ hk;refine bD Ω ?_;obtain⟨y,j⟩:=aD (l:=l) hi;rw[bc an.u ag.i Ψ (h.ext e) j];refine ai.mono (z J y e (x6 j)) ?_;rintro _ U _ ⟨rfl,s⟩;rw[cj];refine⟨λB=>⟨e.trans s,.inr ⟨i,rfl,hi,f,λx a=>by rw[j]at a;cases a;exact B⟩⟩,λC=>?_⟩;rw[aM];refine hk _ _ ⟨e.trans s,λx a=>?_⟩;rw[r8,j]at a;rcases l9.1 a with a|a
  .exact f x a
  .simp at a;subst a;exact C
 .rintro _ J k ⟨e,f⟩;rw[o6]at f;rw[aR,aj];exact⟨λh=>Ω,λ_=>⟨e,.inl ⟨rfl,f⟩⟩⟩
theorem Pl{sv:x3}{g R:Nat}{cap:Array x3}{p:Int->Bool}(h:aq .i64 e w g sv l)(aJ:l.length<=100000000)(S:∀w' x,ae (λr=>leads sv r) w w'->x∈l->ai x8 R (Δ x::cap.toList) w' λr Z=>r= .bool (p x)/\Ext w' Z):
  ai x8 GQ [sv,.func (.func R) #[] cap] w λv w'=>ae (λr=>leads sv r) w w'/\aq .i64 e w' g v (l.filter λx=>!p x)/\∀r,leads v r->leads sv r:=by
 refine ay func72 ?_;refine(Pk h.ls λw' x B=>S w' x (B.aa _)).mono ?_;rintro _ J _ ⟨C,⟨rfl,L⟩|⟨i,rfl,hi,L,ab⟩⟩
 .rw[bb,aj];refine⟨λ_=>⟨C.aa _,?_⟩,λh=>absurd rfl h⟩;rw[List.filter_eq_self.2 λx B=>by rw[L x B];rfl];exact⟨h.ext C,λ_ h=>h⟩
 rw[bb,aj];refine⟨λh=>Ω,λ_=>?_⟩;rw[aM,wrap_i64 Ω Ω];obtain⟨n,M⟩:∃n,l.length=n:=⟨_,rfl⟩;obtain⟨s,rfl⟩:∃s,sv= .slice (σ ⟨g,0,ν⟩) n s:=by
  obtain⟨_,⟨_,h1⟩|⟨s,cs,h1,_⟩⟩:=id h
  .omega
  .exact⟨s,by rw[h1,M]⟩
 obtain⟨_,_,_,_,aK,ac,_⟩:=qH h Ω;have U:∀r,r=g->leads (.slice (σ ⟨g,0,ν⟩) n s) r:=λr N=>⟨_,_,_,rfl,N.symm⟩;have ad:(l.take (i+1)).filter (λx=>!p x)=l.take i:=by
  obtain⟨y,z⟩:=aD (l:=l) hi;rw[r8,z,List.filter_append,List.filter_eq_self.2 λx B=>by rw[L x B];rfl];simp[ab y z]
 refine⟨λO P E=>∃(q j:Nat)(f:Λ),O=Δ (q:Int)/\P=Δ (j:Int)/\q<j/\j<=n/\ae (λr=>r=g) w E/\aq .i64 e E g (.slice (σ ⟨g,0,ν⟩) n s) f/\f.length=n/\f.take q=(l.take j).filter (λx=>!p x)/\∀k,j<=k->f[k]?=l[k]?,
  λ_ P _=>n-(b0 P).toNat,⟨i,i+1,l,rfl,rfl,Ω,Ω,C.aa _,h.ext C,M,ad.symm,λ_ _=>rfl⟩,?_⟩
 rintro _ _ E ⟨q,j,f,rfl,rfl,aL,aN,G,H,V,A,Q⟩;have aO:q=((l.take j).filter λx=>!p x).length:=by rw[<-A,n9];omega
 rw[hQ an.u,aR,aj];refine⟨λaf=>?_,λaP=>?_⟩
 .have af:j<n:=Ω
  obtain⟨y,z⟩:=aD (l:=l) (i:=j) Ω;have ah:f[j]?=σ y:=by rw[Q j (o5 _),z]
  refine aW (λO I=>∃(q:Nat)(f:Λ),O=Δ (q:Int)/\q<j+1/\ae (λr=>r=g) w I/\aq .i64 e I g (.slice (σ ⟨g,0,ν⟩) n s) f/\f.length=n/\f.take q=(l.take (j+1)).filter (λx=>!p x)/\∀k,j+1<=k->f[k]?=l[k]?) ?_ ?_
  .rintro _ I ⟨q,f,rfl,h1,ak,al,am,ao,ap⟩;rw[aM,wrap_i64 Ω Ω];exact⟨⟨q,j+1,f,rfl,rfl,h1,Ω,ak,al,am,ao,ap⟩,by simp only[b0];omega⟩
  intro aw W;rw[bc an.u ag.i Ψ H.ls ah];refine ai.mono (S E y (G.mono λr _=>U r) (x6 z)) ?_;rintro _ I _ ⟨rfl,K⟩;have X:(l.take (j+1)).filter (λx=>!p x)=(l.take j).filter (λx=>!p x)++[y].filter (λx=>!p x):=by rw[r8,z,List.filter_append];rfl
  rw[bJ,cj];refine⟨λau=>?_,λav=>?_⟩
  .have Y:=H.ext K;rw[hV rfl an.u ag.i Y Ω];refine hW ag.i Y Ω λaQ ax aS az=>?_;rw[aM,wrap_i64 Ω Ω];refine W _ _ ⟨q+1,_,rfl,Ω,(G.trans (K.aa _)).trans ax,az,by simpa using V,?_,λk hk=>?_⟩
   .rw[X,r8,c9 Ω,List.take_set_of_le (o5 _),A];simp only[l7];rw[show[y].filter (λx=>!p x)=[y] by simpa using au]
   .rw[Y5 Ω];exact Q k Ω
  .refine W _ _ ⟨q,f,rfl,Ω,G.trans (K.aa _),H.ext K,V,?_,λk hk=>Q k Ω⟩;rw[X,show[y].filter (λx=>!p x)=[] by simpa using av,U9];exact A
 .have aA:j=n:=Ω
  subst aA;rw[<-M,o6]at A;obtain⟨_,_,cs,aB,_,_,aT,aC⟩:=qH H Ω;simp only[maxLen]at ac;rw[hR an.u ag.i (l:=q) (h:=j) (m:=s) p4 jE fE Ω Ω Ω,if_neg Ω];have aE:V9 (λx:Addr=>x.add (q*1)) (σ ⟨g,0,ν⟩)=σ ⟨g,q,ν⟩:=by simp[T4]
  rw[aE];refine Ad an.u ag.i rfl rfl aB Ω Ω λaU aF aV aG=>?_;rw[hR an.u ag.i (l:=0) (h:=q) (m:=s) jD p5 fE Ω Ω Ω,if_neg Ω];have aH:V9 (λx:Addr=>x.add (0*1)) (σ ⟨g,0,ν⟩)=σ ⟨g,0,ν⟩:=by simp[T4]
  rw[aH];refine⟨(G.trans aF).mono λr _=>U r,?_⟩;have aX:(l.filter λx=>!p x).length=q:=by rw[<-A,n9];omega
  rw[<-A,Nat.sub_zero];refine⟨?_,λr N=>by obtain⟨a,_,_,e,aI⟩:=N;cases e;exact⟨_,_,_,rfl,aI⟩⟩;refine aq.of (n:=q) ⟨Θ,.inr ⟨s,_,Ξ,aG,Ω,by simp only[maxLen];omega,by rw[lU];omega,?_⟩⟩;rw[U2];apply Y7;intro k;by_cases hk:k<q
  .rw[Y0 hk,nx _ _ _ Θ,if_neg Ω,ints,v8,Y0 hk];have:(cs.take j)[k]?=(ints .i64 f)[k]?:=by rw[aC]
   rw[Y0 Ω,ints,v8]at this;exact this
  .rw[Y4 Θ,Y4 Θ]
theorem Ef{full c:List x3}{o q:Nat}{x:x3}(f:∀(k:Nat)y,c[k]?=σ y->full[o+k]?=σ y)(h:o+c.length<=full.length)(j:q<c.length):full.set (o+q) x=over full o (c.set q x):=by
 refine Y7 λk=>?_;rw[nx _ _ _ (by rw[Z9];exact h),X1,Z9];by_cases h1:o<=k/\k<o+c.length
 .rw[if_pos h1,X1];by_cases a:o+q=k
  .rw[if_pos a,if_pos Ω,if_pos Ω,if_pos Ω]
  .rw[if_neg a,if_neg Ω];have e:k-o<c.length:=Ω
   have:=f (k-o) c[k-o] (x7 e);rw[x7 e,<-this];congr 1;omega
 .rw[if_neg h1,if_neg Ω]
section
variable{w0 w w':x4}{ab ac al ga:Nat}{A R:af}{A9:Nat->af}{aB:af}{n:aK}{s u u':am}{t:az}{h:List az}{cs:List x3}{aO aL lq v:x3}{Q:x3->x4->Prop}
theorem b5.gL(p:b5 w ab ac al A R A9 aB n s u t h cs):(∀i j r,i≠j->A9 i r->¬A9 j r)/\∀i r,A9 i r->¬aB r:=by
 obtain⟨_,_,_,_,_,_,_,_,_,_,_,_,_,a⟩:=p.doc;exact a rfl
theorem b5.Pm{T:af}(p:b5 w ab ac al A R A9 aB n s u t h cs)(y:∀q r,A9 q r->r<w.heap.size)(z:cs[6]?=σ v)(e:ae T w w')(f:∀r,r<w.heap.size->T r->A9 3 r)(C:bl (λr=>A9 3 r\/w.heap.size<=r) aB w' [v] (u'.funs.map hF))(E:u'.zero=u.zero)(F:u'.vars=u.vars)(G:u'.dd=u.dd):∃cq,b5 w' ab ac al A R cq aB n s u' t h cs/\∀q r,cq q r->(∃H,A9 H r)\/w.heap.size<=r:=by
 have I:=bt.jY p.doc (w4 e) (λr a=>.inl (f r a.2 a.1)) C (λj r J a=>?_) (λr a=>?_)
 .have x:=w5 (w:=w) (A9:=A9) (q:=3) (B:=λr=>A9 3 r\/w.heap.size<=r) λr h=>h;refine⟨_,p.row e f ?_ x,x⟩;have:=bt.qh z I;unfold fQ;rw[E,F,G];exact this
 .rcases a with a|a
  .exact p.gL.1 3 j r (S6 J) a
  .exact λh=>by have:=y j r h;omega
 .rcases a with a|a
  .exact p.gL.2 3 r a
  .exact λh=>by have:=(p.read r h).2.1;omega
end
theorem Pn{m:Int}{w:Int}(a:0<=v)(hw:0<=w):dropped (((m.toNat ||| 2 ^ v.toNat:Nat):Int)) w=(dropped m w||decide (w=v)):=by
 unfold dropped;rw[u9,Nat.testBit_or,Nat.testBit_two_pow];congr 1;exact decide_eq_decide.2 ⟨λh=>Ω,λh=>Ω⟩
theorem w6{x:bh}(a:0<=v):ax {x with mask:=((x.mask.toNat ||| 2 ^ v.toNat:Nat):Int)}=(ax x).filter λy=>!decide (y=v):=by
 unfold ax;rw[List.filter_filter];refine List.filter_congr λy e=>?_;obtain⟨q,_,rfl⟩:=j0.1 e;rw[Pn a Ω];cases dropped x.mask (q:Int)<;>simp
section
variable{w0 w w':x4}{ab ac al ga:Nat}{A R:af}{A9:Nat->af}{aB:af}{n:aK}{s u u':am}{t:az}{h:List az}{cs:List x3}{aO aL lq v:x3}{Q:x3->x4->Prop}
theorem b5.oi{T:af}(p:b5 w ab ac al A R A9 aB n s u t h cs)(z:∀q r,A9 q r->r<w.heap.size)(C:cs[3]?=σ v)(e:ae T w w')(f:∀r,r<w.heap.size->T r->A9 0 r)(E:bl (λr=>A9 0 r\/w.heap.size<=r) aB w' [v] (u'.vars.map ax))(F:u'.zero=u.zero)(G:u'.vars.map (·.un)=u.vars.map (·.un))(H:(u'.vars.map λx=>decide (x.gone≠0))=u.vars.map λx=>decide (x.gone≠0))(I:u'.funs=u.funs)(J:u'.dd=u.dd):
  ∃cq,b5 w' ab ac al A R cq aB n s u' t h cs/\∀q r,cq q r->(∃K,A9 K r)\/w.heap.size<=r:=by
 have L:=bt.w2 p.doc (w4 e) (λr a=>.inl (f r a.2 a.1)) E (λj r M a=>?_) (λr a=>?_)
 .have y:=w5 (w:=w) (A9:=A9) (q:=0) (B:=λr=>A9 0 r\/w.heap.size<=r) λr h=>h;refine⟨_,p.row e f ?_ y,y⟩;have:=bt.qh C L;unfold fQ;rw[F,G,H,I,J];exact this
 .rcases a with a|a
  .exact p.gL.1 0 j r (S6 M) a
  .exact λh=>by have:=z j r h;omega
 .rcases a with a|a
  .exact p.gL.2 0 r a
  .exact λh=>by have:=(p.read r h).2.1;omega
end
section
variable{w0 w w':x4}{ab ac al ga:Nat}{A R:af}{A9:Nat->af}{aB:af}{n:aK}{s u u':am}{t:az}{h:List az}{cs:List x3}{aO aL lq v:x3}{Q:x3->x4->Prop}
theorem Po{F:af}{c:List x3}{f:cK}(h:bl (α:=iy) F R w c (hF f))(z:∀r,F r->¬R r):∃aL szv aZ e,c=[aL,szv,aZ,.bool (decide (f.live≠0))]/\bl e R w [aZ] f.cs/\(∀r,e r->F r)/\
  ∀{w':x4}{bu:Λ},ae e w w'->bl e R w' [aZ] bu->bl (α:=iy) F R w' c (hF {f with cs:=bu}):=by
 obtain⟨ab,M,A,B,rfl,C,N,O,h1,p⟩:=h;obtain⟨P,ac,aI,Q,rfl,S,E,G,H,T⟩:=h1;obtain⟨U,V,W,q,rfl,X,s,I,J,K⟩:=T;have p:M=[.bool (decide (f.live≠0))]:=p;subst p;obtain⟨x,rfl⟩:=V0.1 (show P.length=1 from ak.len H);obtain⟨j,rfl⟩:=V0.1 (show U.length=1 from ak.len J);obtain⟨v3,rfl⟩:=V0.1 (show V.length=1 from ak.len K);have y:∀r,q r->F r:=λr h=>C r (E r (s r h));refine⟨x,j,v3,q,rfl,K,y,λ{w' bu}L Y=>?_⟩;refine⟨[x,j,v3],[.bool (decide (f.live≠0))],A,B,rfl,C,N,O,⟨[x],[j,v3],aI,Q,rfl,S,E,G,ak.aa H L λr Z a he=>?_,[j],[v3],W,q,rfl,X,s,I,ak.aa J L λr Z a he=>?_,Y⟩,rfl⟩
 .exact a.elim (λa=>G rfl r a (s r he)) (z r (y r he))
 .exact a.elim (λa=>I rfl r a he) (z r (y r he))
end
theorem Pp{aL aZ a8:x3}(h1:aH .i64 w aL sc)(E:aH .i64 w szv (bI sizes sc))(G:aH .i64 w aZ cs)(h:ft sizes k (sc,cs))(s:∀z∈sizes,1<=z/\z<=32)(L:aH .i64 w a8 a)(r:∀v∈sc,∃x,a[v.toNat]?=σ x/\0<=x/\x<sizes.getD v.toNat 0):
  ai x8 Gr [.agg #[aL,szv,aZ],a8] w λv w'=>v=Δ (bm (bI sizes sc) cs (iS a sc))/\Ext w w':=by
 have A:dP (bI sizes sc):=nT s λv r=>⟨(h.scope.1 v r).1,h.vars v r⟩;have aa:sc.length<=6:=h.scope.2;refine ay func33 ?_;refine bk λM J ab j f=>?_;have f:ad J M aX [aL,szv,aZ]:=by
  obtain⟨_,_,_,N⟩:=cY h1;obtain⟨_,_,_,O⟩:=cY E;obtain⟨_,_,_,P⟩:=cY G;rw[N,O,P]at f ⊢;exact f
 rw[aG aX.p 0 f rfl,aV an.u (h1.ext j)];have ac:(iS a sc).length=sc.length:=by unfold iS;rw[u7]
 have ae:(bI sizes sc).length=sc.length:=by unfold bI;rw[u7]
 refine b3.range sc.length (λi Q U=>Ext J U/\∃m:Int,Q=Δ m/\ck ((bI sizes sc).take i) ((iS a sc).take i) 0=σ m) h1.le ⟨Ext.refl _,0,rfl,rfl⟩ ?_ ?_
 .rintro i _ U R hi ⟨e,m,rfl,hm⟩ S;obtain⟨v,q⟩:=aD (l:=sc) hi;obtain⟨x,H,V,W⟩:=r v (x6 q);have af:=h.scope.1 v (x6 q);have B:(bI sizes sc)[i]?=σ (sizes.getD v.toNat 0):=by unfold bI;rw[v8,q];rfl
  have X:(iS a sc)[i]?=σ x:=by unfold iS;rw[v8,q,Z7,u4,H];rfl
  have ah:=A _ (x6 B);have I:∀z∈(bI sizes sc).take i,1<=z/\z<=32:=λz s=>A z (T9 s);have Y:=kZ I hm;have aj:=prod_bound (l:=(bI sizes sc).take i) ⟨by rw[n9];omega,I⟩;refine bD Ω ?_;rw[bc an.u ag.i Ψ (h1.ext (j.trans e)) q];intro ak C _ _;have K:=(j.trans e).trans C;have al:0<=m*sizes.getD v.toNat 0/\m*sizes.getD v.toNat 0<=1073741824*32:=⟨Int.mul_nonneg Ω Ω,Int.mul_le_mul Ω Ω Ω Ω⟩;rw[aG aX.p 1 (f.ext (e.trans C)) rfl,bc an.u ag.i Ψ (E.ext K) B,gp,wrap_i64 Ω Ω,fF (y:=v) (i:=v.toNat) Ω an.u ag.i Ψ (L.ext K) H,aM,wrap_i64 Ω Ω,aM];refine S _ _ ⟨e.trans C,_,rfl,?_⟩;rw[r8,r8,B,X,l7,l7,DP (by rw[n9,n9];omega),hm];simp only[Option.bind_some];rw[if_pos ⟨V,W⟩]
 .rintro _ U R ⟨e,m,rfl,hm⟩;rw[j9 Ω,j9 Ω]at hm;have Y:=kZ A hm;have am:cs.length=(aN (bI sizes sc)).toNat:=h.len;refine b7 Ω ?_;have Z:cs[m.toNat]?=σ (cs.getD m.toNat 0):=by rw[u4,x7 Ω];rfl
  rw[aG aX.p 2 (f.ext e) rfl,fF (y:=m) (i:=m.toNat) Ω au.u ao.i Ψ (G.ext (j.trans e)) Z];refine⟨?_,j.trans e⟩;unfold bm;rw[hm]
theorem w7{sv a8:x3}{s:am}(h:eW w sv k sizes s)(G:bg k sizes s)(bj:cp s)(Y:gP s a)(aC:aH .i64 w a8 a):ai x8 Gd [sv,a8] w λv w'=>v=Δ (er k s a)/\Ext w w':=by
 have b6:=G.vars;have hk:=G.fu;refine ay func10 ?_;refine bk λg1 J b8 Q I=>?_;obtain⟨szv,b9,ca,cb,cc,cd,I,ce,_,bl,bn,bo,Z,_⟩:=h.box Q I;have aa:=aC.ext Q;have cg:=Y.1;rw[aG aA.p 2 I rfl,aV an.u aa];obtain⟨B,R⟩:∃B,B=s.vars.zip a:=⟨_,rfl⟩;have ch:B.length=a.length:=by rw[R,List.length_zip];omega
 refine mm.range a.length (λi _ H U=>Ext J U/\∃e:Int,H=Δ e/\e=(B.take i).foldl (kv k) s.zero/\(0<=e/\e<=k)/\(B.take i).all fM=true) aC.le
  ⟨Ext.refl _,s.zero,rfl,rfl,G.zero,rfl⟩ ?_ ?_
 .rintro i t4 _ U bp hi ⟨C,e,rfl,S,ab,V⟩ bq;obtain⟨x,E⟩:=aD (l:=s.vars) (i:=i) Ω;obtain⟨v,r⟩:=aD (l:=a) hi;obtain⟨z,K⟩:=aD (l:=sizes) (i:=i) Ω;obtain⟨ci,br,_⟩:=G.var i x z E K;have aE:B[i]?=σ (x,v):=by rw[R,List.getElem?_zip_eq_some];exact⟨E,r⟩
  have aI:B.take (i+1)=B.take i++[(x,v)]:=by rw[r8,aE];rfl
  have L:(B.take (i+1)).foldl (kv k) s.zero=kv k e (x,v):=by rw[aI,R5,<-S];rfl
  have aJ:(B.take (i+1)).all fM=fM (x,v):=by rw[aI,List.all_append,V];simp
  have bt:(s.vars.map λx=>decide (x.gone≠0))[i]?=σ (decide (x.gone≠0)):=by rw[v8,E];rfl
  refine bD Ω ?_;refine ib (λ_ H aK=>Ext J aK/\∃e:Int,H=Δ e/\e=(B.take (i+1)).foldl (kv k) s.zero/\(0<=e/\e<=k)/\(B.take (i+1)).all fM=true) ?_ ?_
  .rintro t4 H aK ac;rw[aM];exact bq _ _ _ ac
  intro aw M;have ad:=I.ext C;rw[bc an.u ag.i Ψ (aa.ext C) r,aG aA.p 4 ad rfl];refine gw (α:=Bool) rfl rfl hM.u eb.i Ψ (bi bn C) bt λbu bx=>?_;obtain rfl:bu= .bool (decide (x.gone≠0)):=(List.cons.inj bx).1;rw[aj];refine⟨λaN=>M _ _ _ ⟨C,e,rfl,?_,ab,?_⟩,λae=>?_⟩
  .rw[L];unfold kv;rw[if_pos aN]
  .rw[aJ];unfold fM;rw[decide_eq_true aN,Bool.true_or]
  have bz:0<=v/\v<x.un.length:=(Y.2 i x v E r).resolve_left ae;rw[aG aA.p 3 ad rfl];refine gw (α:=Λ) (a:=ax x) rfl rfl b2.u an.i Ψ (bi bl C) (by rw[v8,E];rfl) λcl bA=>?_;refine(tu (v:=v) (dD bA)).mono ?_;rintro _ cm _ ⟨rfl,aO⟩;have aP:=C.trans aO;have aQ:=DQ bz;rw[bJ,cj];refine⟨λaf=>?_,λaf=>?_⟩
  .have bB:v∉ax x:=by simpa using af
   rw[aG aA.p 0 (ad.ext aO) rfl];refine⟨?_,Q.trans aP⟩;unfold er;rw[<-R,if_neg];intro bC;have:=List.all_eq_true.1 bC (x,v) (x6 aE);unfold fM at this;rw[decide_eq_false ae,Bool.false_or]at this;exact bB (aQ.2 (by simpa using this))
  have bE:dropped x.mask v=false:=aQ.1 (by simpa using af);intro cn bG _ _;have al:=aP.trans bG;have aT:=I.ext al;have aU:x.un[v.toNat]?=σ (x.un.getD v.toNat 0):=by rw[u4,x7 (show v.toNat<x.un.length by omega)];rfl
  have cq:=br _ (x6 aU);rw[aG aA.p 5 aT rfl];refine gw (α:=Λ) (a:=x.un) rfl rfl cP.u au.i Ψ (bi bo al) (by rw[v8,E];rfl) λcr bH=>?_;rw[fF (y:=v) (i:=v.toNat) Ω au.u ao.i Ψ (dD bH) aU,aG aA.p 0 aT rfl];refine(l2 Ω Ω).mono ?_;rintro _ ct _ ⟨rfl,bI⟩;refine M _ _ _ ⟨al.trans bI,_,rfl,?_,⟨Ω,Ω⟩,?_⟩
  .rw[L];unfold kv;rw[if_neg ae]
  .rw[aJ];unfold fM;rw[bE];simp
 rintro t4 _ U bp ⟨C,e,rfl,S,ab,V⟩;rw[j9 Ω]at S V;have bK:er k s a=s.funs.foldl (jT k a) e:=by
  unfold er;rw[<-R,V,if_pos rfl,<-S]
 refine b7 Ω ?_;rw[aG aA.p 6 (I.ext C) rfl,fG dm.u (bi Z C),u7];have aY:=lW Z;rw[u7]at aY;refine b3.range s.funs.length (λj H N=>Ext J N/\∃A:Int,H=Δ A/\A=(s.funs.take j).foldl (jT k a) e/\0<=A/\A<=k) aY
  ⟨C,e,rfl,rfl,ab⟩ ?_ ?_
 rotate_left
 .rintro _ N bL ⟨O,A,rfl,W,_⟩;rw[j9 Ω]at W;rw[aR,aj];exact⟨λh=>Ω,λ_=>⟨by rw[bK,W],Q.trans O⟩⟩
 rintro j _ N bL cu ⟨O,A,rfl,W,bM⟩ bN;obtain⟨f,P⟩:=aD (l:=s.funs) (i:=j) Ω;obtain⟨X,a1,cw⟩:=G.funs f (x6 P);have L:(s.funs.take (j+1)).foldl (jT k a) e=jT k a A f:=by
  rw[r8,P,l7,R5,<-W];rfl
 refine bD Ω ?_;refine aW (λH a2=>Ext J a2/\∃A:Int,H=Δ A/\A=(s.funs.take (j+1)).foldl (jT k a) e/\0<=A/\A<=k) ?_ ?_
 .rintro H a2 ac;rw[aM];exact bN _ _ ac
 intro aw M;refine lX cU.p rfl dm.u cU.i (bi Z O) (by rw[v8,P];rfl) λcz a6=>?_;have bO:=ak.one a6;obtain⟨aL,ap,aZ,rfl,bP,bQ,bR⟩:=mW a6;refine bw cU.i λa7 cA cB bS bU=>?_;refine bT (vs:=[aL,ap,aZ,.bool (decide (f.live≠0))]) cU.i rfl rfl bO bU λbV bW cC ba=>?_;have bb:Ext N bV:=bS.put bW Ω;rw[aS cU.p rfl,aF (v:=.bool (decide (f.live≠0))) Ψ (ba.cell (o:=0+3) rfl),aj];refine⟨λbd=>?_,λbX=>M _ _ ⟨O.trans bb,A,rfl,by rw[L];unfold jT;rw[if_neg bX],bM⟩⟩;intro aq be _ _;have bf:=bb.trans be;have av:=O.trans bf;have bY:=I.ext av;have az:=ba.ext be;have bZ:aq.rangeAt a7 0 [aL,ap,aZ]:=λq v r=>by
  match q,r with
  |0,r=>cases r;exact az.cell rfl
  |1,r=>cases r;exact az.cell rfl
  |2,r=>cases r;exact az.cell rfl
 rw[aS cU.p rfl,bF aX.p aX.i rfl (show aq.rangeAt a7 (0+0) [aL,ap,aZ]from bZ),aG aA.p 0 bY rfl];have aB:∀{v:x3}{l:Λ},Seen eN N [v] l->aH .i64 aq v l:=λh=>(dD h).ext bf;refine(Pp (a:=a) (aB bP) (a1▸aB bQ) (aB bR) X G.ef.2.2 (aa.ext av) λv r=>?_).mono ?_
 .have cD:=X.scope.1 v r;have cE:=X.vars v r;obtain⟨x,E⟩:=aD (l:=s.vars) (i:=v.toNat) Ω;obtain⟨u,hu⟩:=aD (l:=a) (i:=v.toNat) Ω;obtain⟨z,K⟩:=aD (l:=sizes) (i:=v.toNat) Ω;have cF:=(G.var _ x z E K).1;have cG:=G.ef.2.2 z (x6 K);have b0:=bj f (x6 P) bd v r x E;have b1:=(Y.2 _ x u E hu).resolve_left λh=>h b0;refine⟨u,hu,b1.1,?_⟩;rw[u4,K,V2];omega
 rintro _ cH _ ⟨rfl,bh⟩;refine⟨.inl bh,?_⟩;rw[<-a1];have cI:0<=bm f.ah f.cs (iS a f.sc)/\bm f.ah f.cs (iS a f.sc)<=k:=by
  unfold bm;cases hi:ck f.ah (iS a f.sc) 0 with
  |none=>simp only;omega
  |some m=>
   simp only;obtain⟨b4,cJ,_⟩:=ts G (x6 P);have cK:=kZ b4.2 hi;rw[u4,x7 Ω,V2];exact X.h3 _ (Q3 _)
 refine(l2 Ω Ω).mono ?_;rintro _ cL _ ⟨rfl,b5⟩;refine M _ _ ⟨(av.trans bh).trans b5,_,rfl,?_,Ω,Ω⟩;rw[L];unfold jT;rw[if_pos bd]
theorem Pq{aL bv:x3}{lg:Λ}(I:aH .i64 w aL sc)(C:aH .i64 w bv lg)(h1:sc.length<=1000000)(P:lg.length<=1000000):
  ai x8 Gt [.agg #[Δ v,aL,bv]] w λr w'=>Ext w w'/\∃E G g1 H,r= .agg #[Δ v,E,G]/\w.heap.size<=g1/\w.heap.size<=H/\aq .i64 ag w' g1 E sc/\aq .i64 ag w' H G lg:=by
 refine ay func40 ?_;refine bk λge J ab K L=>?_;have Q:ad J ge eY [Δ v,aL,bv]:=by
  obtain⟨_,_,_,q⟩:=cY I;obtain⟨_,_,_,R⟩:=cY C;rw[q,R]at L ⊢;exact L
 refine bw eY.i λgr U ac M N=>?_;intro ae s _ _;have O:=M.trans s;have e:=K.trans O;have x:=Q.ext O;rw[aG eY.p 0 x rfl,aG eY.p 1 x rfl,aG eY.p 2 x rfl];refine(jJ (I.ext e) h1).mono ?_;rintro y af _ ⟨a,S,ah,f⟩;refine⟨.inl a,?_⟩;refine(jJ ((C.ext e).ext a) P).mono ?_;rintro z aj _ ⟨h,V,ak,j⟩;refine⟨.inl (a.trans h),?_⟩;have z3:=e.size;have z4:=a.size;have W:=f.ext h;rw[dn (cs:=#[Δ v,y,z]) (by obtain⟨_,_,_,rfl⟩:=cY f.ls;obtain⟨_,_,_,rfl⟩:=cY j.ls;kernel_rfl)];have X:=((N.ext s).ext a).ext h;have al:=M.size;have am:=N.lt;have an:=s.size;refine bT (vs:=[Δ v,y,z]) eY.i rfl rfl ?_ X λY A ao Z=>?_
 .intro u hu;simp at hu;rcases hu with rfl|rfl|rfl
  .rfl
  .exact f.ls.cells.2
  .exact j.ls.cells.2
 rw[e6 eY.p eY.i rfl Z.range];have ap:=K.size;have aa:Ext w Y:=((e.trans a).trans h).put A Ω;refine⟨aa,y,z,S,V,rfl,Ω,Ω,br W A λr B he=>?_,br j A λr B he=>?_⟩
 .have he:r=gr:=he;obtain⟨q,_⟩:=bR f B;omega
 .have he:r=gr:=he;obtain⟨q,_⟩:=bR j B;omega
section
variable{w:x4}{ab ac:Nat}{A R:af}{n:aK}{s:am}{t:az}
end
theorem cp.vars{s:am}{i:Nat}{x y:bh}(h:cp s)(r:s.vars[i]?=σ x)(w:y.gone=x.gone):cp {s with vars:=s.vars.set i y}:=λf j p v q z a=>by
 have a:(s.vars.set i y)[v.toNat]?=σ z:=a;rw[X1]at a;split at a
 .rename_i e;split at a
  .cases a;subst e;rw[w];exact h f j p v q x r
  .cases a
 .exact h f j p v q z a
theorem cp.funs{s:am}{f g:cK}(h:cp s)(r:s.funs[j]?=σ f)(I:g.sc=f.sc)(w:g.live≠0->f.live≠0):cp {s with funs:=s.funs.set j g}:=λx a e v p z q=>by
 rcases W5 a with a|rfl
 .exact h x a e v p z q
 .exact h f (x6 r) (w e) v (by rw[<-I];exact p) z q
structure gg where
 kind:Nat
 i:Int
 pos:Int
 v:Int
 c:Int
def dH(s:am)(i v:Int):Option bh:=if 0<=i then match s.vars[i.toNat]? with
 |some x=>if x.gone=0/\v∈ax x then σ x else ν
 |none=>ν else ν
def ew(s:am)(j pos v:Int):Option (cK×Int×bh):=if 0<=j/\0<=pos then match s.funs[j.toNat]? with
 |some f=>if f.live≠0 then match f.sc[pos.toNat]? with
  |some u=>(dH s u v).map λx=>(f,u,x)
  |none=>ν
  else ν
 |none=>ν else ν
def md(k:Int)(s:am)(f:cK)(pos:Nat)(v:Int):Int:=((cm s f.sc pos v).map (bm f.ah f.cs)).foldl min k
def di(k c most:Int):Int:=if¬(0<=c/\c<=k)then 3 else if most<c then 7 else 0
def gS(x:bh):Int:=match(ax x).map λv=>x.un.getD v.toNat 0 with
 |[]=>-1
 |c::l=>l.foldl min c
def gh(s:am)(i:Nat)(v:Int):Λ->am
 |[]=>s
 |w::L=>gh (if w≠v then dM s i w.toNat else s) i v L
def bf(k:Int)(s:am)(a:gg):am×Int:=
 if a.kind=0 then match ew s a.i a.pos a.v with
  |none=>(s,1)
  |some (f,u,x)=>if di k a.c (md k s f a.pos.toNat a.v)≠0 then(s,di k a.c (md k s f a.pos.toNat a.v))else(iY s a.i.toNat f a.pos.toNat u.toNat x a.v (λg=>dh k g a.c) λg=>cN k g a.c,0)
 else if a.kind=1 then match ew s a.i a.pos a.v with
  |none=>(s,1)
  |some (f,u,x)=>if di k a.c (x.un.getD a.v.toNat 0)≠0 then(s,di k a.c (x.un.getD a.v.toNat 0))else(iY s a.i.toNat f a.pos.toNat u.toNat x a.v (λg=>cN k g a.c) λg=>dh k g a.c,0)
 else if a.kind=2 then match(if 0<=a.i then s.vars[a.i.toNat]? else ν)with
  |none=>(s,1)
  |some x=>if x.gone≠0 then(s,1)else if di k a.c (gS x)≠0 then(s,di k a.c (gS x))else(hl s a.i.toNat x (λg=>dh k g a.c) λg=>cN k g a.c,0)
 else if a.kind=3 then match(if 0<=a.i then s.vars[a.i.toNat]? else ν)with
  |none=>(s,1)
  |some x=>if x.gone≠0 then(s,1)else if di k a.c (if ax x=[]then-1 else s.zero)≠0 then(s,di k a.c (if ax x=[]then-1 else s.zero))else(hl s a.i.toNat x (λg=>cN k g a.c) λg=>dh k g a.c,0)
 else if a.kind=4 then match dH s a.i a.v with
  |none=>(s,1)
  |some x=>if cN k s.zero (x.un.getD a.v.toNat 0)<k then(s,7)else(dM s a.i.toNat a.v.toNat,0)
 else match dH s a.i a.v with
  |none=>(s,1)
  |some x=>(gh s a.i.toNat a.v (ax x),0)
theorem mX:∀(l:Λ)(z c:Int),c<=l.foldl min z↔c<=z/\∀x∈l,c<=x
 |[],z,c=>Ξ
 |a::l,z,c=>by
  rw[T7,mX l (min z a) c];rw[List.forall_mem_cons];exact⟨λ⟨h1,e⟩=>⟨Ω,Ω,e⟩,λ⟨h1,e,f⟩=>⟨Ω,f⟩⟩
theorem lr{most:Int}(h:¬di k c most≠0):(0<=c/\c<=k)/\c<=most:=by
 unfold di at h;split at h
 .exact absurd Φ h
 .rename_i h1;split at h
  .exact absurd Φ h
  .exact⟨X2.1 h1,Ω⟩
theorem jr{s:am}{i:Int}{x:bh}(h:dH s i v=σ x):0<=i/\s.vars[i.toNat]?=σ x/\x.gone=0/\v∈ax x:=by
 unfold dH at h;split at h
 .rename_i e;split at h
  .rename_i y f;split at h
   .rename_i a;cases h;exact⟨e,f,a.1,a.2⟩
   .cases h
  .cases h
 .cases h
theorem mY{s:am}{j pos u:Int}{f:cK}{x:bh}(h:ew s j pos v=σ (f,u,x)):0<=j/\0<=pos/\s.funs[j.toNat]?=σ f/\f.live≠0/\f.sc[pos.toNat]?=σ u/\dH s u v=σ x:=by
 unfold ew at h;split at h
 .rename_i e;split at h
  .rename_i g p;split at h
   .rename_i q;split at h
    .rename_i w hw;cases a:dH s w v with
     |none=>rw[a]at h;cases h
     |some y=>
      rw[a]at h;cases h;exact⟨e.1,e.2,p,q,hw,a⟩
    .cases h
   .cases h
  .cases h
 .cases h
section
variable{k:Int}{sizes a:Λ}{s:am}
theorem mZ{g:Int}(a:0<=g/\g<=k)(e:0<=c/\c<=g):0<=dh k g c/\dh k g c<=k:=by
 unfold dh;split<;>omega
theorem m3{g:Int}(a:0<=g/\g<=k)(e:0<=c):0<=cN k g c/\cN k g c<=k:=by
 unfold cN;omega
theorem hn{u:Nat}{v:Nat}{x:bh}(a:bg k sizes s)(e:s.vars[u]?=σ x):0<=x.un.getD v 0/\x.un.getD v 0<=k:=by
 have hk:=a.fu;have f:=(x5.1 e).1;have h:=a.vars;exact DZ Ω (a.var u x _ e (x7 Ω)).2.1
theorem oj{f:cK}(a:bg k sizes s)(e:f∈s.funs):0<=bm f.ah f.cs t/\bm f.ah f.cs t<=k:=(s6 a.fu λc h=>⟨a.fu,(a.funs f e).1.h3 c h⟩).2
theorem w8{x:bh}(h:v∈ax x)(a:c<=gS x):c<=x.un.getD v.toNat 0:=by
 unfold gS at a;have hm:x.un.getD v.toNat 0∈(ax x).map λv=>x.un.getD v.toNat 0:=j0.2 ⟨v,h,rfl⟩;generalize (ax x).map (λv=>x.un.getD v.toNat 0)=l at a hm;cases l with
 |nil=>cases hm
 |cons b l=>
  have h1:=(mX l b c).1 a;rcases V1.1 hm with e|e
  .rw[e];exact h1.1
  .exact h1.2 _ e
theorem q5{i:Nat}{v:Int}{x:bh}:∀(L:Λ)(s:am),bg k sizes s->s.vars[i]?=σ x->(∀w∈L,0<=w/\w<x.un.length)->bg k sizes (gh s i v L)/\(cp s->cp (gh s i v L))/\
  ∀a8,gP s a->x.gone=0->a[i]?=σ a8->er k (gh s i v L) a=if a8∈L/\a8≠v then k else er k s a
 |[],s,z,j,_=>⟨z,id,λa8 _ _ _=>by rw[if_neg Ξ];rfl⟩
 |w::L,s,z,j,C=>by
  unfold gh;by_cases hw:w≠v
  .rw[if_pos hw];have G:=C w (.head _);have J:=w1 z j G;have H:=(x5.1 j).1;have K:(dM s i w.toNat).vars[i]?=σ {x with mask:=((x.mask.toNat ||| 2 ^ w.toNat:Nat):Int)}:=by rw[jq j];exact c9 H
   obtain⟨h1,E,F⟩:=q5 L (dM s i w.toNat) J K λu hu=>C u (.tail _ hu);refine⟨h1,λM=>E ?_,λa8 p A B=>?_⟩
   .rw[jq j];exact cp.vars M j rfl
   .have N:gP (dM s i w.toNat) a:=by
     rw[jq j];refine⟨by show a.length=(s.vars.set _ _).length;rw[Z9];exact p.1,λq y b r I=>?_⟩;have r:(s.vars.set i {x with mask:=((x.mask.toNat ||| 2 ^ w.toNat:Nat):Int)})[q]?=σ y:=r;by_cases e:i=q
     .subst e;rw[c9 H]at r;cases r;exact p.2 i x b j I
     .rw[Y5 e]at r;exact p.2 q y b r I
    rw[F a8 N A B,D8 z p j A G B];by_cases e:a8=w
    .subst e;rw[if_pos rfl,if_pos (show a8∈a8::L/\a8≠v from⟨.head _,hw⟩)];split<;>rfl
    .rw[if_neg e];by_cases f:a8∈L/\a8≠v
     .rw[if_pos f,if_pos ⟨.tail _ f.1,f.2⟩]
     .rw[if_neg f,if_neg λh=>f ⟨(V1.1 h.1).resolve_left e,h.2⟩]
  .rw[if_neg hw];obtain⟨h1,E,F⟩:=q5 L s z j λu hu=>C u (.tail _ hu);refine⟨h1,E,λa8 p A B=>?_⟩;rw[F a8 p A B];have hw:=X2.1 hw;by_cases f:a8∈L/\a8≠v
   .rw[if_pos f,if_pos ⟨.tail _ f.1,f.2⟩]
   .rw[if_neg f,if_neg λh=>f ⟨(V1.1 h.1).resolve_left λe=>h.2 (e.trans hw),h.2⟩]
theorem cp.zero(h:cp s):cp {s with zero:=c}:=h
theorem Eh{u:Nat}{f:cK}{x:bh}{tup un:Int->Int}(h:cp s)(a:s.funs[j]?=σ f)(e:s.vars[u]?=σ x):cp (iY s j f pos u x v tup un):=
 cp.vars (s:=dG s j f (dF tup (cm s f.sc pos v) f.ah f.cs)) (cp.funs h a rfl id) e rfl
theorem Ei{u:Nat}{x:bh}{g z:Int->Int}(h:cp s)(a:s.vars[u]?=σ x):cp (hl s u x g z):=cp.zero (cp.vars h a rfl)
def ol(k:Int)(s:am)(m:gg)(s':am)(e:Int)(a:Λ):Prop:=er k s' a=if 5<=m.kind/\e=0/\a[m.i.toNat]? ≠σ m.v then k else er k s a
theorem Ej{m:gg}(p:bg k sizes s)(G:cp s):bg k sizes (bf k s m).1/\cp (bf k s m).1/\∀a,gP s a->ol k s m (bf k s m).1 (bf k s m).2 a:=by
 have hk:=p.fu;have C:∀e:Int,e≠0->bg k sizes s/\cp s/\∀a,gP s a->ol k s m s e a:=λe he=>⟨p,G,λa _=>by unfold ol;rw[if_neg λh=>he h.2.1]⟩;have low:∀{s':am}{e:Int},m.kind<5->bg k sizes s'->cp s'->(∀a,gP s a->er k s' a=er k s a)->bg k sizes s'/\cp s'/\∀a,gP s a->ol k s m s' e a:=λhm h1 L U=>⟨h1,L,λa y=>by unfold ol;rw[if_neg λh=>Ω];exact U a y⟩;unfold bf;split
 .rename_i Q;cases z:ew s m.i m.pos m.v with
  |none=>exact C 1 Φ
  |some q=>
   obtain⟨f,u,x⟩:=q;simp only;split
   .rename_i he;exact C _ he
   .rename_i he;obtain⟨A,hm⟩:=lr he;simp only;obtain⟨_,_,H,M,hu,B⟩:=mY z;obtain⟨ab,j,F,R⟩:=jr B;have I:=x6 H;have V:∀t∈cm s f.sc m.pos.toNat m.v,m.c<=bm f.ah f.cs t:=λt E=>((mX _ _ _).1 hm).2 _ (j0.2 ⟨t,E,rfl⟩);have S:f.sc[m.pos.toNat]?=σ ((u.toNat:Nat):Int):=by rw[hu];congr 1;omega
    have E:∀t∈cm s f.sc m.pos.toNat m.v,0<=dh k (bm f.ah f.cs t) m.c/\dh k (bm f.ah f.cs t) m.c<=k:=λt E=>mZ (oj p I) ⟨A.1,V t E⟩;have N:=m3 (k:=k) (hn (v:=m.v.toNat) p j) A.1;refine low Ω (D4 p H j E N) (Eh G H j) λa y=>D5 p y H M S j R (G f I M) E N λt E r J=>?_;have:=oj (t:=t) p I;exact tx J ⟨V t E,this.2⟩ (hn p j) A.1
 split
 .rename_i _ Q;cases z:ew s m.i m.pos m.v with
  |none=>exact C 1 Φ
  |some q=>
   obtain⟨f,u,x⟩:=q;simp only;split
   .rename_i he;exact C _ he
   .rename_i he;obtain⟨A,hm⟩:=lr he;simp only;obtain⟨_,_,H,M,hu,B⟩:=mY z;obtain⟨ab,j,F,R⟩:=jr B;have I:=x6 H;have S:f.sc[m.pos.toNat]?=σ ((u.toNat:Nat):Int):=by rw[hu];congr 1;omega
    have E:∀t∈cm s f.sc m.pos.toNat m.v,0<=cN k (bm f.ah f.cs t) m.c/\cN k (bm f.ah f.cs t) m.c<=k:=λt E=>m3 (oj p I) A.1;have N:=mZ (k:=k) (hn (v:=m.v.toNat) p j) ⟨A.1,hm⟩;refine low Ω (D4 p H j E N) (Eh G H j) λa y=>D5 p y H M S j R (G f I M) E N λt E r J=>?_;have h1:=oj (t:=t) p I;have L:=hn (v:=m.v.toNat) p j;have:=tx (k:=k) J ⟨hm,L.2⟩ h1 A.1;omega
 split
 .rename_i _ _ Q;cases z:(if 0<=m.i then s.vars[m.i.toNat]? else ν)with
  |none=>exact C 1 Φ
  |some x=>
   have j:s.vars[m.i.toNat]?=σ x:=by split at z;exact z;cases z
   simp only;split
   .exact C 1 Φ
   split
   .rename_i he;exact C _ he
   .rename_i F he;obtain⟨A,hm⟩:=lr he;simp only;have W:∀v∈ax x,m.c<=x.un.getD v.toNat 0:=λv B=>w8 B hm;have O:∀v∈ax x,0<=dh k (x.un.getD v.toNat 0) m.c/\dh k (x.un.getD v.toNat 0) m.c<=k:=λv B=>mZ (hn p j) ⟨A.1,W v B⟩;have P:=m3 (k:=k) p.zero A.1;refine low Ω (wY p j O P) (Ei G j) λa y=>D7 p y j (X2.1 F) O P λv B r J=>?_;exact tx J ⟨W v B,(hn p j).2⟩ p.zero A.1
 split
 .rename_i _ _ _ Q;cases z:(if 0<=m.i then s.vars[m.i.toNat]? else ν)with
  |none=>exact C 1 Φ
  |some x=>
   have j:s.vars[m.i.toNat]?=σ x:=by split at z;exact z;cases z
   simp only;obtain⟨X,Y⟩:∃X,X=(if ax x=[]then-1 else s.zero):=⟨_,rfl⟩;rw[<-Y];split
   .exact C 1 Φ
   split
   .rename_i he;exact C _ he
   .rename_i F he;obtain⟨A,hm⟩:=lr he;simp only;have Z:m.c<=s.zero:=by
     rw[Y]at hm;split at hm
     .omega
     .exact hm
    have O:∀v∈ax x,0<=cN k (x.un.getD v.toNat 0) m.c/\cN k (x.un.getD v.toNat 0) m.c<=k:=λv B=>m3 (hn p j) A.1;have P:=mZ (k:=k) p.zero ⟨A.1,Z⟩;refine low Ω (wY p j O P) (Ei G j) λa y=>D7 p y j (X2.1 F) O P λv B r J=>?_;have:=tx (k:=k) J ⟨Z,p.zero.2⟩ (hn (v:=v.toNat) p j) A.1;omega
 split
 .rename_i _ _ _ _ Q;cases z:dH s m.i m.v with
  |none=>exact C 1 Φ
  |some x=>
   obtain⟨_,j,F,B⟩:=jr z;simp only;split
   .exact C 7 Φ
   .rename_i he;have aa:=(fd.1 B).1;simp only;refine low Ω (w1 p j aa) (by rw[jq j];exact cp.vars G j rfl) λa y=>?_;have ac:=(x5.1 j).1;have ad:=y.1;obtain⟨a8,K⟩:=aD (l:=a) (i:=m.i.toNat) Ω;rw[D8 p y j F aa K];split
    .rename_i e;subst e;rw[mU p];split
     .have ae:(s.vars.zip a)[m.i.toNat]?=σ (x,m.v):=List.getElem?_zip_eq_some.2 ⟨j,K⟩;have h1:=qX (qY (a:=a) p) (i:=m.i.toNat) (x:=dy (x,m.v)) (by rw[v8,ae];rfl);have L:=oe _ (py (a:=a) p);have ag:dy (x,m.v)=x.un.getD m.v.toNat 0:=by unfold dy;rw[if_neg (by simp[F])]
      unfold cN at he;omega
     .rfl
    .rfl
 .rename_i h1 L U ai aj;cases z:dH s m.i m.v with
  |none=>exact C 1 Φ
  |some x=>
   obtain⟨_,j,F,B⟩:=jr z;simp only;have T:∀w∈ax x,0<=w/\w<x.un.length:=λw hw=>(fd.1 hw).1;refine⟨(q5 (a:=[]) (ax x) s p j T).1,(q5 (a:=[]) (ax x) s p j T).2.1 G,λa y=>?_⟩;have ac:=(x5.1 j).1;have ad:=y.1;obtain⟨a8,K⟩:=aD (l:=a) (i:=m.i.toNat) Ω;unfold ol;rw[(q5 (ax x) s p j T).2.2 a8 y F K,K];by_cases e:a8=m.v
   .rw[if_neg λh=>h.2 e,if_neg λh=>h.2.2 (by rw[e])]
   .rw[if_pos (c:=5<=m.kind/\_) ⟨Ω,rfl,λh=>e (Z0 h)⟩];split
    .rfl
    .rename_i af;exact D9 y j F K λh=>af ⟨h,e⟩
end
theorem Pr{f:Int->Int}(I:dP ah)(q:cs.length<=(bj ah).length)(h:∀t∈L,f (bm ah cs t)=bm ah cs t):dF f L ah cs=cs:=by
 apply Y7;intro i;cases a:cs[i]? with
 |none=>
  have h1:=List.getElem?_eq_none_iff.1 a;rw[Y4 (by rw[oc]<;>omega)]
 |some c=>
  obtain⟨t,j⟩:=aD (l:=bj ah) (i:=i) (by have:=(x5.1 a).1;omega);rw[px j a];split
  .rename_i p;have e:bm ah cs t=c:=by
    unfold bm;rw[jl I j];simp only;rw[u9,u4,a];rfl
   have:=h t p;rw[e]at this;rw[this]
  .rfl
section
variable{k:Int}{sizes:Λ}{s:am}
theorem Ps{i:Int}{u:Nat}{x y:bh}{s':am}(a:s.vars[u]?=σ x)(f:s'.vars=s.vars.set u y)(h:ax y=ax x):bB s' i=bB s i:=by
 unfold bB;rw[f,X1];by_cases e:u=i.toNat
 .subst e;rw[if_pos rfl,if_pos (x5.1 a).1,a];exact h
 .rw[if_neg e]
theorem Pt{x:bh}{un:Λ}(h:un.length=x.un.length):ax {x with un:=un}=ax x:=by
 unfold ax;rw[h]
end
section
variable{k:Int}{sizes:Λ}{s:am}
theorem tE{f:cK}(a:bg k sizes s)(e:f∈s.funs)(p:∀u,f.sc[pos]?=σ u->v∈bB s u)(h:t∈cm s f.sc pos v):∃m:Nat,ck f.ah t 0=σ (m:Int):=by
 obtain⟨j,q,_⟩:=a.funs f e;obtain⟨r,_⟩:=kB a e;rw[wS a (λu hu=>⟨(j.scope.1 u hu).1,j.vars u hu⟩) p,<-q]at h;obtain⟨i,hi⟩:=X6.1 (List.mem_filter.1 h).1;exact⟨i,jl r hi⟩
end
theorem Pu{x:bh}(p:ax x≠[])(h:∀v∈ax x,c<=x.un.getD v.toNat 0):c<=gS x:=by
 unfold gS;have a:∀y∈(ax x).map λv=>x.un.getD v.toNat 0,c<=y:=λy f=>by
  obtain⟨v,q,rfl⟩:=j0.1 f;exact h v q
 have j:(ax x).map (λv=>x.un.getD v.toNat 0)≠[]:=λe=>p (List.map_eq_nil_iff.1 e);generalize (ax x).map (λv=>x.un.getD v.toNat 0)=l at a j;cases l with
 |nil=>exact absurd rfl j
 |cons b l=>exact(mX l b c).2 ⟨a b (.head _),λy f=>a y (.tail _ f)⟩
section
variable{k:Int}{sizes:Λ}{s:am}
theorem Ek{x:bh}{g:Int->Int}{L:Λ}:ax {x with un:=dZ g x.un L}=ax x:=Pt (qZ _ _)
theorem Pv{a:gg}{x:bh}(w:0<=a.i)(y:s.vars[a.i.toNat]?=σ x)(f:x.gone=0):
  (a.kind=2->(bf k s a).2=0->bf k s a=(hl s a.i.toNat x (λg=>dh k g a.c) λg=>cN k g a.c,0)/\(0<=a.c/\a.c<=k)/\a.c<=gS x)/\
  (a.kind=2->(0<=a.c/\a.c<=k)->a.c<=gS x->bf k s a=(hl s a.i.toNat x (λg=>dh k g a.c) λg=>cN k g a.c,0))/\
  (a.kind=3->(bf k s a).2=0->bf k s a=(hl s a.i.toNat x (λg=>cN k g a.c) λg=>dh k g a.c,0)/\(0<=a.c/\a.c<=k)/\a.c<=(if ax x=[]then-1 else s.zero))/\
  (a.kind=3->(0<=a.c/\a.c<=k)->a.c<=(if ax x=[]then-1 else s.zero)->bf k s a=(hl s a.i.toNat x (λg=>cN k g a.c) λg=>dh k g a.c,0)):=by
 have q:∀{m:Int},(0<=a.c/\a.c<=k)->a.c<=m->di k a.c m=0:=λh1 j=>by
  unfold di;rw[if_neg (λh=>h h1),if_neg Ω]
 generalize r:(if ax x=[]then-1 else s.zero)=z;have p:(if 0<=a.i then s.vars[a.i.toNat]? else ν)=σ x:=by rw[if_pos w,y]
 refine⟨λhk he=>?_,λhk h1 j=>?_,λhk he=>?_,λhk h1 j=>?_⟩
 .unfold bf at he ⊢;rw[if_neg Ω,if_neg Ω,if_pos hk,p]at he ⊢;simp only at he ⊢;rw[if_neg (λh=>h f)]at he ⊢;split at he
  .rename_i e;exact absurd he e
  .rename_i e;rw[if_neg e];exact⟨rfl,lr e⟩
 .unfold bf;rw[if_neg Ω,if_neg Ω,if_pos hk,p];simp only;rw[if_neg (λh=>h f),if_neg (λh=>h (q h1 j))]
 .unfold bf at he ⊢;rw[if_neg Ω,if_neg Ω,if_neg Ω,if_pos hk,p]at he ⊢;simp only[r]at he ⊢;rw[if_neg (λh=>h f)]at he ⊢;split at he
  .rename_i e;exact absurd he e
  .rename_i e;rw[if_neg e];exact⟨rfl,lr e⟩
 .unfold bf;rw[if_neg Ω,if_neg Ω,if_neg Ω,if_pos hk,p];simp only[r];rw[if_neg (λh=>h f),if_neg (λh=>h (q h1 j))]
end
section
variable{k:Int}{sizes:Λ}{s:am}
theorem Pw{m:gg}(h:(bf k s m).2≠0):(bf k s m).1=s:=by
 generalize hm:bf k s m=r at h ⊢;unfold bf at hm
 repeat' split at hm
 all_goals (subst hm;first|rfl|exact absurd rfl h)
end
theorem El{of:Int->Int}(hk:0<=k)(h:∀v∈l,0<=of v/\of v<=k):0<=(ds k l of).1/\(ds k l of).1<=k:=by
 unfold ds;have:∀(l:Λ)(p:Int×Int),(0<=p.1/\p.1<=k)->(∀v∈l,0<=of v/\of v<=k)->0<=(l.foldl (eV of) p).1/\(l.foldl (eV of) p).1<=k:=λl=>by
  induction l with
  |nil=>exact λp a _=>a
  |cons v l f=>
   intro p a e;refine f _ ?_ λu hu=>e u (.tail _ hu);unfold eV;split
   .exact e v (.head _)
   .exact a
 exact this l (k,-1) ⟨hk,Q1 _⟩ h
section
variable{w:x4}{ab ac:Nat}{A R:af}{n:aK}{s:am}{t:az}
end
def dz(n:aK)(s:am)(i:Int):Int×Int:=ds n.k (bB s i) (eB n s i)
section
variable{k:Int}{n:aK}{s:am}
end
theorem w9{of:Int->Int}{c:Int}:∀(l:Λ)(b w:Int),w≠ -1->(∀v∈l,v≠ -1)->(c<=(l.foldl (eV of) (b,w)).1↔c<=b/\∀v∈l,c<=of v)
 |[],b,w,_,_=>Ξ
 |v::l,b,w,hw,e=>by
  rw[T7,List.forall_mem_cons];have j:=e v (.head _);have f:=λu hu=>e u (.tail _ hu);unfold eV;by_cases h:of v<b
  .rw[if_pos (.inr h)];show c<=(l.foldl (eV of) (of v,v)).1↔_;rw[w9 l _ _ j f];exact⟨λ⟨h1,a⟩=>⟨Ω,h1,a⟩,λ⟨_,h1,a⟩=>⟨h1,a⟩⟩
  .rw[if_neg (by rintro (h1|h1)<;>contradiction)];show c<=(l.foldl (eV of) (b,w)).1↔_;rw[w9 l _ _ hw f];exact⟨λ⟨h1,a⟩=>⟨h1,Ω,a⟩,λ⟨h1,_,a⟩=>⟨h1,a⟩⟩
theorem Px{of:Int->Int}(h:∀v∈l,v≠ -1/\of v<=k):c<=(ds k l of).1↔c<=k/\∀v∈l,c<=of v:=by
 cases l with
 |nil=>simp[ds]
 |cons v l=>
  have f:=h v (.head _);have e:ds k (v::l) of=l.foldl (eV of) (of v,v):=by
   unfold ds;rw[T7];congr 1
  rw[e,w9 l _ _ f.1 λu hu=>(h u (.tail _ hu)).1,List.forall_mem_cons];exact⟨λ⟨h1,a⟩=>⟨Ω,h1,a⟩,λ⟨_,h1,a⟩=>⟨h1,a⟩⟩
section
variable{n:aK}{s:am}
theorem Py{i:Int}(e:bg n.k n.sizes s):∀v∈bB s i,v≠ -1/\eB n s i v<=n.k:=λv a=>by
 refine⟨?_,(tw e).2⟩;unfold bB at a;split at a
 .have:=DV a;omega
 .cases a
theorem Em{i:Int}(a:bg n.k n.sizes s):0<=(dz n s i).1/\(dz n s i).1<=n.k:=by
 have hk:=a.fu;exact El Ω λv _=>tw a
theorem En{w:Nat}{x:bh}{i u:Int}(f:bg n.k n.sizes s)(a:s.vars[w]?=σ x)(j:0<=v):u∈bB (dM s w v.toNat) i↔u∈bB s i/\(i.toNat=w->u≠v):=by
 have p:=(x5.1 a).1;have r:=f.vars;have h1:=f.var w x _ a (x7 Ω);have hm:((x.mask.toNat:Nat):Int)=x.mask:=Ω
 unfold bB;rw[jq a];simp only[X1];by_cases e:w=i.toNat
 .subst e;rw[if_pos rfl,if_pos p,a];simp only;rw[fd,fd];by_cases hu:0<=u
  .simp only;rw[wZ j hu,hm,U3];simp[and_assoc]
  .exact⟨λh=>Ω,λh=>Ω⟩
 .rw[if_neg e];exact⟨λh=>⟨h,λq=>absurd q.symm e⟩,λh=>h.1⟩
theorem Pz{w:Nat}{i u:Int}{x:bh}(a:s.vars[w]?=σ x):eB n (dM s w v.toNat) i u=eB n s i u:=by
 unfold eB gf;rw[jq a];simp only[X1];by_cases e:w=i.toNat
 .subst e;rw[if_pos rfl,if_pos (x5.1 a).1,a]
 .rw[if_neg e]
end
structure dS(s s':am):Prop where
 vars:s'.vars.length=s.vars.length
 var:∀(i:Nat)x y,s.vars[i]?=σ x->s'.vars[i]?=σ y->y.gone=x.gone/\y.un.length=x.un.length
 funs:s'.funs.length=s.funs.length
 fn:∀(j:Nat)f g,s.funs[j]?=σ f->s'.funs[j]?=σ g->g.sc=f.sc/\g.ah=f.ah/\g.live=f.live/\g.cs.length=f.cs.length
 dd:s'.dd=s.dd
theorem dS.rfl{s:am}:dS s s:=⟨Eq.refl _,λ_ _ _ h1 a=>by rw[h1]at a;cases a;exact⟨Eq.refl _,Eq.refl _⟩,Eq.refl _,λ_ _ _ h1 a=>by rw[h1]at a;cases a;exact⟨Eq.refl _,Eq.refl _,Eq.refl _,Eq.refl _⟩,Eq.refl _⟩
theorem dS.trans{a b c:am}(h:dS a b)(k:dS b c):dS a c:=by
 refine⟨k.vars.trans h.vars,λi x z p A=>?_,k.funs.trans h.funs,λj f q r B=>?_,k.dd.trans h.dd⟩
 .have C:=(x5.1 p).1;have E:=h.vars;obtain⟨y,s⟩:=aD (l:=b.vars) (i:=i) Ω;have h1:=h.var i x y p s;have e:=k.var i y z s A;exact⟨e.1.trans h1.1,e.2.trans h1.2⟩
 .have C:=(x5.1 r).1;have E:=h.funs;obtain⟨g,w⟩:=aD (l:=b.funs) (i:=j) Ω;have h1:=h.fn j f g r w;have e:=k.fn j g q w B;exact⟨e.1.trans h1.1,e.2.1.trans h1.2.1,e.2.2.1.trans h1.2.2.1,e.2.2.2.trans h1.2.2.2⟩
section
variable{k:Int}{sizes:Λ}{s:am}
theorem xa{i:Nat}{x y:bh}(r:s.vars[i]?=σ x)(w:y.gone=x.gone)(z:y.un.length=x.un.length):dS s {s with vars:=s.vars.set i y}:=by
 refine⟨Z9,λj a b q h=>?_,rfl,λj f g h1 p=>?_,rfl⟩
 .have h:(s.vars.set i y)[j]?=σ b:=h;by_cases e:i=j
  .subst e;rw[c9 (x5.1 r).1]at h;rw[r]at q;cases q;cases h;exact⟨w,z⟩
  .rw[Y5 e,q]at h;cases h;exact⟨rfl,rfl⟩
 .have p:s.funs[j]?=σ g:=p;rw[h1]at p;cases p;exact⟨rfl,rfl,rfl,rfl⟩
theorem PA{f g:cK}(w:s.funs[j]?=σ f)(h:g.sc=f.sc/\g.ah=f.ah/\g.live=f.live/\g.cs.length=f.cs.length):dS s {s with funs:=s.funs.set j g}:=by
 refine⟨rfl,λi a b r p=>?_,Z9,λq a b r p=>?_,rfl⟩
 .have p:s.vars[i]?=σ b:=p;rw[r]at p;cases p;exact⟨rfl,rfl⟩
 .have p:(s.funs.set j g)[q]?=σ b:=p;by_cases e:j=q
  .subst e;rw[c9 (x5.1 w).1]at p;rw[w]at r;cases r;cases p;exact h
  .rw[Y5 e,r]at p;cases p;exact⟨rfl,rfl,rfl,rfl⟩
theorem PB:dS s {s with zero:=c}:=⟨rfl,λ_ _ _ h1 a=>by have a:s.vars[_]?=σ _:=a;rw[h1]at a;cases a;exact⟨rfl,rfl⟩,rfl,λ_ _ _ h1 a=>by have a:s.funs[_]?=σ _:=a;rw[h1]at a;cases a;exact⟨rfl,rfl,rfl,rfl⟩,rfl⟩
theorem xb{i:Nat}:dS s (dM s i v.toNat):=by
 cases a:s.vars[i]? with
 |none=>unfold dM;rw[a];exact .rfl
 |some x=>rw[jq a];exact xa a rfl rfl
theorem xc{i:Nat}{v:Int}:∀(L:Λ)(s:am),dS s (gh s i v L)
 |[],_=>.rfl
 |w::L,s=>by
  unfold gh;split
  .exact xb.trans (xc L _)
  .exact xc L s
theorem Eo{u:Nat}{x:bh}{g z:Int->Int}(a:s.vars[u]?=σ x):dS s (hl s u x g z):=
 (xa (y:={x with un:=dZ g x.un (ax x)}) a rfl (qZ _ _)).trans PB
theorem Ep{u:Nat}{f:cK}{x:bh}{t un:Int->Int}(e:bg k sizes s)(a:s.funs[j]?=σ f)(h:s.vars[u]?=σ x):dS s (iY s j f pos u x v t un):=by
 obtain⟨_,p⟩:=kB e (x6 a);have h1:dS s (dG s j f (dF t (cm s f.sc pos v) f.ah f.cs)):=PA a ⟨rfl,rfl,rfl,oc _ _ _ _ Ω⟩;exact h1.trans (xa (s:=dG s j f (dF t (cm s f.sc pos v) f.ah f.cs)) (y:={x with un:=x.un.set v.toNat (un (x.un.getD v.toNat 0))}) h rfl Z9)
theorem Er{m:gg}(w:bg k sizes s):dS s (bf k s m).1:=by
 by_cases he:(bf k s m).2=0
 .generalize a:bf k s m=r at he ⊢;unfold bf at a;split at a
  .split at a
   .subst a;exact .rfl
   .rename_i f u x e;obtain⟨_,_,j,_,_,p⟩:=mY e;obtain⟨_,q,_,_⟩:=jr p;split at a
    .subst a;exact .rfl
    .subst a;simp only;exact Ep w j q
  split at a
  .split at a
   .subst a;exact .rfl
   .rename_i f u x e;obtain⟨_,_,j,_,_,p⟩:=mY e;obtain⟨_,q,_,_⟩:=jr p;split at a
    .subst a;exact .rfl
    .subst a;simp only;exact Ep w j q
  have key:∀{x:bh},(if 0<=m.i then s.vars[m.i.toNat]? else ν)=σ x->s.vars[m.i.toNat]?=σ x:=λh=>by
   split at h
   .exact h
   .cases h
  split at a
  .split at a
   .subst a;exact .rfl
   .rename_i x e;split at a
    .subst a;exact .rfl
    .split at a
     .subst a;exact .rfl
     .subst a;simp only;exact Eo (key e)
  split at a
  .split at a
   .subst a;exact .rfl
   .rename_i x e;generalize (if ax x=[]then-1 else s.zero)=y at a;split at a
    .subst a;exact .rfl
    .split at a
     .subst a;exact .rfl
     .subst a;simp only;exact Eo (key e)
  split at a
  .split at a
   .subst a;exact .rfl
   .split at a
    .subst a;exact .rfl
    .subst a;exact xb
  .split at a
   .subst a;exact .rfl
   .subst a;exact xc _ _
 .rw[Pw he];exact .rfl
def ey(i v:Int):gg:=⟨4,i,0,v,0⟩
def kC(i c:Int):gg:=⟨2,i,0,0,c⟩
def dj(k:Int)(i:Int):Λ->am×Bool->am×Bool
 |[],p=>p
 |v::L,p=>dj k i L ((bf k p.1 (ey i v)).1,decide ((bf k p.1 (ey i v)).2=0)||p.2)
def e3(n:aK)(i:Int)(p:am×Bool):am×Bool×Bool:=
 if dx p.1 i.toNat=true then(p.1,p.2,false)else
 let q:=dj n.k i (bB p.1 i) (p.1,false)
 if(dz n q.1 i).2<0 then(q.1,false,true)else
 if 0<(dz n q.1 i).1 then((bf n.k q.1 (kC i (dz n q.1 i).1)).1,true,false)else(q.1,q.2||p.2,false)
def gH(n:aK):List Nat->am×Bool->am×Bool×Bool
 |[],p=>(p.1,p.2,false)
 |i::L,p=>if(e3 n (i:Int) p).2.2=true then((e3 n (i:Int) p).1,false,true)else gH n L ((e3 n (i:Int) p).1,(e3 n (i:Int) p).2.1)
def eI(n:aK)(s:am):am×Bool×Bool:=gH n (W3 n.sizes.length) (s,false)
structure hG(k:Int)(sizes:Λ)(s s':am):Prop where
 ok:bg k sizes s'
 me:cp s'
 same:dS s s'
 val:∀a,gP s a->er k s' a=er k s a
 pD:∀i u,u∈bB s' i->u∈bB s i
 zero:s.zero<=s'.zero
theorem xd{s':am}(h:dS s s')(e:gP s a):gP s' a:=by
 refine⟨e.1.trans h.vars.symm,λi y v f p=>?_⟩;have q:=(x5.1 f).1;have r:=h.vars;obtain⟨x,j⟩:=aD (l:=s.vars) (i:=i) Ω;have h1:=h.var i x y j f;rw[h1.1,h1.2];exact e.2 i x v j p
theorem hG.rfl(a:bg k sizes s)(e:cp s):hG k sizes s s:=⟨a,e,.rfl,λ_ _=>Eq.refl _,λ_ _ h=>h,Q1 _⟩
theorem hG.trans{a b c:am}(h:hG k sizes a b)(g:hG k sizes b c):hG k sizes a c:=
 ⟨g.ok,g.me,h.same.trans g.same,λx e=>(g.val x (xd h.same e)).trans (h.val x e),λi u hu=>h.pD i u (g.pD i u hu),Int.le_trans h.zero g.zero⟩
theorem Es{m:gg}(e:bg k sizes s)(f:cp s)(hm:m.kind<5)(h:∀i u,u∈bB (bf k s m).1 i->u∈bB s i)(j:s.zero<=(bf k s m).1.zero):hG k sizes s (bf k s m).1:=by
 obtain⟨h1,p,q⟩:=Ej (m:=m) e f;refine⟨h1,p,Er e,λa r=>?_,h,j⟩;have:=q a r;unfold ol at this;rw[if_neg Ω]at this;exact this
end
def dA{α:Type}(a b:List α)(i:Nat):List α:=a.take i++b.drop i
theorem tF{α:Type}{a b:List α}(h:a.length=b.length):dA a b b.length=a:=by
 unfold dA;rw[List.drop_length,U9,<-h,o6]
theorem xe{α:Type}{a b:List α}{i:Nat}(h:a.length=b.length):(dA a b i).length=b.length:=by
 unfold dA;rw[o7,n9,List.length_drop];omega
theorem Et{α:Type}{a b:List α}{i:Nat}(h:a.length=b.length)(hi:i<b.length):(dA a b i)[i]?=b[i]?:=by
 unfold dA;rw[Y3 (by rw[n9];omega),n9,S2];congr 1;omega
theorem tG{α:Type}{a b:List α}{i:Nat}{x:α}(h:a.length=b.length)(f:a[i]?=σ x):(dA a b i).set i x=dA a b (i+1):=by
 have q:=(x5.1 f).1;refine Y7 λj=>?_;unfold dA;rw[X1,o7,n9,List.length_drop];by_cases e:i=j
 .subst e;rw[if_pos rfl,if_pos Ω,Y1 (by rw[n9];omega),Y0 Ω,f]
 .rw[if_neg e];by_cases p:j<i
  .rw[Y1 (by rw[n9];omega),Y1 (by rw[n9];omega),Y0 p,Y0 Ω]
  .rw[Y3 (by rw[n9];omega),Y3 (by rw[n9];omega),n9,n9,S2,S2];congr 1;omega
def c0(a b:am)(m q:Nat):am:=⟨a.zero,dA a.vars b.vars m,dA a.funs b.funs q,b.dd⟩
theorem PC{a b:am}(h:dS b a):c0 a b b.vars.length b.funs.length=a:=by
 unfold c0;rw[tF h.vars,tF h.funs,<-h.dd]
theorem PD{x y:bh}(h1:y.gone=x.gone):({({x with mask:=y.mask}:bh)with un:=y.un}:bh)=y:=by
 cases x;cases y;simp only at h1;subst h1;rfl
theorem PE{x y:bh}(h:y.un.length=x.un.length):ax {x with mask:=y.mask}=ax y:=by
 unfold ax;simp only;rw[h]
theorem PF{f g:cK}(h:g.sc=f.sc/\g.ah=f.ah/\g.live=f.live):({f with cs:=g.cs}:cK)=g:=by
 obtain⟨h1,a,e⟩:=h;cases f;cases g;simp only at h1 a e;subst h1;subst a;subst e;rfl
def tH(B:Nat)(w:x4)(a:x3)(cs:List x3)(f:ca):Prop:=∃ab ac A R t N A9 aB,ff N f/\a=Γ ab/\bH w ab ac A R (cg f) (cZ (cg f)) t/\Plain t/\(∀r,A r->B<=r)/\
 fQ true A9 aB w cs (cg f).k (cg f).sizes (cZ (cg f))/\(∀q r,A9 q r->¬A r/\¬R r/\B<=r)/\(∀r,aB r->¬eA w r/\r<w.heap.size/\B<=r)/\∀r,R r->B<=r
def PG(w:x4)(q:Λ)(v:x3)(w':x4):Prop:=Ext w w'/\∃a cs ok,v= .tuple #[a,.agg cs.toArray,.bool ok]/\(cs.length=8/\∀u∈cs,u.oneCell'=true)/\((ok=false/\a= .pointer ν)\/(ok=true/\∃f,gB q=σ f/\tH w.heap.size w' a cs f))/\∀f,gB q=σ f->l5 f.funs<=16384->ok=true
theorem PH(I:dP ah):(bj ah).Nodup:=by
 rw[List.nodup_iff_pairwise_ne,V6];intro i j hi a f he;have h1:=jl I (x7 hi);have e:=jl I (x7 a);rw[he,e]at h1;have:=Z0 h1;omega
section
variable{k:Int}{sizes:Λ}{s:am}
theorem Eu{f:cK}(a:bg k sizes s)(e:f∈s.funs)(j:∀u,f.sc[pos]?=σ u->v∈bB s u):(cm s f.sc pos v).Nodup:=by
 obtain⟨h,p,_⟩:=a.funs f e;obtain⟨q,_⟩:=kB a e;rw[wS a (λu hu=>⟨(h.scope.1 u hu).1,h.vars u hu⟩) j,<-p];exact(PH q).sublist List.filter_sublist
theorem xf{α:Type}{l:List α}{q:Nat}{a:α}(e:l.Nodup)(h:l[q]?=σ a):a∉l.take q:=λhm=>by
 obtain⟨i,hi⟩:=X6.1 hm;have f:i<q:=by have:=(x5.1 hi).1;rw[n9]at this;omega
 rw[Y0 f]at hi;have h1:=(x5.1 hi).1;have j:=(x5.1 h).1;have:=(List.getElem_inj e (h₀:=h1) (h₁:=j)).1 (by rw[(x5.1 hi).2,(x5.1 h).2]);omega
theorem Ev{m q:Nat}{f:cK}{g:Int->Int}(y:bg k sizes s)(p:s.funs[j]?=σ f)(z:L.Nodup)(r:L[q]?=σ t)(hi:ck f.ah t 0=σ (m:Int)):
  bm f.ah (dF g (L.take q) f.ah f.cs) t=bm f.ah f.cs t/\jY (dG s j f (dF g (L.take q) f.ah f.cs)) j m (g (bm f.ah f.cs t))=dG s j f (dF g (L.take (q+1)) f.ah f.cs):=by
 obtain⟨a,A⟩:=kB y (x6 p);have w:=xf z r;refine⟨by rw[D0 a A hi,if_neg w],?_⟩;have h:=mE a hi;rw[u9]at h;have E:=(x5.1 h).1;obtain⟨c,x⟩:=aD (l:=f.cs) (i:=m) Ω;have e:bm f.ah f.cs t=c:=by
  unfold bm;rw[hi];simp only;rw[u9,u4,x];rfl
 have B:=(OM (f:=g) a Ω h x w).2;unfold jY;have C:(dG s j f (dF g (L.take q) f.ah f.cs)).funs[j]?=σ {f with cs:=dF g (L.take q) f.ah f.cs}:=c9 (x5.1 p).1;rw[C,e];simp only;rw[B,r8,r];unfold dG;simp only[List.set_set];rfl
end
section
variable{w:x4}{ab ac:Nat}{A R:af}{n:aK}{s:am}{t:az}
theorem xg{i:Int}(h:bH w ab ac A R n s t):ai x8 HA [Γ ab,Δ i,Δ v] w λr w'=>Ext w w'/\r=Δ (if(dH s i v).isSome=true then 0 else 1):=by
 have L:=h.2.2.2.1.vars;refine ay func148 ?_;rw[da eh.u];simp only[Z6,aY];refine aW (λr J=>r= .bool (!(dH s i v).isSome)/\Ext w J) ?_ ?_
 .rintro _ J ⟨rfl,C⟩;rw[cj];exact⟨λp=>⟨C,by rw[if_neg (by simpa using p)]⟩,λp=>⟨C,by rw[if_pos (by simpa using p)]⟩⟩
 intro aw E;refine(tq (i:=i) h).mono ?_;rintro _ U _ ⟨rfl,q⟩;rw[cj];refine⟨λa=>E _ _ ⟨?_,q⟩,λa=>?_⟩
 .rw[U1,decide_eq_true_eq]at a;have y:dH s i v=ν:=by
   unfold dH;rw[if_pos a.1];have z:=a.2;unfold dx at z;cases e:s.vars[i.toNat]? with
   |none=>rfl
   |some x=>
    rw[e]at z;simp only;rw[if_neg λh=>by simp[h.1]at z]
  rw[y];rfl
 refine(jW (i:=i) (h.ext q)).mono ?_;rintro _ M _ ⟨⟨b,m,rfl,B⟩,H⟩;refine(OC (v:=v) B.1).mono ?_;rintro _ N _ ⟨rfl,I⟩;rw[bJ];refine E _ _ ⟨?_,(q.trans H).trans I⟩;congr 2;by_cases f:0<=i/\i<n.sizes.length
 .obtain⟨x,e⟩:=aD (l:=s.vars) (i:=i.toNat) Ω;rw[OR B f.1 e];unfold dH;rw[if_pos f.1,e];have K:x.gone=0:=by
   rw[decide_eq_true f.1,Bool.true_and]at a;unfold dx at a;rw[e]at a;simpa using a
  simp only;by_cases j:v∈ax x
  .rw[decide_eq_true j,if_pos ⟨K,j⟩];rfl
  .rw[decide_eq_false j,if_neg λh=>j h.2];rfl
 .obtain⟨rfl,rfl⟩:=B.2.1 f;have y:dH s i v=ν:=by
   unfold dH;by_cases G:0<=i
   .rw[if_pos G,Y4 Ω]
   .rw[if_neg G]
  rw[y,decide_eq_false Ω];rfl
def PI(s:am)(j pos v:Int)(u e:Int):Prop:=(e=0/\∃f x,ew s j pos v=σ (f,u,x))\/(e=1/\ew s j pos v=ν)
theorem Ew{j pos:Int}(h:bH w ab ac A R n s t):ai x8 Hx [Γ ab,Δ j,Δ pos,Δ v] w λr w'=>Ext w w'/\∃u e,r= .tuple #[Δ u,Δ e]/\PI s j pos v u e:=by
 refine ay func145 ?_;rw[da eh.u];simp only[Z6,aY];have key:∀(K:x3->x4->Prop),(∀r w',Ext w w'->(∀f,0<=j->s.funs[j.toNat]?=σ f->aH .i64 w' r f.sc)->K r w')->ai x8 rT [Γ ab,Δ j] w K:=λK W=>by
  by_cases X:0<=j/\j<s.funs.length
  .obtain⟨f,p⟩:=aD (l:=s.funs) (i:=j.toNat) Ω;have:=wR h p;rw[show((j.toNat:Nat):Int)=j by omega]at this;refine this.mono ?_;rintro r J _ ⟨C,g,_,hm⟩;exact W r J C λH _ Y=>by rw[p]at Y;cases Y;exact hm.ls
  .refine (OL h X).mono ?_;rintro r J _ ⟨rfl,C⟩;exact W _ J C λf E p=>absurd ⟨E,by have:=(x5.1 p).1;omega⟩ X
 refine key _ λr J C Z=>?_;have M:∀{P:Prop},(¬∃f u,0<=j/\0<=pos/\s.funs[j.toNat]?=σ f/\f.live≠0/\f.sc[pos.toNat]?=σ u)->(ew s j pos v=ν->P)->P:=λz am=>am (by
  cases I:ew s j pos v with
  |none=>rfl
  |some q=>
   obtain⟨f,u,x⟩:=q;obtain⟨N,O,a3,a4,a5,_⟩:=mY I;exact absurd ⟨f,u,N,O,a3,a4,a5⟩ z)
 refine aW (λaa U=>Ext J U/\((aa= .bool true/\ew s j pos v=ν)\/(aa= .bool false/\∃f u,0<=j/\0<=pos/\s.funs[j.toNat]?=σ f/\f.live≠0/\f.sc[pos.toNat]?=σ u))) ?_ ?_
 .rintro _ U ⟨Q,⟨rfl,z⟩|⟨rfl,f,u,E,ad,p,ao,hu⟩⟩
  .rw[bQ];exact⟨C.trans Q,0,1,rfl,.inr ⟨rfl,z⟩⟩
  .rw[aY];intro ap B _ _;have ae:=(Z f E p).ext (Q.trans B);refine sf (y:=pos) (i:=pos.toNat) Ω an.u ag.i ae hu λb o aq=>?_;rw[aF (v:=Δ u) Ψ aq,fF (y:=pos) (i:=pos.toNat) Ω an.u ag.i Ψ ae hu];have af:=(C.trans Q).trans B;refine(xg (i:=u) (v:=v) (h.ext af)).mono ?_;rintro _ av _ ⟨ah,rfl⟩;refine⟨.inl ah,af.trans ah,u,_,rfl,?_⟩;have I:ew s j pos v=(dH s u v).map λx=>(f,u,x):=by
    unfold ew;rw[if_pos ⟨E,ad⟩,p];simp only;rw[if_pos ao,hu]
   cases ak:dH s u v with
   |none=>exact .inr ⟨rfl,by rw[I,ak];rfl⟩
   |some x=>exact .inl ⟨rfl,f,x,by rw[I,ak];rfl⟩
 intro aw L;refine(DK (j:=j) (h.ext C)).mono ?_;rintro _ ap _ ⟨rfl,B⟩;have same:∀{f H:cK},s.funs[j.toNat]?=σ f->s.funs[j.toNat]?=σ H->H=f:=λa b=>by rw[a]at b;exact(Z0 b).symm
 rw[bJ,cj];refine⟨λS=>M (λ⟨f,u,N,O,a3,a4,a5⟩=>?_) λz=>L _ _ ⟨B,.inl ⟨rfl,z⟩⟩,λV=>?_⟩
 .unfold hh at S;rw[a3]at S;simp[N,a4]at S
 have V:0<=j/\hh s j.toNat=true:=by simpa using V
 obtain⟨E,G⟩:=V;obtain⟨f,p,au⟩:∃f,s.funs[j.toNat]?=σ f/\f.live≠0:=by
  unfold hh at G;cases p:s.funs[j.toNat]? with
  |none=>rw[p]at G;cases G
  |some f=>rw[p]at G;exact⟨f,rfl,by simpa using G⟩
 rw[aR,aj];refine⟨λax=>M (λ⟨_,_,_,O,_⟩=>Ω) λz=>L _ _ ⟨B,.inl ⟨rfl,z⟩⟩,λad=>?_⟩;rw[aV an.u ((Z f E p).ext B),cQ];by_cases al:(f.sc.length:Int)<=pos
 .refine M (λ⟨H,u,_,_,a3,_,a5⟩=>?_) λz=>L _ _ ⟨B,.inl ⟨by rw[decide_eq_true al],z⟩⟩;obtain rfl:=same p a3;have:=(x5.1 a5).1;omega
 .obtain⟨u,hu⟩:=aD (l:=f.sc) (i:=pos.toNat) Ω;exact L _ _ ⟨B,.inr ⟨by rw[decide_eq_false al],f,u,E,Ω,p,au,hu⟩⟩
theorem tI{most:Int}(h:bH w ab ac A R n s t):ai x8 Hc [Γ ab,Δ c,Δ most] w λr w'=>Ext w w'/\r=Δ (di n.k c most):=by
 refine ay func102 ?_;refine(mR h).mono ?_;rintro _ J _ ⟨rfl,a⟩;refine jI.mono ?_;rintro _ U _ ⟨rfl,e⟩;have hi:cz c n.k↔0<=c/\c<=n.k:=⟨λh=>h.2,λj=>⟨h.2.2.2.1.fu,j⟩⟩;unfold di;rw[bJ,cj];refine⟨λf=>⟨a.trans e,?_⟩,λf=>?_⟩
 .have:¬cz c n.k:=by simpa using f
  rw[if_pos λh=>this (hi.2 h)]
 .have:cz c n.k:=by simpa using f
  rw[if_neg λh=>h (hi.1 this),bS,aj];exact⟨λh=>⟨a.trans e,by rw[if_pos h]⟩,λh=>⟨a.trans e,by rw[if_neg h]⟩⟩
theorem PJ{a b:Int}(hk:right k)(f:0<=a/\a<=k)(j:0<=b/\b<=k)(s:a=k\/b<=a):ai x8 HJ [Δ a,Δ b,Δ k] w λv w'=>v= .tuple #[Δ (dh k a b),Δ 0]/\Ext w w':=by
 have x:1<=k/\k<=2147483648:=hk;refine ay func159 ?_;refine aW (λr J=>r= .bool false/\Ext w J) ?_ ?_
 .rintro _ J ⟨rfl,e⟩;unfold dh;rw[aY,bb,aj];refine⟨λh=>⟨by rw[if_pos h],e⟩,λh=>?_⟩;rw[if_neg h,bS,aj];refine⟨λy=>Ω,λ_=>?_⟩;rw[ec,wrap_i64 Ω Ω];exact⟨rfl,e⟩
 intro aw p;refine jI.mono ?_;rintro _ J _ ⟨rfl,e⟩;rw[decide_eq_true (show cz a k from⟨hk,f⟩),bJ,Y9,aY];refine jI.mono ?_;rintro _ U _ ⟨rfl,q⟩;rw[decide_eq_true (show cz b k from⟨hk,j⟩),bJ,Y9];exact p _ _ ⟨rfl,e.trans q⟩
theorem tJ{a:Int}(h:bH w ab ac A R n s t)(e:0<=a/\a<=n.k)(f:0<=c/\c<=n.k)(j:a=n.k\/c<=a):ai x8 nj [Γ ab,Δ a,Δ c] w λr w'=>r=Δ (dh n.k a c)/\Ext w w':=by
 refine ay func104 ?_;refine(mR h).mono ?_;rintro _ J _ ⟨rfl,p⟩;refine(PJ h.2.2.2.1.fu e f j).mono ?_;rintro _ U _ ⟨rfl,q⟩;rw[bz,bA];exact⟨rfl,p.trans q⟩
theorem q6{a:Int}(h:bH w ab ac A R n s t)(e:0<=a/\a<=n.k)(f:0<=c/\c<=n.k):ai x8 nk [Γ ab,Δ a,Δ c] w λr w'=>r=Δ (cN n.k a c)/\Ext w w':=by
 refine ay func105 ?_;refine(mR h).mono ?_;rintro _ J _ ⟨rfl,j⟩;refine(OE e f h.2.2.2.1.fu).mono ?_;rintro _ U _ ⟨rfl,p⟩;rw[bz,bA];exact⟨rfl,j.trans p⟩
end
theorem PK{g n c:Nat}{cs:List x3}(a:ad w g cH cs)(h:∀w',ae (λr=>r=g) w w'->(∀o vs,w.rangeAt g o vs->w'.rangeAt g o vs)->K (.slice (σ ⟨g,0,ν⟩) n c) w'):
  aC x8 (convert cL cL (.slice (σ ⟨g,0,ν⟩) n c)) w K:=by
 have f:∀r,(w.freeze ⟨g,cs.length,ν⟩ 1).heap[r]?=if g=r then(w.heap[r]?).map (λ| .cells c p (lo,hi)=>.cells c p (if lo == hi then(cs.length,cs.length+1)else(min lo cs.length,max hi (cs.length+1)))|o=>o)else w.heap[r]?:=λr=>by
  unfold x4.freeze;rw[if_neg Φ];exact Array.getElem?_modify
 have A:(w.freeze ⟨g,cs.length,ν⟩ 1).heap.size=w.heap.size:=by
  unfold x4.freeze;rw[if_neg Φ];exact Array.size_modify
 have q:w.shape? g=σ (cH,cs.length):=by
  unfold x4.shape?;unfold ad at a;rw[a];simp
 have s:(convert cL cL (.slice (σ ⟨g,0,ν⟩) n c)).run x8 w= .ok (.slice (σ ⟨g,0,ν⟩) n c) (w.freeze ⟨g,cs.length,ν⟩ 1):=by
  simp[convert,run_underlying cL.u,run_underlying cH.u,markStringish,q]
 unfold ad at a;refine .of s ⟨by unfold x4.freeze;rw[if_neg Φ],.kb (by unfold x4.freeze;rw[if_neg Φ]) (by unfold x4.freeze;rw[if_neg Φ]),by unfold x4.freeze;rw[if_neg Φ],Ω,λr o e I=>?_⟩ (h _ ⟨Ω,λr o e _ x=>?_⟩ λo vs y j v z=>?_)
 .rw[f];by_cases he:g=r
  .subst he;rw[a]at e;cases e;cases I
  .rw[if_neg he];exact e
 .rw[f,if_neg λhe=>x he.symm];exact e
 .have h1:=y j v z;unfold x4.cell? at h1 ⊢;rw[f,if_pos rfl];rw[a]at h1 ⊢;exact h1
def xh(s0 s:am):Prop:=s.zero=s0.zero/\s.funs=s0.funs/\s.vars.length=s0.vars.length/\∀(i:Nat)x,s.vars[i]?=σ x->∃a,s0.vars[i]?=σ a/\x.un=a.un/\x.gone=0/\a.gone=0/\a.mask=0
theorem xh.new(n:aK):xh (cZ n) (cZ n):=⟨rfl,rfl,rfl,λi x a=>by
 refine⟨x,a,rfl,?_⟩;have a:(n.unary.map newVar)[i]?=σ x:=a;rw[v8]at a;obtain⟨u,_,rfl⟩:=Y6.1 a;exact⟨rfl,rfl,rfl⟩⟩
theorem Ex(n:aK):cp (cZ n):=λf _ _ v _ x a=>by
 obtain⟨_,_,_,h,_⟩:=(xh.new n).2.2.2 _ x a;exact h
theorem PL{U:x4}{al:Nat}{E:x3}{cs:List x3}{f:ca}(G:tH B U E cs f)(e:Ext U w)(H:ad w al aA cs)(O:U.heap.size<=al):
  ∃ab ac A R A9 aB t,E=Γ ab/\b5 w ab ac al A R A9 aB (cg f) (cZ (cg f)) (cZ (cg f)) t [] cs/\t.marks=[]/\(∀r,A r->B<=r)/\(∀q r,A9 q r->B<=r)/\t.cells.length<=2000000/\t.olds.length=0/\(cg f).funs.length<=256/\t.ii=0/\(∀r,aB r->B<=r)/\∀r,R r->B<=r:=by
 obtain⟨ab,ac,A,R,t,N,A9,aB,x,rfl,y,j,J,K,C,p,L⟩:=G;have F:=mc y;have z:=e.size;have s:=(ti (Cf x).1 (wP x) (cg f).unary.length (cg f).funs.length);rw[wv,<-y.2.1]at s;unfold az.bY at s;rw[u7]at s;refine⟨ab,ac,A,R,λq r=>A9 q r/\r<U.heap.size,aB,t,rfl,⟨y.ext e,j.2.2.1,H,K.old.ext e,λq r h=>⟨(C q r h.1).1,(C q r h.1).2.1,by have:=h.2;omega⟩,λr a=>⟨λh=>(p r a).1 (mN (λo M I _=>e.aU r o M I) h),by have:=(p r a).2;omega,by have:=(p r a).2;omega⟩,λh=>by have:=F al (.inl h);omega,λh=>by have:=F al (.inr h);omega⟩,j.1,J,λq r h=>(C q r h.1).2.2,s,by rw[j.2.1];rfl,wP x,j.2.2.2,λr a=>(p r a).2.2,L⟩
def PM(s:am):Prop:=∀e∈s.dd,e.sc.length<=1000/\e.lg.length<=1000
section
variable{w w':x4}{ab ac al dg:Nat}{A R O M aB:af}{A9:Nat->af}{k:Int}{sizes:Λ}{I:List am}{n:aK}{s u:am}{t:az}{h:List az}{cs:List x3}
structure RM(w:x4)(al:Nat)(A R:af)(A9:Nat->af)(aB O M:af):Prop where
 o:∀r,O r->r<w.heap.size/\¬A r/\¬R r/\(∀q,¬A9 q r)/\¬aB r/\r≠al/\¬M r
 m:∀r,M r->r<w.heap.size/\¬A r/\(∀q,¬A9 q r)/\¬aB r/\r≠al
theorem b5.side{S:af}(p:b5 w ab ac al A R A9 aB n s u t h cs)(f:ae S w w')(e:∀r,r<w.heap.size->S r->¬A r/\¬R r/\(∀q,¬A9 q r)/\¬aB r/\r≠al):b5 w' ab ac al A R A9 aB n s u t h cs:=by
 have z:=f.size;exact⟨⟨p.de.1.aa f λr a h I=>h.elim (e r a I).1 (e r a I).2.1,p.de.2⟩,p.hg,p.box.aa f λI=>(e al p.box.lt I).2.2.2.2 rfl,p.doc.aa f λr a h I=>h.elim (λ⟨q,h⟩=>(e r a I).2.2.1 q h) (e r a I).2.2.2.1,p.apart,
  λr a=>⟨λh=>(p.read r a).1 (mN (λo j I _=>f.aU r o j I λx=>(e r (p.read r a).2.1 x).2.2.2.1 a) h),by have:=(p.read r a).2.1;omega,(p.read r a).2.2⟩,p.out⟩
theorem b5.Ey(p:b5 w ab ac al A R A9 aB n s u t h cs):∀q r,A9 q r->¬aB r:=by
 obtain⟨_,_,_,_,_,_,_,_,_,_,_,_,_,a⟩:=p.doc;exact(a rfl).2
end
theorem Ez{w0:x4}{out:x3}{g:Nat}{x:Int}(e:Ext w0 w)(hm:aq .i64 ag w g out l)(f:∀r,leads out r->w0.heap.size<=r)(F:l.length<=1000000000)(p:∀v w' q,Ext w0 w'->aq .i64 ag w' q v (l++[x])->(∀r,leads v r->w0.heap.size<=r)->K v w'):
  aC x8 (Y8 an 1 #[(0,Δ x)]) w λy J=>aC x8 (Z3 #[an,an] an #[out,y]) J K:=by
 refine eM (k:=.i64) an.u ag.i rfl λv4 G H I a s=>?_;refine h5 an.u ag.i rfl (hm.ext a) s.ls Θ Θ λv5 A L B C E=>?_;have z:=(e.trans a).size;exact p _ _ A ((e.trans a).then E λr j he=>by have:=f r he;omega) B λr j=>(C r j).elim (f r) λh=>Ω
theorem q7(x:bh):(ax x).length<=x.un.length:=by
 unfold ax;have:=List.length_filter_le (λv:Int=>!dropped x.mask v) ((W3 x.un.length).map λv:Nat=>(v:Int));rw[u7,List.length_range]at this;exact this
def EA(w:x4)(g:Nat)(v:x3)(l:List td):Prop:=∃E,be n2 3 eY w g v E/\E.length=l.length/\∀(q:Nat)x e,E[q]?=σ x->l[q]?=σ e->x.v=e.v/\(∃g,aq .i64 ag w g x.aL e.sc)/\∃g,aq .i64 ag w g x.bv e.lg
section
variable{w:x4}{ab ac:Nat}{A R:af}{n:aK}{s:am}{t:az}
theorem PN(h:bH w ab ac A R n s t)(af:PM s)(aV:s.dd.length<=100000):ai x8 Gj [Γ ab] w λv w'=>Ext w w'/\∃g,EA w' g v s.dd/\∀r,leadsTo v r->w.heap.size<=r:=by
 obtain⟨⟨aW,aX,aZ,a1,P⟩,_⟩:=h;obtain⟨_,_,_,_,_,E,_,_,ah,_,_,_,_,M,Q⟩:=id P;have a2:E.length=s.dd.length:=Q.1;refine ay func17 ?_;rw[da eh.u];simp only[Z6,aY];rw[aQ cG.p 4 ah rfl,e9 ns.u M];refine b3.range E.length (λj out U=>Ext w U/\∃g,EA U g out (s.dd.take j)/\∀r,leadsTo out r->w.heap.size<=r) Ω ⟨Ext.refl _,0,⟨[],be.nil _ _ _ _ _,rfl,λq x e h=>by simp at h⟩,λr B=>(fg B).elim⟩ ?_ ?_
 .rintro j out U ak S ⟨z,g,⟨O,C,V,al⟩,J⟩ am;obtain⟨x,W⟩:=aD (l:=E) S;obtain⟨e,N⟩:=aD (l:=s.dd) (i:=j) Ω;obtain⟨a6,a7⟩:=af e (x6 N);have a8:=P.ext z;obtain⟨an,ao,ap⟩:=Q.2 j x e W N;have f2:=ao.ls.ext z;have f3:=ap.ls.ext z;refine bD Ω ?_;rw[dE rfl ns.u eY.i (M.ext z) S,bF eY.p eY.i rfl ((M.ext z).range W)];refine bw eY.i λge ba bb au av=>?_;refine bT (vs:=n2 x) eY.i rfl rfl (by intro u hu;simp[n2]at hu;rcases hu with rfl|rfl|rfl<;>first|rfl|exact f2.cells.2|exact f3.cells.2) av λaw ax bc az=>?_;have K:Ext U aw:=au.put ax Ω;rw[bF eY.p eY.i rfl az.range];refine(Pq (v:=x.v) (f2.ext K) (f3.ext K) Ω Ω).mono ?_;rintro _ bd _ ⟨aA,aB,aC,g1,bf,rfl,bg,bh,X,Y⟩;let a:ps:=⟨x.v,aB,aC⟩;refine h2 (f:=n2) (a:=a) ns.u eY.i Ω rfl rfl λbi bj aE bk L aF=>?_;have G:=(K.trans aA).trans L;have bl:=z.size;have bm:=G.size;have bn:=K.size;have bo:=L.size;have Z:(s.dd.take j).length=j:=by rw[n9];omega
  refine ip (f:=n2) (a:=a) ns.u eY.i rfl (C.ext G) (by simpa using aF.sl) (by intro u hu;simp[n2,a]at hu;rcases hu with rfl|rfl|rfl<;>first|rfl|exact X.ls.cells.2|exact Y.ls.cells.2) Ω Ω λbp aG aa aH aI ad=>?_;have bq:∀r,leadsTo out r->r=g/\r<U.heap.size:=λr B=>by obtain⟨ae,bt⟩:=C.leads B;omega
  have aJ:Ext w aa:=(z.trans G).then ad λr B he=>by have:=J r he;omega
  rw[aM];refine am _ _ ⟨aJ,aG,⟨O++[a],aH,by simp[V,Z];omega,λq y f I H=>?_⟩,λr B=>(aI r B).elim (J r) λh=>Ω⟩;have aU:∀{v:x3}{aK:Nat}{l:Λ},aq .i64 ag aE aK v l->∃g,aq .i64 ag aa g v l:=λhm=>⟨_,br hm ad λr B he=>by
   obtain⟨ae,c,aL⟩:=ee (C.ext G) he;exact ce hm aL Φ B ae⟩
  by_cases aN:q<O.length
  .rw[Y1 aN]at I;rw[List.getElem?_take]at H;split at H
   .obtain⟨aO,⟨_,aP⟩,_,aS⟩:=al q y f I (by rw[List.getElem?_take,if_pos Ω];exact H);exact⟨aO,aU (aP.ext G),aU (aS.ext G)⟩
   .cases H
  .have aT:q=O.length:=by have:=(x5.1 I).1;simp at this;omega
   subst aT;rw[Y3 (o5 _),U4]at I;rw[V,Z,List.getElem?_take,if_pos Ω,N]at H;cases I;cases H;exact⟨an,aU (X.ext L),aU (Y.ext L)⟩
 .rintro out U ak ⟨z,g,C,J⟩;rw[aR,aj];refine⟨λh=>Ω,λ_=>⟨z,g,?_,J⟩⟩;rw[j9 Ω]at C;exact C
end
def lu(s:am)(sc t:Λ):Bool:=(sc.zip t).all λp=>match s.vars[p.1.toNat]? with
 |some x=>decide (p.2∈ax x)
 |none=>false
section
variable{w:x4}{ab ac:Nat}{A R:af}{n:aK}{s:am}{t:az}
end
def om(ah t:Λ):Int:=(ck ah t 0).getD 0
def lv(s:am)(f:cK)(pos:Nat)(v:Int):Λ:=(cm s f.sc pos v).map (om f.ah)
def kD(s:am)(sc:Λ)(pos:Nat)(v:Int)(t:Λ):Bool:=decide (t.getD pos 0=v)&&lu s sc t
section
variable{k:Int}{sizes:Λ}{s:am}{f:cK}{pos:Nat}{v:Int}
theorem PO:lu s sc t=true↔ ∀(p:Nat)u w,sc[p]?=σ u->t[p]?=σ w->w∈bB s u:=by
 unfold lu;rw[List.all_eq_true];constructor
 .intro h p u w hu hw;have:=h (u,w) (x6 (List.getElem?_zip_eq_some.2 ⟨hu,hw⟩));unfold bB;cases a:s.vars[u.toNat]? with
  |none=>simp[a]at this
  |some x=>simpa[a]using this
 .rintro h ⟨u,w⟩ hm;obtain⟨p,e⟩:=X6.1 hm;obtain⟨h1,f⟩:=List.getElem?_zip_eq_some.1 e;have:=h p u w h1 f;unfold bB at this;simp only;cases a:s.vars[u.toNat]? with
  |none=>rw[a]at this;cases this
  |some x=>rw[a]at this;simpa using this
theorem PP(q:bg k sizes s)(B:f∈s.funs)(C:pos<f.sc.length)(r:∀u,f.sc[pos]?=σ u->v∈bB s u):cm s f.sc pos v=(bj f.ah).filter (kD s f.sc pos v):=by
 obtain⟨x,y,_⟩:=q.funs f B;have j:=wS q (λu hu=>⟨(x.scope.1 u hu).1,x.vars u hu⟩) r;rw[<-y]at j;have h1:∀t∈bj f.ah,(mS (od s pos v f.sc 0) t=true↔t∈cm s f.sc pos v):=λt a=>by rw[j,List.mem_filter];exact⟨λh=>⟨a,h⟩,λh=>h.2⟩
 rw[j];refine List.filter_congr λt a=>?_;have E:t.length=f.sc.length:=by rw[r5 a,y];simp[bI]
 rw[V7,h1 t a,wX,kD,U1,decide_eq_true_eq,PO];constructor
 .rintro⟨_,h⟩;obtain⟨u,hu⟩:=aD (l:=f.sc) C;obtain⟨w,hw⟩:=aD (l:=t) (i:=pos) Ω;have z:=h pos u w hu hw;rw[if_pos rfl]at z;refine⟨by rw[u4,hw];exact z,λp u' w' A F=>?_⟩;have:=h p u' w' A F;split at this
  .rename_i e;subst e;rw[this];exact r u' A
  .exact this
 .rintro⟨h1,G⟩;refine⟨E,λp u w hu hw=>?_⟩;split
  .rename_i e;subst e;rw[u4,hw]at h1;exact h1
  .exact G p u w hu hw
end
section
variable{w:x4}{dO:x3}{k:Int}{sizes:Λ}{s:am}
theorem PQ{j pos:Int}(h:eW w dO k sizes s)(ab:bg k sizes s)(am:cp s):ai x8 Ib [dO,Δ j,Δ pos,Δ v] w λr w'=>Ext w w'/\∃u,r= .tuple #[Δ u,.bool (ew s j pos v).isSome]:=by
 have aJ:=ab.vars;refine ay func201 ?_;refine bk λg1 J aK H ao=>?_;have ac:=h.box H ao;obtain⟨szv,aL,aM,aN,aO,aP,I,aQ,_,ap,aT,aU,ad,aZ⟩:=id ac;refine aW (λr U=>Ext J U/\((r= .bool true/\ew s j pos v=ν)\/(r= .bool false/\∃f u,0<=j/\0<=pos/\s.funs[j.toNat]?=σ f/\f.live≠0/\f.sc[pos.toNat]?=σ u))) ?_ λaw E=>?_
 .rintro _ U ⟨A,⟨rfl,z⟩|⟨rfl,f,u,K,ae,e,af,hu⟩⟩
  .rw[bQ,z];exact⟨H.trans A,0,rfl⟩
  .rw[aY];have ah:=x6 e;have L:=x6 hu;obtain⟨ak,a1,_⟩:=ab.funs f ah;have M:=(ak.scope.1 u L).1;have a2:=ak.vars u L;have M:0<=u:=M;obtain⟨x,N⟩:=aD (l:=s.vars) (i:=u.toNat) Ω;rw[aG aA.p 6 (I.ext A) rfl];refine jH (i:=j.toNat) Ω dm.u cU.i (bi ad A) (by rw[v8,e];rfl) λb o cs O Q=>?_;obtain⟨R,aq,v3,rfl,h1,au,av⟩:=mW Q;rw[aS cU.p rfl,aS aX.p rfl,aF (v:=R) Ψ (O 0 _ rfl),fF (y:=pos) (i:=pos.toNat) Ω an.u ag.i Ψ (dD h1) hu,aG aA.p 3 (I.ext A) rfl];refine gw (α:=Λ) (a:=ax x) (i:=u.toNat) rfl Ω b2.u an.i Ψ (bi ap A) (by rw[v8,N];rfl) λa6 az=>?_;refine(tu (dD az)).mono ?_;rintro _ a7 _ ⟨rfl,aB⟩;refine⟨(H.trans A).trans aB,u,?_⟩;have aC:=am f ah af u L x N;have S:ew s j pos v=(dH s u v).map λx=>(f,u,x):=by
    unfold ew;rw[if_pos ⟨K,ae⟩,e];simp only;rw[if_pos af,hu]
   have aE:dH s u v=if v∈ax x then σ x else ν:=by
    unfold dH;rw[if_pos M,N];simp only[aC,true_and]
   rw[S,aE];by_cases G:v∈ax x
   .rw[if_pos G,decide_eq_true G];rfl
   .rw[if_neg G,decide_eq_false G];rfl
 have V:∀{P:Prop},(¬∃f u,0<=j/\0<=pos/\s.funs[j.toNat]?=σ f/\f.live≠0/\f.sc[pos.toNat]?=σ u)->(ew s j pos v=ν->P)->P:=λz aH=>aH (by
  cases S:ew s j pos v with
  |none=>rfl
  |some q=>
   obtain⟨f,u,x⟩:=q;obtain⟨W,X,a3,a4,a5,_⟩:=mY S;exact absurd ⟨f,u,W,X,a3,a4,a5⟩ z)
 refine ac.load λu hu=>?_;refine(Pf (j:=j) hu).mono ?_;rintro _ a8 _ ⟨rfl,B⟩;have same:∀{f Y:cK},s.funs[j.toNat]?=σ f->s.funs[j.toNat]?=σ Y->Y=f:=λa b=>by rw[a]at b;exact(Z0 b).symm
 rw[bJ,cj];refine⟨λZ=>V (λ⟨f,u,W,X,a3,a4,a5⟩=>?_) λz=>E _ _ ⟨B,.inl ⟨rfl,z⟩⟩,λaa=>?_⟩
 .unfold hh at Z;rw[a3]at Z;simp[W,a4]at Z
 have aa:0<=j/\hh s j.toNat=true:=by simpa using aa
 obtain⟨K,C⟩:=aa;obtain⟨f,e,aI⟩:∃f,s.funs[j.toNat]?=σ f/\f.live≠0:=by
  unfold hh at C;cases e:s.funs[j.toNat]? with
  |none=>rw[e]at C;cases C
  |some f=>rw[e]at C;exact⟨f,rfl,by simpa using C⟩
 rw[aR,aj];refine⟨λba=>V (λ⟨_,_,_,X,_⟩=>Ω) λz=>E _ _ ⟨B,.inl ⟨rfl,z⟩⟩,λae=>?_⟩;rw[aG aA.p 6 (I.ext B) rfl];refine jH (i:=j.toNat) Ω dm.u cU.i (bi ad B) (by rw[v8,e];rfl) λb o cs O Q=>?_;obtain⟨R,aq,v3,rfl,h1,au,av⟩:=mW Q;rw[aS cU.p rfl,aS aX.p rfl,aF (v:=R) Ψ (O 0 _ rfl),aV an.u (dD h1),cQ];by_cases al:(f.sc.length:Int)<=pos
 .refine V (λ⟨Y,u,_,_,a3,_,a5⟩=>?_) λz=>E _ _ ⟨B,.inl ⟨by rw[decide_eq_true al],z⟩⟩;obtain rfl:=same e a3;have:=(x5.1 a5).1;omega
 .obtain⟨u,hu⟩:=aD (l:=f.sc) (i:=pos.toNat) Ω;exact E _ _ ⟨B,.inr ⟨by rw[decide_eq_false al],f,u,K,Ω,e,aI,hu⟩⟩
theorem EB{f:cK}(h:eW w dO k sizes s)(M:bg k sizes s)(ae:s.funs[j]?=σ f)(aL:pos<f.sc.length)(aP:∀u,f.sc[pos]?=σ u->v∈bB s u):
  ai x8 Ht [dO,Δ (j:Int),Δ (pos:Int),Δ v] w λr w'=>Ext w w'/\aH .i64 w' r (lv s f pos v)/\∀q,leads r q->w.heap.size<=q:=by
 have bC:=M.vars;have V:=x6 ae;obtain⟨N,af,_⟩:=M.funs f V;have O:=(kB M V).1;have aQ:f.ah.length=f.sc.length:=by rw[af];simp[bI]
 have bE:=jj O;have bG:(bj f.ah).length<=4096:=by
  have P:aN (bI sizes f.sc)<=4096:=N.small;rw[<-af]at P;omega
 refine ay func141 ?_;refine bk λg1 J bH W aR=>?_;obtain⟨szv,bJ,bK,bL,bM,bN,aj,bO,_,aT,bP,bQ,aU,bR⟩:=h.box W aR;rw[aG aA.p 6 aj rfl];refine jH (i:=j) rfl dm.u cU.i aU (by rw[v8,ae];rfl) λb o cs G aY=>?_;obtain⟨X,Y,v3,rfl,h1,P,aZ⟩:=mW aY;rw[aS cU.p rfl,bF (cs:=[X,Y,v3]) aX.p aX.i rfl (λq u z=>by
  have:q<3:=(x5.1 z).1
  match q,this,z with
  |0,_,z=>cases z;exact G 0 _ rfl
  |1,_,z=>cases z;exact G 1 _ rfl
  |2,_,z=>cases z;exact G 2 _ rfl)]
 refine bw aX.i λbS U bU a1 a2=>?_;have a6:∀u∈[X,Y,v3],u.oneCell'=true:=λu hu=>by
  simp only[V1,List.not_mem_nil,or_false]at hu;rcases hu with rfl|rfl|rfl
  .exact hT h1
  .exact hT P
  .exact hT aZ
 refine bT (vs:=[X,Y,v3]) aX.i rfl rfl a6 a2 λa7 a8 bV ak=>?_;have al:Ext J a7:=a1.put a8 Ω;have s1:=dD h1;have ba:=dD P;rw[aG aX.p 1 ak rfl];refine(vk f.ah (ba.ext al) ⟨by rw[aQ];exact N.scope.2,O⟩).mono ?_;rintro bW H _ ⟨am,ao⟩;have Z:=al.trans am;rw[fG b2.u ao];refine b3.range (bj f.ah).length (λi out E=>Ext H E/\(∃g,aq .i64 ag E g out ((((bj f.ah).take i).filter (kD s f.sc pos v)).map (om f.ah)))/\∀r,leads out r->H.heap.size<=r) Ω ⟨Ext.refl _,⟨0,aq.nil _ _ _ _⟩,λr G=>by obtain⟨_,_,_,e,_⟩:=G;cases e⟩ ?_ ?_
 .rintro q out E bd z ⟨A,⟨g,hm⟩,Q⟩ be;have I:(bj f.ah)[q]?=σ (cR f.ah (q:Int)):=qg O Ω;generalize cR f.ah (q:Int)=tl at I;have bX:=zU I;have bf:=jl O I;have bh:om f.ah tl=(q:Int):=by unfold om;rw[bf];rfl
  have R:=Z.trans A;have au:((bj f.ah).take (q+1)).filter (kD s f.sc pos v)=((bj f.ah).take q).filter (kD s f.sc pos v)++(if kD s f.sc pos v tl=true then[tl]else[]):=by
   rw[r8,I,l7,List.filter_append];congr 1;cases ap:kD s f.sc pos v tl<;>simp[ap]
  obtain⟨aa,av⟩:=aD (l:=tl) (i:=pos) Ω;refine bD Ω ?_;refine aW (λaz aB=>Ext H aB/\(∃g,aq .i64 ag aB g az ((((bj f.ah).take (q+1)).filter (kD s f.sc pos v)).map (om f.ah)))/\∀r,leads az r->H.heap.size<=r) (λ_ _ ab=>by rw[aM];exact be _ _ ab) λaw K=>?_;refine gw (α:=Λ) rfl rfl b2.u an.i Ψ (bi ao A) I λaO S=>?_;have S:=dD S;rw[bc an.u ag.i Ψ S av,bb,aG aX.p 0 (ak.ext (am.trans A)) rfl,aV an.u (s1.ext R)];refine b3.range f.sc.length (λp ok ac=>Ext E ac/\ok= .bool (decide (aa=v)&&lu s (f.sc.take p) (tl.take p))) s1.le ⟨Ext.refl _,by simp[lu]⟩ ?_ ?_
  .rintro p _ ac bl bm ⟨B,rfl⟩ bn;obtain⟨u,ad⟩:=aD (l:=f.sc) bm;obtain⟨y,aC⟩:=aD (l:=tl) (i:=p) Ω;have aE:=x6 ad;have aF:=(N.scope.1 u aE).1;have aI:=N.vars u aE;have aI:u<sizes.length:=aI;have aF:0<=u:=aF;obtain⟨x,aJ⟩:=aD (l:=s.vars) (i:=u.toNat) Ω;have aK:lu s (f.sc.take (p+1)) (tl.take (p+1))=(lu s (f.sc.take p) (tl.take p)&&decide (y∈ax x)):=by
    unfold lu;rw[r8,r8,ad,aC,l7,l7,List.zip_append Θ,List.all_append];simp[aJ]
   refine bD Ω ?_;refine aW (λok bo=>Ext E bo/\ok= .bool (decide (aa=v)&&lu s (f.sc.take (p+1)) (tl.take (p+1)))) (λ_ _ ab=>by rw[aM];exact bn _ _ ab) λaw K=>?_;rw[bc an.u ag.i Ψ (s1.ext (R.trans B)) ad];intro bY bp _ _;have L:=B.trans bp;rw[cj];refine⟨λC=>?_,λC=>K _ _ ⟨L,by rw[aK,<-Bool.and_assoc,C];rfl⟩⟩;rw[aG aA.p 3 (aj.ext (R.trans L)) rfl];refine gw (α:=Λ) (a:=ax x) (i:=u.toNat) rfl Ω b2.u an.i Ψ (bi aT (R.trans L)) (by rw[v8,aJ];rfl) λbZ bq=>?_;rw[bc an.u ag.i Ψ (S.ext L) aC];refine(tu (dD bq)).mono ?_;rintro _ b0 _ ⟨rfl,br⟩;exact K _ _ ⟨L.trans br,by rw[aK,<-Bool.and_assoc,C,Bool.true_and]⟩
  .rintro _ ac bl ⟨B,rfl⟩;rw[o6,j9 Ω];refine b7 Ω ?_;have bt:(decide (aa=v)&&lu s f.sc tl)=kD s f.sc pos v tl:=by unfold kD;rw[u4,av];rfl
   rw[bt,cj];refine⟨λC=>?_,λC=>K _ _ ⟨A.trans B,⟨g,by rw[au,if_neg (by rw[C];decide),U9];exact hm.ext B⟩,Q⟩⟩;refine Ez (w0:=H) (A.trans B) (hm.ext B) Q ?_ λb1 w' bu bx bz bA=>K _ _ ⟨bx,⟨bu,?_⟩,bA⟩
   .rw[u7];have h1:=List.length_filter_le (kD s f.sc pos v) ((bj f.ah).take q);rw[n9]at h1;omega
   .rw[au,if_pos C,Z2,List.map_singleton,bh];exact bz
 .rintro out E bd ⟨A,⟨g,hm⟩,Q⟩;rw[o6,<-PP M V aL aP]at hm;refine b7 Ω ?_;exact⟨(W.trans Z).trans A,hm.ls,λq z=>by have:=Q q z;have:=(W.trans Z).size;omega⟩
theorem PR{j pos:Int}(h:eW w dO k sizes s)(e:bg k sizes s)(R:cp s):
  ai x8 Hr [dO,Δ j,Δ pos,Δ v] w λr w'=>Ext w w'/\r=(match ew s j pos v with|some (f,_,_)=>.tuple #[Δ (md k s f pos.toNat v),.bool true]|none=>.tuple #[Δ 0,.bool false]):=by
 refine ay func139 ?_;refine bk λg1 J az z S=>?_;have H:=h.box z S;refine H.load λu hu=>?_;refine(PQ hu e R).mono ?_;rintro _ U _ ⟨A,eQ,rfl⟩;rw[bz,bA,bJ];cases V:ew s j pos v with
 |none=>
  rw[S9,X9,bQ];exact⟨z.trans A,rfl⟩
 |some q=>
 obtain⟨f,u',x⟩:=q;rw[S8,Y9,aY];obtain⟨W,X,y,aB,B,Y⟩:=mY V;obtain⟨aC,Z,aE,aa⟩:=jr Y;obtain⟨j,rfl⟩:=U6 W;obtain⟨pos,rfl⟩:=U6 X;rw[u9]at y B;have I:=x6 y;have ab:=(x5.1 B).1;have K:∀u,f.sc[pos]?=σ u->v∈bB s u:=λu hu=>by
  rw[B]at hu;cases hu;unfold bB;rw[Z];exact aa
 have L:=H.ext A;obtain⟨szv,aH,aI,aJ,aK,aL,M,aN,_,aP,aQ,aR,ac,aT⟩:=id L;rw[aG aA.p 0 M rfl];refine L.load λaU ad=>?_;refine(EB ad e y ab K).mono ?_;rintro aO ae _ ⟨N,C,_⟩;rw[aV an.u C];have O:(lv s f pos v).length=(cm s f.sc pos v).length:=by unfold lv;rw[u7]
 rw[O];refine b3.range (cm s f.sc pos v).length (λi af E=>Ext ae E/\af=Δ ((((cm s f.sc pos v).take i).map (bm f.ah f.cs)).foldl min k)) (by rw[<-O];exact C.le) ⟨Ext.refl _,rfl⟩ ?_ ?_
 .rintro i _ E aj hi ⟨a,rfl⟩ ak;obtain⟨tl,G⟩:=aD (l:=cm s f.sc pos v) hi;obtain⟨m,hm⟩:=tE e I K (x6 G);have al:(lv s f pos v)[i]?=σ (m:Int):=by
   unfold lv;rw[v8,G];unfold om;rw[Z7,hm];rfl
  obtain⟨am,aW⟩:=kB e I;have aZ:=(x5.1 (mE am hm)).1;obtain⟨c,P⟩:=aD (l:=f.cs) (i:=m) Ω;have ap:bm f.ah f.cs tl=c:=by
   unfold bm;rw[hm];simp[u4,P]
  have Q:=N.trans a;refine bD Ω ?_;rw[bc an.u ag.i Ψ (C.ext a) al,aG aA.p 6 (M.ext Q) rfl];refine jH (i:=j) rfl dm.u cU.i (bi ac Q) (by rw[v8,y];rfl) λb o cs aq av=>?_;obtain⟨a1,a2,v3,rfl,h1,a6,aw⟩:=mW av;rw[aS cU.p rfl,aS aX.p rfl,aF (v:=v3) Ψ (aq 2 _ rfl),bc au.u ao.i Ψ (dD aw) P];refine Dt.mono ?_;rintro _ a7 _ ⟨rfl,ax⟩;rw[aM];refine ak _ _ ⟨a.trans ax,?_⟩;rw[r8,G,l7,Z2,R5,List.map_singleton,ap];rfl
 .rintro _ E aj ⟨a,rfl⟩;rw[o6];refine b7 Ω ?_;exact⟨(z.trans A).trans (N.trans a),rfl⟩
theorem tK{a b k:Int}(h1:0<=a/\a<=4294967296)(f:0<=b/\b<=4294967296):ai x8 Hu [Δ a,Δ b,Δ k] w λr w'=>r=Δ (dh k a b)/\Ext w w':=by
 refine ay func142 ?_;refine(show ai x8 If [Δ a,Δ b,Δ k] w λr w'=>(∃q,r= .tuple #[Δ (dh k a b),q])/\Ext w w' from ?_).mono ?_
 .refine ay func204 ?_;unfold dh;rw[bb,aj];refine⟨λh=>⟨⟨_,by rw[if_pos h]⟩,Ext.refl _⟩,λh=>?_⟩;rw[ec,wrap_i64 Ω Ω,kT,if_neg h];exact⟨⟨_,rfl⟩,Ext.refl _⟩
 .rintro _ J _ ⟨⟨q,rfl⟩,e⟩;rw[bz,bA];exact⟨rfl,e⟩
end
end Go.Proofs.YtikkpokkcdocoaaGreatDoor
