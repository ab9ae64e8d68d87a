/- own texts, made small by a tool (wip/ holds them as they were written): no statement of the seat. -/
import Derived.Test.YtjjhhcfgfdepdaaGreatDoorYd
set_option linter.unusedVariables false
set_option linter.unusedSimpArgs false
set_option linter.unnecessarySimpa false
open Array renaming getElem?_eq_some_iff→j0
open BitVec renaming ofInt→U5
open Bool renaming not_true→Y4,not_false→W5,eq_iff_iff→V3,and_eq_true→U4,true_and→U7
open Decidable renaming not_not→Y3
open Go renaming Value→x1,World→x3,TypeId→r9,IntKind→o6,Program→W3
open Go.Builtin renaming append_→b8
open Go.Instr renaming loadAt→u5,fieldAt→u6,storeAt→o8,indexAt→c7,buildSlice→Y1
open Go.IntKind renaming i64→X2
open Go.Proofs.Tryz renaming prog→x7
open Int renaming toNat_natCast→r8
open List renaming getElem?_eq_some_iff→x4,mem_of_getElem?→x5,getElem?_eq_getElem→x6,getElem?_map→x8,getD_eq_getElem?_getD→u4,length_map→u7,take_add_one→u9,length_append→p8,replicate→p9,take_length→o5,take_of_length_le→o9,mem_map→n9,mem_append→l7,mem_singleton→l9,getElem?_set_self→j4,length_take→j5,map_append→j6,append_assoc→c9,eq_nil_of_length_eq_zero→b9,length_cons→Z0,length_set→Z2,getElem?_eq_none→Z3,getElem?_set_ne→Y0,ext_getElem?→Y2,flatMap_cons→Y6,getElem?_take_of_lt→Y8,getElem?_set→X1,mem_iff_getElem?→X4,mem_or_eq_of_mem_set→X6,append_nil→X9,mem_cons→W6,length_eq_one_iff→W8,range→V1,pairwise_iff_getElem→V2,map_cons→V4,map_set→U3,length_singleton→U6,mem_filter→U8,length→T1,mem_of_mem_take→T3,getElem_mem→T8,map_map→S8
open Nat renaming le_refl→o4,le_trans→Y5,mul_le_mul_right→Y9,zero_le→X3,zero_add→X5,add_mul→V9,sub_self→U1,pow_le_pow_right→T6,add_assoc→S9
open Ne renaming symm→S3
open Option renaming toList_some→o7,map_some→Z4,isNone_some→Z5,map_eq_some_iff→Y7,getD_some→V6
open Option.some renaming inj→c8
set_option maxHeartbeats 16000000
open Option renaming some→σ,none→ν
variable {U w w':x3}{aM szv z:x1}{S:Nat->Prop}{e:r9}{a ad l r r' sc sizes t tl un:Λ}{c k v y:Int}{K:x1->x3->Prop}{B ac af j pos:Nat}{cs:List x1}{m:Bool}{L:List (Λ)}
namespace Go.Proofs.YtjjhhcfgfdepdaaGreatDoor
open Go Go.Vc Go.RowKit Go.Proofs Go.Proofs.Tryz
set_option maxRecDepth 100000
def N7 (w:x3) (f:b6) (v:x1) (w':x3):Prop:=Ext w w'/\ ∃go a,bg cS 3 aV w' go v a/\(∀h∈a,fI w' f.sizes h/\ ∀r,pj h r->w.heap.size<=r)/\a.map df=fC f/\ ∀r,leadsTo v r->w.heap.size<=r
def lj (k:Int) (sc cs:Λ) (h:cA):cA:=if h.1=sc then (h.1,ea k h.2 cs) else h
theorem N8 {N:Nat} {bK:Nat} {f:b6} (cH:nZ w bK f) (R:e7 N f):ai x7 G2 [Γ bK] w (N7 w f):=by
 have hk:=R.k;obtain⟨szv,gz,au,gr,a2,bL,cI⟩:=id cH;obtain⟨bM,a7,cJ,cK⟩:=id cI;refine aw func106 ?_;rw[aO dG.p 3 a2 rfl,eD dA.u a7];refine b1.range bM.length (λi l J=>∃g L,Ext w J/\kz J w.heap.size g l f.sizes L/\L.map df=eN f i) a7.le
  ⟨0,[],Ext.refl _,⟨bg.nil _ _ _ _ _,λh az=>(by cases az),λi j x y a8=>(by simp at a8),λr C=>(e8 C).elim⟩,rfl⟩ ?_ ?_
 rotate_left
 .rintro l J cL ⟨g,L,S,C,W⟩;rw[<-cJ,CG] at W;rw[aR,aj];refine⟨λh=>Ω,λ_=>N6 R C W λout w' go cM a8 ba cN X cO cP=>?_⟩;have cQ:=S.size;exact⟨S.trans a8,go,cM,ba,λh az=>⟨X h az,(C.2.1 h (cN h az)).2⟩,cO,λr C=>by have:=cP r C;omega⟩
 rintro i l J cL hi ⟨g,L,S,C,W⟩ cR;obtain⟨bb,bN⟩:=aI (l:=bM) hi;obtain⟨x,bc⟩:=aI (l:=f.funs) (i:=i) Ω;have be:=x5 bc;have bf:=cK i bb x bN bc;have bO:=pa R be;obtain⟨cT,dJ,dK⟩:=CF R i;have bQ:L.length=(eN f i).length:=by rw[<-W,u7]
 have dL:=R.k0;have bS:=a7.ext S;refine bH Ω ?_;refine aU (λl' U=>∃g L,Ext w U/\kz U w.heap.size g l' f.sizes L/\L.map df=eN f (i+1)) ?_ ?_
 .rintro l' U bh;rw[aP];exact cR _ _ bh
 intro av bT;rw[de rfl dA.u a1.i bS hi,bD a1.p a1.i rfl (bS.range bN)];refine bB a1.i λan dM dN cU cV=>?_;refine b3 (vs:=eU bb) a1.i rfl rfl bf.one cV λcW cX dO cY=>?_;have bU:Ext J cW:=cU.put cX Ω;have dP:=bU.size;refine aU (λa6 ax=>∃G c,a6=Γ G/\Ext J ax/\ab ax G aV (cS c)/\c.sc=bk x.scope/\c.cs=(hU f.sizes f.k x).2/\fI ax f.sizes c/\J.heap.size<=G/\ ∀r,pj c r->J.heap.size<=r) ?_ ?_
 rotate_left
 .intro dQ bV;intro cZ bW _ _;have ay:=bU.trans bW;have aC:=S.trans ay;have c0:=cY.ext bW;have bX:=a2.ext aC;have dR:=ay.size;rw[bD a1.p a1.i rfl (show cZ.rangeAt an 0 (eU bb) from c0.range),aO dG.p 2 bX rfl,aO dG.p 1 bX rfl];refine⟨?_,?_⟩
  .refine (Dj (bf.ext aC) R be (bL.ext aC)).mono ?_;rintro _ dS _ ⟨bi,c,rfl,h1,bj,X,O⟩;refine bB aV.i λG dT bZ bl aD=>?_;refine⟨.inl (bi.trans bl),?_⟩;refine b3 (vs:=cS c) aV.i rfl rfl X.one aD λdU b0 dV c1=>?_;have dW:=bi.size;refine bV _ _ ⟨G,c,rfl,(ay.trans bi).trans (bl.then b0 λr C he=>by have he:r=G:=he;omega),c1,h1,bj,?_,Ω,λr C=>by have:=O r C;omega⟩;exact mM (X.ext bl) b0 λr C=>.inl ⟨_,_,by have C:r=G:=C;subst C;exact aD,Φ,Φ⟩
  .refine bB aV.i λG dX bZ aE aD=>?_;refine⟨.inl aE,?_⟩;have b2:=aC.trans aE;refine (Dj (bf.ext b2) R be (bL.ext b2)).mono ?_;rintro _ dY _ ⟨b4,c,rfl,h1,bj,X,O⟩;have b5:=aD.ext b4;have dZ:=aE.size;refine b3 (vs:=cS c) aV.i rfl rfl X.one b5 λeb b7 ec c2=>?_;refine bV _ _ ⟨G,c,rfl,ay.trans ((aE.trans b4).then b7 λr C he=>by have he:r=G:=he;omega),c2,h1,bj,?_,Ω,λr C=>by have:=O r C;omega⟩;exact mM X b7 λr C=>.inl ⟨_,_,by have C:r=G:=C;subst C;exact b5,Φ,Φ⟩
 rintro _ ax ⟨G,c,rfl,bm,c3,af,aG,c4,bZ,O⟩;have b8:=C.ext bm;have c5:∀h∈L,∀r,leads h.aZ r->r<J.heap.size:=λh az r c6=>by
  obtain⟨⟨_,_,c7,b9⟩,_⟩:=C.2.1 h az;have:=bP b9 c6;omega
 have c9:∀ {j:Nat},decide (c.sc∈(L.take j).map (·.sc))=decide (bk x.scope∈((eN f i).take j).map (·.1)):=λ{j}=>by
  rw[af,<-W,<-List.map_take,S8];rfl
 have cQ:=S.size;rw[eD cj.u b8.1];refine b1.range L.length (λj au P=>∃E,au= .bool (decide (c.sc∈(L.take j).map (·.sc)))/\Ext w P/\J.heap.size<=P.heap.size/\kz P w.heap.size g l f.sizes E/\E.map df=((eN f i).map (lj f.k c.sc c.cs)).take j++(eN f i).drop j/\ab P G aV (cS c)/\fI P f.sizes c/\ ∀h∈E,∀r,leads h.aZ r->r<J.heap.size) C.1.le
  ⟨L,Ξ,S.trans bm,bm.size,b8,by simpa using W,c3,c4,c5⟩ ?_ ?_
 .rintro j _ P da ca ⟨E,rfl,ag,db,aH,M,bn,bo,Y⟩ dc;have dd:E.length=L.length:=by
   have:=congrArg T1 M;simp only[u7,p8,j5,List.length_drop] at this;omega
  obtain⟨h,az⟩:=aI (l:=E) (i:=j) Ω;have aJ:(eN f i)[j]? =σ (df h):=by
   have cb:(E.map df)[j]? =σ (df h):=by rw[x8,az];rfl
   rw[M,Dm (by rw[u7];omega)] at cb;exact cb
  have aK:((eN f i).map (lj f.k c.sc c.cs))[j]? =σ (lj f.k c.sc c.cs (df h)):=by rw[x8,aJ];rfl
  have dg:∃y,L[j]? =σ y/\y.sc=h.sc:=by
   refine⟨_,x6 ca,?_⟩;rw[<-W,x8,x6 ca] at aJ;exact congrArg Prod.fst (c8 aJ)
  obtain⟨y,K,dh⟩:=dg;have bp:(c.sc∈(L.take (j+1)).map (·.sc))↔c.sc∈(L.take j).map (·.sc)\/h.sc=c.sc:=by
   rw[u9,K,o7,j6,l7,List.map_singleton,l9,dh];exact or_congr Iff.rfl ⟨λe=>e.symm,λe=>e.symm⟩
  have cc:fE f.sizes f.k (df h):=cT _ (x5 aJ);refine bH Ω ?_;refine aU (λau Q=>∃E,au= .bool (decide (c.sc∈(L.take (j+1)).map (·.sc)))/\Ext w Q/\J.heap.size<=Q.heap.size/\kz Q w.heap.size g l f.sizes E/\E.map df=((eN f i).map (lj f.k c.sc c.cs)).take (j+1)++(eN f i).drop (j+1)/\ab Q G aV (cS c)/\fI Q f.sizes c/\ ∀h∈E,∀r,leads h.aZ r->r<J.heap.size) ?_ ?_
  .rintro ed Q bh;rw[aP];exact dc _ _ bh
  intro ee ce;intro di ak _ _;have aM:=aH.ext ak;have cg:=bn.ext ak;have ci:=bo.ext ak;obtain⟨dj,ef⟩:=aM.2.1 h (x5 az);obtain⟨⟨g1,h1⟩,_,c7,b9⟩:=id dj;obtain⟨⟨eg,dk⟩,_,eh,ck⟩:=id ci;rw[de rfl cj.u aV.i aM.1 Ω,aQ aV.p rfl,aB (v:=h.aF) Ψ (aM.1.range az 0 _ rfl),aA aV.p 0 cg rfl];refine (p4 h1.ls dk.ls).mono ?_;rintro _ ej _ ⟨rfl,ac⟩;have cl:=aM.ext ac;have bq:=cg.ext ac;have cm:=ci.ext ac;have cn:=(ag.trans ak).trans ac;have z9:=(ak.trans ac).size;rw[aj];refine⟨λbr=>?_,λcp=>?_⟩
  rotate_left
  .refine ce _ _ ⟨E,?_,cn,Ω,cl,?_,bq,cm,Y⟩
   .congr 1;exact decide_eq_decide.2 ⟨λh=>bp.2 (.inl h),λh=>(bp.1 h).resolve_right cp⟩
   .have e:lj f.k c.sc c.cs (df h)=df h:=if_neg cp;rw[e] at aK;rw[<-wM Ω aK,<-M];symm;refine Y2 λp=>?_;rw[X1];by_cases am:j=p
    .subst am;rw[if_pos rfl,if_pos Θ,x8,az];rfl
    .rw[if_neg am]
  have dl:h.cs.length=c.cs.length:=by
   have dm:h.cs.length=_:=cc.len;have dn:c.cs.length=(aL (bR f.sizes (hU f.sizes f.k x).1)).toNat:=by rw[aG];exact bO.len
   rw[dm,dn,show (df h).1=h.sc from rfl,br,af];rfl
  have ek:(ea f.k h.cs c.cs).length=h.cs.length:=by unfold ea;rw[List.length_zipWith];omega
  rw[aA aV.p 2 bq rfl,aX ao.u (ck.ext ac).ls];refine ch.range c.cs.length (λs Z=>Ext w Z/\J.heap.size<=Z.heap.size/\kz Z w.heap.size g l f.sizes (E.set j {h with cs:=(ea f.k h.cs c.cs).take s++h.cs.drop s})/\ab Z G aV (cS c)/\fI Z f.sizes c) ck.ls.le
   ⟨cn,Ω,?_,bq,cm⟩ ?_ ?_
  .have e:E.set j {h with cs:=(ea f.k h.cs c.cs).take 0++h.cs.drop 0}=E:=by
    refine Y2 λp=>?_;rw[X1];by_cases am:j=p
    .subst am;rw[if_pos rfl,if_pos Ω,az];rfl
    .rw[if_neg am]
   rw[e];exact cl
  .rintro s Z dp I ⟨bt,cq,aN,bu,bw⟩ dq;refine bH Ω ?_;intro em ap _ _;have ad:=aN.ext ap;have cr:=bu.ext ap;have ct:=bw.ext ap;have cu:=bt.trans ap;have aS:(E.set j {h with cs:=(ea f.k h.cs c.cs).take s++h.cs.drop s})[j]? =σ {h with cs:=(ea f.k h.cs c.cs).take s++h.cs.drop s}:=by
    rw[X1,if_pos rfl,if_pos Ω]
   have cw:j<(E.set j {h with cs:=(ea f.k h.cs c.cs).take s++h.cs.drop s}).length:=by rw[Z2];omega
   obtain⟨⟨_,_,dr,bx⟩,ds⟩:=ad.2.1 _ (x5 aS);obtain⟨_,_,en,dt⟩:=id ct;obtain⟨a,bz⟩:=aI (l:=h.cs) (i:=s) Ω;obtain⟨b,aq⟩:=aI (l:=c.cs) I;have du:s<({h with cs:=(ea f.k h.cs c.cs).take s++h.cs.drop s}:eG).cs.length:=by show s<((ea f.k h.cs c.cs).take s++h.cs.drop s).length;rw[p8,j5,List.length_drop];omega
   have dv:((ea f.k h.cs c.cs).take s++h.cs.drop s)[s]? =σ a:=by rw[Dm Ω];exact bz
   have bA:(ea f.k h.cs c.cs)[s]? =σ (min (a+b) f.k):=by
    unfold ea;rw[List.getElem?_zipWith,bz,aq]
   have eo:=cc.im a (x5 bz);have ep:=bO.im b (by rw[<-aG];exact x5 aq);have dw:=a2.ext cu;rw[de rfl cj.u aV.i ad.1 cw,aQ aV.p rfl,aB (v:=h.aZ) Ψ (ad.1.range aS 2 _ rfl),de rfl cj.u aV.i ad.1 cw,aQ aV.p rfl,aB (v:=h.aZ) Ψ (ad.1.range aS 2 _ rfl),bd ao.u al.i Ψ bx.ls dv,aA aV.p 2 cr rfl,bd ao.u al.i Ψ dt.ls aq,aO dG.p 1 dw rfl];refine (oV Ω Ω).mono ?_;rintro _ er _ ⟨rfl,ae⟩;refine⟨.inl ae,?_⟩;have z12:=(ap.trans ae).size;refine N3 (h:={h with cs:=(ea f.k h.cs c.cs).take s++h.cs.drop s}) (ad.ext ae) aS du λes aT cz bC=>?_;rw[aP];have dx:=ct.ext ae;have cA:=cr.ext ae;have et:=aT.size;refine dq _ ⟨(cu.trans ae).then aT λr C he=>by have:=ds r (.inl he);omega,Ω,?_,?_,?_⟩
   .rw[List.set_set] at bC;have e:=wM (A:=ea f.k h.cs c.cs) (B:=h.cs) (s:=s) Ω bA;simp only[e] at bC;exact bC
   .exact cA.V aT λI=>by
     obtain⟨eu,dy⟩:=cz _ I;exact absurd (ey cA dy) Φ
   .refine mM dx aT λr C=>.inr (.inr ⟨cz r C,λdz=>?_⟩);have:=O r (.inl dz);have:=Y h (x5 az) r C;omega
  .rintro Z dp ⟨bt,cq,aN,bu,bw⟩;refine cd Ω ?_;have e:(ea f.k h.cs c.cs).take c.cs.length++h.cs.drop c.cs.length=ea f.k h.cs c.cs:=by
    rw[<-dl,List.drop_length,X9,o9 Ω]
   simp only[e] at aN;refine ce _ _ ⟨_,?_,bt,cq,aN,?_,bu,bw,λz H r C=>?_⟩
   .congr 1;symm;exact decide_eq_true (bp.2 (.inr br))
   .have dC:lj f.k c.sc c.cs (df h)=df {h with cs:=ea f.k h.cs c.cs}:=if_pos br;rw[dC] at aK;rw[U3,M,wM Ω aK]
   .rcases X6 H with H|rfl
    .exact Y z H r C
    .exact Y h (x5 az) r C
 rintro _ P da ⟨E,rfl,ag,db,aH,M,bn,bo,Y⟩;refine cd Ω ?_;rw[c9,bQ,o5,bG,bY];have cB:=wk bc;have bA:((eN f i).map (lj f.k c.sc c.cs)).take L.length++(eN f i).drop L.length=(eN f i).map (lj f.k c.sc c.cs):=by
  rw[bQ,List.drop_length,X9,o9 (by rw[u7];exact o4 _)]
 rw[bA] at M;have dd:E.length=L.length:=by
  have:=congrArg T1 M;rw[u7,u7] at this;omega
 refine⟨λaW=>?_,λbE=>?_⟩
 .have aW:bk x.scope∉(eN f i).map (·.1):=by simpa using aW
  have dD:(eN f i).map (lj f.k c.sc c.cs)=eN f i:=by
   refine (List.map_congr_left λz H=>?_).trans (List.map_id _);exact if_neg λhe=>aW (n9.2 ⟨z,H,by rw[he,af]⟩)
  rw[dD] at M;rw[bD aV.p aV.i rfl (show P.rangeAt G 0 (cS c) from bn.range)];refine hW (f:=cS) (k:=3) (a:=c) cj.u aV.i Ω rfl rfl λev dr Q ew aY bx=>?_;have aa:=aH.ext aY;have cC:=bo.ext aY;refine ik (f:=cS) (a:=c) cj.u aV.i rfl aa.1 (by simpa using bx.sl) cC.one Ω Ω λez dE di ba dF bF=>?_;have cD:∀r,leadsTo l r-> ∃e c,ab Q r e c/\e≠ah/\e≠al:=λr C=>by
   obtain⟨rfl,c,aq⟩:=ei aa.1 C;exact⟨_,c,aq,Φ,Φ⟩
  have eA:=aY.size;have eB:=ag.size;refine bT _ _ ⟨dE,E++[c],(ag.trans aY).then bF λr C he=>by have:=aa.2.2.2 r he;omega,⟨ba,λz H=>?_,λp q y z K H dH r bI bJ=>?_,λr C=>(dF r C).elim (aa.2.2.2 r) λh=>Ω⟩,?_⟩
  .rcases l7.1 H with H|H
   .exact⟨mM (aa.2.1 z H).1 bF λr C=>.inl (cD r C),(aa.2.1 z H).2⟩
   .rw[l9.1 H];exact⟨mM cC bF λr C=>.inl (cD r C),λr C=>by have:=O r C;omega⟩
  .have cE:∀ {p:Nat} {y:eG},(E++[c])[p]? =σ y->E[p]? =σ y\/(p=E.length/\y=c):=λ{p y} K=>by
    rw[List.getElem?_append] at K;split at K
    .exact .inl K
    .by_cases dI:p-E.length=0
     .rw[dI] at K;cases K;exact .inr ⟨Ω,rfl⟩
     .rw[Z3 Θ] at K;cases K
   rcases cE K with cF|⟨eC,rfl⟩<;>rcases cE H with cG|⟨eq,rfl⟩
   .exact aa.2.2.1 p q y z cF cG dH r bI bJ
   .have:=Y y (x5 cF) r bI;have:=O r (.inl bJ);omega
   .have:=Y z (x5 cG) r bJ;have:=O r (.inl bI);omega
   .omega
  .rw[j6,M,cB,CE λz H he=>aW (n9.2 ⟨z,H,he⟩)];show _++[(c.sc,c.cs)]=_;rw[af,aG];rfl
 .have bE:bk x.scope∈(eN f i).map (·.1):=by simpa using bE
  refine bT _ _ ⟨g,E,ag,aH,?_⟩;rw[M,cB];unfold ih;rw[if_pos (show (hU f.sizes f.k x).1∈_ from bE)];refine List.map_congr_left λz _=>?_;unfold lj;rw[af,aG];rfl
def wN (w:x3) (B:Nat) (v:x1) (n:aT):Prop:=∃szv gz a f aS e gr L,v= .agg #[Δ n.k,szv,Δ n.zero,a,e]/\ap .i64 ah w gz szv n.sizes/\hz w f a aS/\aS.map (·.l)=n.unary/\bg cS 3 aV w gr e L/\(∀h∈L,fI w n.sizes h)/\L.map df=n.funs/\(∀r,leads szv r->B<=r)/\ ∀h∈L,∀r,pj h r->B<=r
def z9:List x1:=[Δ 0,.slice ν 0 0,Δ 0,.slice ν 0 0,.slice ν 0 0]
def mN (w:x3) (C gt gs go:Nat) (szv aZ:x1) (f:b6) (a:List eG) (w':x3):Prop:=Ext w w'/\C<=w'.heap.size/\ab w' gt dF z9/\ap .i64 ah w' gs szv f.sizes/\bg cS 3 aV w' go aZ a/\(∀r,leadsTo aZ r->r<C)/\ ∀h∈a,fI w' f.sizes h
theorem mN.ext {C gt gs go:Nat} {aZ:x1} {f:b6} {e:List eG} (h:mN w C gt gs go szv aZ f e w') (a:Ext w' U):mN w C gt gs go szv aZ f e U:=by
 obtain⟨h1,z,j,p,q,r,s⟩:=h;have:=a.size;exact⟨h1.trans a,Ω,j.ext a,p.ext a,q.ext a,r,λx y=>(s x y).ext a⟩
def N9 (w w':x3) (C gt:Nat) (r:Nat):Prop:=w.heap.size<=r/\r≠gt/\((∃c,ab w' r dF c)\/(∃c,ab w' r ao c)\/((∃c,ab w' r aV c)/\C<=r))
theorem mN.V {C gt gs go:Nat} {aZ:x1} {f:b6} {y:List eG} (h:mN w C gt gs go szv aZ f y w') (p:ae S w' U) (q:∀r,S r->N9 w w' C gt r):mN w C gt gs go szv aZ f y U:=by
 obtain⟨h1,J,E,z,s,A,F⟩:=h;have:=p.size;have B:∀r,S r-> ∃e c,ab w' r e c/\e≠ah/\e≠al:=λr j=>by
  obtain⟨_,_,⟨c,a⟩|⟨c,a⟩|⟨⟨c,a⟩,_⟩⟩:=q r j
  .exact⟨_,c,a,Φ,Φ⟩
  .exact⟨_,c,a,Φ,Φ⟩
  .exact⟨_,c,a,Φ,Φ⟩
 refine⟨h1.then p λr j I=>by have:=(q r I).1;omega,Ω,E.V p λI=>(q _ I).2.1 rfl,bn z p λr j I=>?_,s.V p λr j I=>?_,A,λx G=>mM (F x G) p λr j=>.inl (B r j)⟩
 .obtain⟨e,c,a,H,_⟩:=B r I;exact cc z a (λhe=>H he.symm) j rfl
 .obtain⟨_,_,⟨c,a⟩|⟨c,a⟩|⟨_,K⟩⟩:=q r I
  .exact cR s a Φ j
  .exact cR s a Φ j
  .have:=A r j;omega
def Dq (w:x3) (C f:Nat) (szv:x1) (k:Int) (n:aT) (j:List eG) (w':x3):Prop:=∃a p aS e gr L,ab w' f dF [Δ k,szv,Δ n.zero,a,e]/\hz w' p a aS/\aS.map (·.l)=n.unary/\(∀r,leadsTo a r->w.heap.size<=r)/\bg cS 3 aV w' gr e L/\(∀h∈L,h∈j)/\L.map df=n.funs/\ ∀r,leadsTo e r->C<=r
theorem Dr {N:Nat} {bY:Nat} {f:b6} (bZ:nZ w bY f) (Q:e7 N f):ai x7 Gj [Γ bY] w λv w'=>Ext w w'/\wN w' w.heap.size v (dt f):=by
 have hk:=Q.k;have dD:=Q.sizes.2.1;obtain⟨dE,dH,dJ,dK,b0,b1,dL⟩:=id bZ;refine aw func39 ?_;refine bB dF.i λgt J dM aT aU=>?_;have aU:ab J gt dF z9:=aU;rw[aO dG.p 1 (b0.ext aT) rfl,dp (cs:=#[Δ f.k,.slice ν 0 0,Δ 0,.slice ν 0 0,.slice ν 0 0]) Ψ];refine bB dF.i λA U dN b2 cL=>?_;refine b3 (vs:=[Δ f.k,.slice ν 0 0,Δ 0,.slice ν 0 0,.slice ν 0 0]) dF.i rfl rfl (by intro u hu;simp at hu;rcases hu with rfl|rfl|rfl|rfl<;>rfl) cL λcM b4 dO cO=>?_;have bu:Ext w cM:=(aT.trans b2).then b4 λr q he=>by have he:r=A:=he;have:=aT.size;omega
 have dP:=aU.lt;have E:A≠gt:=Ω
 have cP:=(aU.ext b2).V b4 λhe=>by have he:gt=A:=he;omega
 rw[aO dG.p 2 (b0.ext bu) rfl,aX ao.u (b1.ext bu).ls];have dQ:=aT.size;refine ch.range f.sizes.length (λi W=>Ext w W/\ab W gt dF z9/\ ∃szv gs B H aS,ab W A dF [Δ f.k,szv,Δ 0,B,.slice ν 0 0]/\ap .i64 ah W gs szv (f.sizes.take i)/\(∀r,leads szv r->w.heap.size<=r)/\hz W H B aS/\aS.map (·.l)=(f.sizes.take i).map (λz=>p9 z.toNat 0)/\ ∀r,leadsTo B r->w.heap.size<=r) Ω
  ⟨bu,cP,_,0,_,0,[],cO,ap.nil _ _ _ _,(λr q=>by obtain⟨a,n,c,cQ,dR⟩:=q;cases cQ),⟨bg.nil _ _ _ _ _,λx bw=>(by cases bw)⟩,rfl,λr q=>(e8 q).elim⟩ ?_ ?_
 .rintro i W cT hi ⟨X,bx,szv,gs,B,H,aS,aE,aW,aY,bz,aF,a1⟩ cU;obtain⟨z,C⟩:=aI (l:=f.sizes) hi;have dS:=Q.sizes.2.2 z (x5 C);have dT:aS.length=i:=by have:=congrArg T1 aF;simp only[u7,j5] at this;omega
  refine bH Ω ?_;rw[bd ao.u al.i Ψ (b1.ext X).ls C,aA dF.p 1 aE rfl];refine ep (k:=.i64) am.u ah.i rfl λa5 dU b5 dV ak cV=>?_;have aG:=aW.ext ak;refine gO am.u ah.i rfl aG cV.ls Θ Θ λbA b7 dW a2 cW b8=>?_;have bC:=aE.ext ak;have ca:=bx.ext ak;have cb:=bC.V b8 λhe=>cc aG bC Φ he rfl;rw[aQ dF.p rfl];refine bo (g:=A) (o:=1) am.i a2.ls.cells.1 a2.ls.cells.2 cb Ξ λa6 ce dX a7=>?_;have a7:ab a6 A dF [Δ f.k,bA,Δ 0,B,.slice ν 0 0]:=a7;have bE:ae (λr=>leads szv r\/r=A) b5 a6:=(b8.mono λr _ h=>.inl h).trans (ce.mono λr _ h=>.inr h);have cX:ap .i64 ah a6 b7 bA (f.sizes.take (i+1)):=by
   rw[u9,C];exact bn a2 ce λr q he=>by
    have he:r=A:=he;subst he;exact cc a2 cb Φ q rfl
  have an:∀r,(leads szv r\/r=A)-> ∃e c,ab b5 r e c/\e≠al/\e≠ao:=λr q=>by
   rcases q with q|rfl
   .obtain⟨rfl,_⟩:=bP aG q;obtain⟨_,⟨cY,_⟩|⟨cap,full,_,s,_⟩⟩:=aG
    .obtain⟨a,n,c,e,_⟩:=q;rw[cY] at e;cases e
    .exact⟨_,_,s,Φ,Φ⟩
   .exact⟨_,_,bC,Φ,Φ⟩
  have cZ:=(bz.ext ak).V bE an;have z4:=X.size;have z5:=ak.size;have cg:Ext w a6:=(X.trans ak).then bE λr q he=>by
   rcases he with he|he
   .have:=aY r he;omega
   .omega
  have c0:=ca.V bE λI=>by
   rcases I with I|I
   .exact cc aG ca Φ I rfl
   .omega
  intro dY ci _ _;have c1:=a7.ext ci;rw[aA dF.p 3 c1 rfl];obtain⟨Y,rfl⟩:∃n:Nat,z=n:=⟨z.toNat,Ω⟩;refine kh (k:=.i64) ao.u al.i Ω Ω λa8 c2 dZ bF c3=>?_;refine⟨.inl bF,?_⟩;have c4:ap .i64 al c2 a8 (.slice (σ ⟨a8,0,ν⟩) Y Y) (p9 Y 0):=ap.of (bQ.full (k:=1) (n:=Y) c3 Ξ (by simp[maxLen];omega));let a:la:=⟨.slice (σ ⟨a8,0,ν⟩) Y Y,p9 Y 0⟩;refine hW (f:=nQ) (a:=a) cN.u ao.i Ω rfl rfl λea eb bG ec bI c5=>?_;refine⟨.inl (bF.trans bI),?_⟩;have aq:=(ci.trans bF).trans bI;have aH:=cZ.ext aq;refine ik (f:=nQ) (a:=a) cN.u ao.i rfl aH.1 (by simpa using c5.sl) (λu hu=>by rw[l9.1 (show u∈[a.v] from hu)];rfl) Ω Ω λbJ bK ed K bL ck=>?_;have au:∀ {r:Nat},leadsTo B r-> ∃c,ab bG r ao c:=λq=>by
   obtain⟨rfl,c,s⟩:=ei aH.1 q;exact⟨c,s⟩
  have bM:=a7.ext aq;have cl:=bM.V ck λhe=>cR aH.1 bM Φ he;rw[aQ dF.p rfl];refine bo cN.i (eO K.sl).1 (eO K.sl).2 cl Ξ λc6 cm ee c7=>?_;rw[aP];have R:ae (λr=>leadsTo B r\/r=A) bG c6:=(ck.mono λr _ h=>.inl h).trans (cm.mono λr _ h=>.inr h);have bN:∀r,(leadsTo B r\/r=A)-> ∃e c,ab bG r e c/\e≠al/\e≠ah:=λr q=>by
   rcases q with q|rfl
   .obtain⟨c,s⟩:=au q;exact⟨_,c,s,Φ,Φ⟩
   .exact⟨_,_,bM,Φ,Φ⟩
  have cn:=cX.ext aq;have ef:=cg.size;have eg:=aq.size;have cp:=c0.ext aq;refine cU _ ⟨(cg.trans aq).then R (λr q he=>?_),cp.V R (λI=>?_),bA,b7,bJ,bK,aS++[a],c7,bn cn R (λr q I=>?_),λr q=>?_,⟨K.V cm λr q he=>?_,λy M=>?_⟩,?_,λr q=>?_⟩
  .rcases he with he|rfl
   .have:=a1 r he;omega
   .omega
  .rcases I with I|I
   .exact cR aH.1 cp Φ I
   .omega
  .obtain⟨e,c,s,_,E⟩:=bN r I;exact cc cn s (λhe=>E he.symm) q rfl
  .rcases cW r q with h|h
   .exact aY r h
   .omega
  .have he:r=A:=he;subst he;exact cR K cl Φ q
  .rcases l7.1 M with M|M
   .exact aH.qG R (λr q=>by obtain⟨e,c,s,E,_⟩:=bN r q;exact⟨e,c,s,E⟩) y M
   .rw[l9.1 M];have cq:=c4.ext bI;exact⟨a8,bn cq R λr q I=>by
     obtain⟨e,c,s,E,_⟩:=bN r I;exact cc cq s (λhe=>E he.symm) q rfl⟩
  .rw[j6,aF,u9,C,o7,j6];rfl
  .rcases bL r q with h|h
   .exact a1 r h
   .omega
 rintro W cT ⟨X,bx,szv,gs,B,H,aS,aE,aW,aY,bz,aF,a1⟩;refine cd Ω ?_;rw[o5] at aW aF;refine (N8 (bZ.ext X) Q).mono ?_;rintro aZ ba _ ⟨ax,go,O,K,cr,ct,eh⟩;have cu:O.length=(fC f).length:=by rw[<-ct,u7]
 have ej:O.length<=256:=by
  have h1:=(qx Q).2.length_eq;have bb:=(k7 Q).2.2;have ek:=List.length_filter_le fB (fl f);have em:=Q.k0;omega
 have z4:=X.size;have en:=ax.size;have eo:=aE.lt;rw[eD cj.u K];refine ch.range O.length (λi Z=>mN w ba.heap.size gt gs go szv aZ f O Z/\Dq w ba.heap.size A szv f.k (dI f i) O Z) K.le
  ⟨⟨X.trans ax,o4 _,bx.ext ax,aW.ext ax,K,λr q=>by have:=K.leads q;omega,λh az=>(cr h az).1⟩,B,H,aS,_,0,[],aE.ext ax,bz.ext ax,aF,a1,bg.nil _ _ _ _ _,λx bw=>(by cases bw),rfl,λr q=>(e8 q).elim⟩ ?_ ?_
 rotate_left
 .rintro Z c8 ⟨ay,B,H,aS,aa,gr,L,bc,be,ac,aJ,aK,aC,ad,aM⟩;obtain⟨c9,er,cw,bO,es,et,da⟩:=id ay;have bf:=pd f O.length;rw[cu,td] at bf;rw[cu,td] at bc ac ad;refine cd Ω ?_;rw[bD dF.p dF.i rfl (show Z.rangeAt A 0 [Δ f.k,szv,Δ (dt f).zero,B,aa] from bc.range)];refine b3 (vs:=[Δ f.k,szv,Δ (dt f).zero,B,aa]) dF.i rfl rfl (λu hu=>?_) cw λeu aN ev db=>?_
  .simp at hu;rcases hu with rfl|rfl|rfl|rfl|rfl
   .rfl
   .exact bO.ls.cells.2
   .rfl
   .exact (eO be.1.sl).2
   .exact (eO aK.sl).2
  rw[fz dF.p dF.i rfl db.range];have an:∀r,r=gt-> ∃e c,ab Z r e c/\e≠al/\e≠ao/\e≠ah/\e≠aV:=λr q=>by
   subst q;exact⟨_,_,cw,Φ,Φ,Φ,Φ⟩
  refine⟨c9.then aN λr q he=>by have he:r=gt:=he;omega,szv,gs,B,H,aS,aa,gr,L,?_,?_,be.V aN (λr q=>?_),ac,aK.V aN (λr q I=>?_),λh az=>?_,ad,aY,λh az r q=>by have:=(cr h (aC h az)).2 r q;omega⟩
  .rw[bf.1]
  .rw[bf.2.1];refine bn bO aN λr q I=>?_;obtain⟨e,c,s,_,_,E,_⟩:=an r I;exact cc bO s (λhe=>E he.symm) q rfl
  .obtain⟨e,c,s,h1,bb,_⟩:=an r q;exact⟨e,c,s,h1,bb⟩
  .obtain⟨e,c,s,_,_,_,E⟩:=an r I;exact cR aK s (λhe=>E he.symm) q
  .rw[bf.2.1];exact mM (da h (aC h az)) aN λr q=>by
    obtain⟨e,c,s,h1,_,bb,_⟩:=an r q;exact .inl ⟨e,c,s,bb,h1⟩
 rintro i Z c8 hi ⟨ay,B,H,aS,aa,gr,L,bc,be,ac,aJ,aK,aC,ad,aM⟩ dc;obtain⟨y,M⟩:=aI (l:=O) hi;have bi:=x5 M;have cz:(fC f)[i]? =σ (df y):=by rw[<-ct,x8,M];rfl
 have bS:fE f.sizes f.k (df y):=sS Q _ (x5 cz);have bT:=wn cz;obtain⟨ew,ez,eA,eB⟩:=pd f i;refine bH Ω ?_;refine dm (λbU=>mN w ba.heap.size gt gs go szv aZ f O bU/\Dq w ba.heap.size A szv f.k (dI f (i+1)) O bU) ?_ ?_
 .rintro bU h;rw[aP];exact dc _ h
 intro av bV;rw[de rfl cj.u aV.i ay.2.2.2.2.1 hi,bD aV.p aV.i rfl (ay.2.2.2.2.1.range M)];refine bB aV.i λdd eC eE dg dh=>?_;refine b3 (vs:=cS y) aV.i rfl rfl (ay.2.2.2.2.2.2 y bi).one dh λcA di eF bj=>?_;have bk:Ext Z cA:=dg.put di Ω;have bl:=ay.ext bk;have af:=bc.ext bk;have bW:=be.ext bk;have bm:=aK.ext bk;obtain⟨eH,eI,cB,eJ,eK,eL,cC⟩:=id bl;obtain⟨⟨eM,cD⟩,_,dj,cE⟩:=cC y bi;rw[aA aV.p 0 bj rfl,aX am.u cD.ls];have eN:aS.length=f.sizes.length:=by have:=congrArg T1 ac;rw[u7] at this;omega
 have eP:L.length<=256:=by have:=congrArg T1 ad;rw[u7] at this;omega
 rw[bh,aj];refine⟨λeQ=>?_,λeR=>?_⟩
 .
  have ag:y.sc=[]:=b9 Ω;have G:dI f (i+1)={dI f i with zero:=y.cs.getD 0 0}:=by rw[bT];unfold iT;simp only[df,ag]
  have eS:y.cs.length=1:=by have:=bS.len;simpa[df,ag,bR,aL] using this
  have dk:y.cs[0]? =σ (y.cs.getD 0 0):=by rw[u4,x6 Ω];rfl
  rw[aA aV.p 2 bj rfl,fy (y:=0) (i:=0) rfl ao.u al.i Ψ cE.ls dk,aQ dF.p rfl];refine bo al.i rfl rfl af Ξ λdl P dn dq=>?_;refine bV _ ⟨bl.V P λr q=>?_,B,H,aS,aa,gr,L,?_,bW.V P (λr q=>?_),by rw[G];exact ac,aJ,bm.V P (λr q I=>?_),aC,by rw[G];exact ad,aM⟩
  .have q:r=A:=q;subst q;exact⟨Ω,E,.inl ⟨_,af⟩⟩
  .rw[G];exact dq
  .have q:r=A:=q;subst q;exact⟨_,_,af,Φ,Φ⟩
  .have I:r=A:=I;subst I;exact cR bm af Φ q
 rw[bh,aj];refine⟨λh1=>?_,λeU=>?_⟩
 .
  obtain⟨v,ag⟩:∃v,y.sc=[v]:=W8.1 Ω;have eV:=bS.scope.1 v (by show v∈y.sc;rw[ag];exact .head _);have eW:=bS.vars v (by show v∈y.sc;rw[ag];exact .head _);have G:dI f (i+1)={dI f i with unary:=(dI f i).unary.set v.toNat y.cs}:=by rw[bT];unfold iT;simp only[df,ag]
  intro dr S _ _;have bX:=af.ext S;have cF:=bj.ext S;have aR:=bW.ext S;have ds:=bl.ext S;have cG:=bm.ext S;rw[aA dF.p 3 bX rfl,aA aV.p 0 cF rfl];refine pZ (y:=0) (i:=0) rfl am.u ah.i (cD.ls.ext S) (show y.sc[0]? =σ v by rw[ag];rfl) λb o du=>?_;rw[aB Ψ du,aA aV.p 2 cF rfl];obtain⟨u,hu⟩:=aI (l:=aS) (i:=v.toNat) Ω;rw[de (i:=v.toNat) Ω cN.u ao.i aR.1 Ω];let a:la:=⟨y.aZ,y.cs⟩;have bp:=cE.ext S;refine oZ (f:=nQ) (j:=0) (a:=u) (a':=a) ao.i bp.ls.cells.1 bp.ls.cells.2 aR.1 hu rfl Ω λdl P dn dv=>?_;have au:∀ {r:Nat},leadsTo B r-> ∃c,ab dr r ao c:=λq=>by
   obtain⟨rfl,c,s⟩:=ei aR.1 q;exact⟨c,s⟩
  refine bV _ ⟨ds.V P λr q=>?_,B,H,aS.set v.toNat a,aa,gr,L,?_,⟨dv,λz C=>?_⟩,?_,aJ,cG.V P (λr q I=>?_),aC,by rw[G];exact ad,aM⟩
  .obtain⟨c,s⟩:=au q;exact⟨aJ r q,λhe=>(by subst he;exact absurd (ey s (cB.ext S)) Φ),.inr (.inl ⟨c,s⟩)⟩
  .rw[G];exact bX.V P λhe=>cR aR.1 bX Φ he
  .rcases X6 C with C|rfl
   .exact aR.qG P (λr q=>by obtain⟨c,s⟩:=au q;exact⟨_,c,s,Φ⟩) z C
   .exact⟨dj,bn bp P λr q I=>by
     obtain⟨c,s⟩:=au I;exact cc bp s Φ q rfl⟩
  .rw[G,U3,ac]
  .obtain⟨c,s⟩:=au I;exact cR cG s Φ q
 .
  have G:dI f (i+1)={dI f i with funs:=(dI f i).funs++[df y]}:=by
   rw[bT];unfold iT;have cH:2<=(df y).1.length:=by show 2<=y.sc.length;omega
   generalize df y=g at cH ⊢;obtain⟨sc,cs⟩:=g
   match sc,cH with
   |_::_::_,_=>rfl
  rw[aA dF.p 4 af rfl,bD aV.p aV.i rfl (show cA.rangeAt dd 0 (cS y) from bj.range)];refine hW (f:=cS) (k:=3) (a:=y) cj.u aV.i Ω rfl rfl λeX eY dw eZ aD dx=>?_;have bq:=bm.ext aD;have dy:=bW.ext aD;have br:=af.ext aD;have dz:=bl.ext aD;refine ik (f:=cS) (a:=y) cj.u aV.i rfl bq (by simpa using dx.sl) (cC y bi).one Ω Ω λbJ bK e0 bt bL cI=>?_;have cJ:=br.V cI λhe=>cR bq br Φ he;rw[aQ dF.p rfl];refine bo cj.i (eO bt.sl).1 (eO bt.sl).2 cJ Ξ λdA cK e1 dC=>?_;have R:ae (λr=>leadsTo aa r\/r=A) dw dA:=(cI.mono λr _ h=>.inl h).trans (cK.mono λr _ h=>.inr h);have e2:=aD.size;refine bV _ ⟨dz.V R λr q=>?_,B,H,aS,bJ,bK,L++[y],?_,dy.V R (λr q=>?_),by rw[G];exact ac,aJ,bt.V cK (λr q I=>?_),λz C=>?_,?_,λr q=>?_⟩
  .rcases q with q|rfl
   .obtain⟨rfl,c,s⟩:=ei bq q;have:=aM _ q;refine⟨Ω,λhe=>?_,.inr (.inr ⟨⟨c,s⟩,this⟩)⟩;subst he;exact absurd (ey s (cB.ext aD)) Φ
   .exact⟨Ω,E,.inl ⟨_,br⟩⟩
  .rw[G];exact dC
  .rcases q with q|rfl
   .obtain⟨rfl,c,s⟩:=ei bq q;exact⟨_,c,s,Φ,Φ⟩
   .exact⟨_,_,br,Φ,Φ⟩
  .have I:r=A:=I;subst I;exact cR bt cJ Φ q
  .rcases l7.1 C with C|C
   .exact aC z C
   .rw[l9.1 C];exact bi
  .rw[G,j6,ad];rfl
  .rcases bL r q with h|h
   .exact aM r h
   .omega
def qP (w:x3) (S:Nat->Prop) (e:r9):Prop:=∀r,S r-> ∃c,ab w r e c
theorem wO {a:r9} {k:o6} {g:Nat} {v:x1} (h:ap k a w g v l) (f:ae S w w') (j:qP w S e) (p:a≠e):ap k a w' g v l:=bn h f λr q I=>by
 obtain⟨c,s⟩:=j r I;exact cc h s p q rfl
theorem Ds {α:Type} {f:α->List x1} {k:Nat} {a:r9} {g:Nat} {v:x1} {L:List α} (h:bg f k a w g v L) (j:ae S w w') (p:qP w S e) (q:a≠e):bg f k a w' g v L:=h.V j λr s I=>by
 obtain⟨c,x⟩:=p r I;exact cR h x q s
theorem wP {a:r9} {r:Nat} {c:List x1} (h:ab w r a c) (f:ae S w w') (j:qP w S e) (p:a≠e):ab w' r a c:=h.V f λI=>by
 obtain⟨c,q⟩:=j r I;exact p (ey h q)
theorem Dt {g:Nat} {c:List x1} (h:ab w g e c):qP w (λr=>r=g) e:=λr a=>by
 have a:r=g:=a;subst a;exact⟨c,h⟩
theorem qQ {k:o6} {g:Nat} {v:x1} (h:ap k e w g v l):qP w (λr=>leads v r) e:=λr f=>by
 have f:leads v r:=f;obtain⟨rfl,_⟩:=bP h f;obtain⟨_,⟨p,_⟩|⟨cap,full,_,q,_⟩⟩:=h
 .obtain⟨a,n,c,j,_⟩:=f;rw[p] at j;cases j
 .exact⟨_,q⟩
def ay (x:bi):Λ:=((V1 x.un.length).map λv:Nat=>(v:Int)).filter λv=>!dropped x.mask v
theorem wQ {P:W3} {k:o6} {t:r9} {b:Nat} (a:P.underlying t=σ (.slice e)) (hi:aN P e 1 b z)
  (f:∀v g w',g=w.heap.size->Ext w w'->ap k e w' g v []->K v w'):ax P (Y1 t 0 #[]) w K:=
 jj a hi Ω (cs:=#[]) (by simp[Instr.fill]) λg w' h j p=>f _ g w' h j (ap.of (n:=0) (bQ.full (by simpa using p) Ξ (by simp[maxLen])))
theorem Oa {v:x1} {n:aT} (h:wN w B v n) {g:Nat} (j:ab w' g dF v.cells.toList):∃szv gz a f aS e gr L,ab w' g dF [Δ n.k,szv,Δ n.zero,a,e]/\ap .i64 ah w gz szv n.sizes/\hz w f a aS/\aS.map (·.l)=n.unary/\bg cS 3 aV w gr e L/\(∀h∈L,fI w n.sizes h)/\L.map df=n.funs/\(∀r,leads szv r->B<=r)/\ ∀h∈L,∀r,pj h r->B<=r:=by
 obtain⟨szv,gz,a,f,aS,e,gr,L,rfl,p,q,x,s,y,z⟩:=h;obtain⟨_,_,_,A⟩:=ds p.ls;obtain⟨_,_,_,_,_,C,_⟩:=q.1.sl;obtain⟨_,_,_,_,_,E,_⟩:=s.sl;refine⟨szv,gz,a,f,aS,e,gr,L,?_,p,q,x,s,y,z⟩;rw[A,C,E] at j ⊢;exact j
def z12:List x1:=[Δ 0,.slice ν 0 0,Δ 0,.slice ν 0 0,.slice ν 0 0,.slice ν 0 0,.slice ν 0 0,.slice ν 0 0]
end Go.Proofs.YtjjhhcfgfdepdaaGreatDoor
namespace Go.Vc
open Go Go.RowKit
section
variable {P:W3} {w:x3} {α:Type} [ak α] {S R:ag}
theorem Du {k:Nat} {vs:List (List x1)} {i:Nat} {c:List x1} (h:∀x∈vs,x.length=k) (e:c.length=k) (hi:i<vs.length):over vs.flatten (i*k) c=(vs.set i c).flatten:=by
 have:=vK (f:=id) (k:=k) (L:=vs) (i:=i) (a:=c) h e hi;rw[List.flatMap_id,List.flatMap_id] at this;exact this
theorem Ob {v:x1} {l:List α} {i:Nat} (h:bj S R w [v] l) (T:i<l.length):∃g cap full p,v= .slice (σ ⟨g,0,ν⟩) l.length cap/\ab w g p full/\S g/\i*ak.n α+ak.n α<=full.length/\
  ∀ {A:ag} {cs:List x1} {a:α},bj A R w cs a->(∀r,r<w.heap.size->S r->¬A r/\¬R r)-> ∀w',ae (λr=>r=g) w w'->ab w' g p (over full (i*ak.n α) cs)->bj (λr=>S r\/A r) R w' [v] (l.set i a):=by
 obtain⟨vs,g,F,s,he,I,hm⟩:=hQ h;obtain⟨U,p,W⟩:=hm rfl;obtain⟨ah,⟨rfl,ai⟩|⟨cap,full,rfl,E,H,X,J,Y⟩⟩:=id W
 .omega
 have K:vs.length=l.length:=he.1;have Z:(i+1)*ak.n α<=l.length*ak.n α:=Y9 _ T;have aa:l.length*ak.n α<=full.length:=by rw[J];exact Y9 _ H
 rw[V9,Nat.one_mul] at Z;have y:S g:=U.resolve_left Ξ;refine⟨g,cap,full,p,rfl,E,y,Ω,λ{A cs a} L z w' M ac=>?_⟩;have N:=ak.len L;have O:¬A g:=(z g E.lt y).1;have P:¬R g:=(z g E.lt y).2;have ad:∀c∈vs.set i cs,c.length=ak.n α:=λc x=>by
  rcases X6 x with e|rfl
  .exact he.len c e
  .exact N
 have Q:bQ w' g p (ak.n α) (.slice (σ ⟨g,0,ν⟩) l.length cap) (l.set i a).length (vs.set i cs).flatten:=by
  refine⟨by rw[ki ad,Z2,Z2,K],.inr ⟨cap,_,by rw[Z2],ac,by rw[Z2];exact H,X,by rw[mr,J],?_⟩⟩;rw[Z2,sI Ω aa,Y,Du he.len N Ω]
 refine⟨_,rfl,vs.set i cs,g,λj r=>if j=i then A r/\r<w.heap.size else F j r/\r<w.heap.size,⟨λj r f=>?_,λ_ j f=>?_,λ_ j q r af h1 e=>?_⟩,⟨by simp[K],λj c a' x B=>?_⟩,?_,λ_=>⟨.inr (.inl y),p,Q⟩⟩
 .split at f
  .exact .inr f.1
  .exact .inl (s.sub j r f.1)
 .split at f
  .exact O f.1
  .exact s.top rfl j f.1
 .split at h1<;>split at e
  .omega
  .exact (z r e.2 (s.sub q r e.1)).1 h1.1
  .exact (z r h1.2 (s.sub j r h1.1)).1 e.1
  .exact s.gJ rfl j q r af h1.1 e.1
 .by_cases C:j=i
  .subst C;rw[j4 Ω] at x B;cases x;cases B;have G:bj (λr=>if j=j then A r/\r<w.heap.size else F j r/\r<w.heap.size) R w cs a:=ak.mono L (λr f h=>by rw[if_pos rfl];exact⟨h,f⟩) λ_ _ h=>h;refine ak.V G M λr f h1 e=>?_;have e:r=g:=e;subst e;rcases h1 with h1|h1
   .simp only[if_true] at h1;exact O h1.1
   .exact P h1
  .rw[Y0 (S3 C)] at x B;have G:bj (λr=>if j=i then A r/\r<w.heap.size else F j r/\r<w.heap.size) R w c a':=ak.mono (he.2 j c a' x B) (λr f h=>by rw[if_neg C];exact⟨h,f⟩) λ_ _ h=>h;refine ak.V G M λr f h1 e=>?_;have e:r=g:=e;subst e;rcases h1 with h1|h1
   .simp only[if_neg C] at h1;exact s.top rfl j h1.1
   .exact P h1
 .have:=nw (S:=λr=>(S r\/A r)\/R r) Q (.inr (.inl (.inl y)));exact this
theorem Dv {t:r9} {C:o6} {i b:Nat} {v x:x1} {l:List α} {a:α} {A:ag} {K:Unit->x3->Prop} (j:ak.n α=1) (E:y=(i:Int)) (F:P.underlying t=σ (.slice e)) (hi:aN P e 1 b z)
  (h:bj S R w [v] l) (q:i<l.length) (G:x.cells= #[x]) (s:bj A R w [x] a) (H:∀r,r<w.heap.size->S r->¬A r/\¬R r)
  (I:∀w',ae S w w'->bj (λr=>S r\/A r) R w' [v] (l.set i a)->K () w'):aa P (c7 t v (.int C y)) w λp=>ax P (o8 e p x) w K:=by
 subst E;obtain⟨g,cap,full,Q,rfl,J,L,M,N⟩:=Ob h q;rw[j] at M;rw[fx F hi q λ_=>rfl];refine bo (o:=0+i*1) hi G (ak.one s x (.head _)) J Ω λw' B _ O=>I w' (B.mono λr _ f=>by have f:r=g:=f;subst f;exact L) (N s H w' B ?_);rw[j,X5] at*;exact O
end
end Go.Vc
namespace Go.Proofs.YtjjhhcfgfdepdaaGreatDoor
open Go Go.Vc Go.RowKit Go.Proofs Go.Proofs.Tryz
set_option maxRecDepth 100000
abbrev hB:Type:=(Rd (Λ)×Rd (Λ)×Λ)×Bool
abbrev jr:Type:=Int×Rd (Λ)×Rd (Λ)
def gu (f:b0):hB:=((f.sc,f.ad,f.cs),decide (f.live≠0))
def l5 (e:pe):jr:=(e.v,e.sc,e.ha)
def bu (m:Bool) (A:Nat->ag) (R:ag) (w:x3) (cs:List x1) (k:Int) (sizes:Λ) (zero:Int) (D:List (Λ)) (G:List Bool) (aS:List (Λ)) (H:List hB) (E:List jr):Prop:=
 ∃szv a e f h p,cs=[Δ k,szv,Δ zero,a,e,f,h,p]/\Seen R w [szv] sizes/\
 ak.rep m (A 0) R w [a] D/\ak.rep m (A 1) R w [e] G/\ak.rep m (A 2) R w [f] aS/\ak.rep m (A 3) R w [h] H/\ak.rep m (A 4) R w [p] E/\
 (m=true->(∀i j r,i≠j->A i r->¬A j r)/\ ∀i r,A i r->¬R r)
abbrev gv (m:Bool) (A:Nat->ag) (R:ag) (w:x3) (cs:List x1) (k:Int) (sizes:Λ) (s:au):Prop:=
 bu m A R w cs k sizes s.zero (s.vars.map ay) (s.vars.map λx=>decide (x.gone≠0)) (s.vars.map (·.un)) (s.funs.map gu) (s.ce.map l5)
def hC (w:x3) (v:x1) (k:Int) (sizes:Λ) (s:au):Prop:=∃cs,v= .agg cs.toArray/\gv false (λ_ _=>False) dg w cs k sizes s
def fc (A:Nat->ag) (i:Nat) (B:ag):Nat->ag:=λj=>if j=i then B else A j
section
variable {m:Bool} {A:Nat->ag} {R:ag} {w w':x3} {cs:List x1} {k zero:Int} {sizes:Λ} {D:List (Λ)} {G:List Bool} {aS:List (Λ)} {H:List hB} {E:List jr} {s:au}
theorem bu.len (h:bu m A R w cs k sizes zero D G aS H E):cs.length=8/\ ∀u∈cs,u.oneCell'=true:=by
 obtain⟨szv,q,r,s,x,y,rfl,h1,a,e,f,j,p,_⟩:=h;refine⟨rfl,λu hu=>?_⟩;simp only[W6,List.not_mem_nil,or_false] at hu;rcases hu with rfl|rfl|rfl|rfl|rfl|rfl|rfl|rfl
 .rfl
 .exact e6 h1
 .rfl
 .exact e6 a
 .exact e6 e
 .exact e6 f
 .exact e6 j
 .exact e6 p
theorem bu.V {T:ag} (h:bu m A R w cs k sizes zero D G aS H E) (a:ae T w w') (f:∀r,r<w.heap.size->(∃i,A i r)\/R r->¬T r):bu m A R w' cs k sizes zero D G aS H E:=by
 obtain⟨szv,j,p,q,s,x,rfl,h1,y,z,B,C,F,I⟩:=h;have az:∀i r,r<w.heap.size->A i r\/R r->¬T r:=λi r e h=>f r e (h.imp (λh=>⟨i,h⟩) id);exact⟨szv,j,p,q,s,x,rfl,ak.V h1 a λr e h=>f r e (h.elim False.elim .inr),ak.V y a (az 0),ak.V z a (az 1),ak.V B a (az 2),ak.V C a (az 3),ak.V F a (az 4),I⟩
theorem bu.ext (h:bu m A R w cs k sizes zero D G aS H E) (a:Ext w w'):bu m A R w' cs k sizes zero D G aS H E:=h.V (a.V λ_=>False) λ_ _ _ h=>h
theorem gv.Dw (h:gv m A R w cs k sizes s):hC w (.agg cs.toArray) k sizes s:=by
 obtain⟨szv,a,e,f,j,p,rfl,h1,q,r,x,y,z,B⟩:=h;exact⟨_,rfl,szv,a,e,f,j,p,rfl,gU h1,gU q,gU r,gU x,gU y,gU z,λh=>by cases h⟩
theorem bu.old (h:bu true A R w cs k sizes zero D G aS H E):bu true (λi r=>A i r/\r<w.heap.size) R w cs k sizes zero D G aS H E:=by
 obtain⟨szv,f,p,q,s,x,rfl,h1,a,y,z,B,C,e⟩:=h;obtain⟨e,F⟩:=e rfl;have hm:∀i r,r<w.heap.size->A i r->A i r/\r<w.heap.size:=λi r I h=>⟨h,I⟩;exact⟨szv,f,p,q,s,x,rfl,h1,ak.mono a (hm 0) λ_ _ h=>h,ak.mono y (hm 1) λ_ _ h=>h,ak.mono z (hm 2) λ_ _ h=>h,ak.mono B (hm 3) λ_ _ h=>h,ak.mono C (hm 4) λ_ _ h=>h,
  λ_=>⟨λi j r J h1 a=>e i j r J h1.1 a.1,λi r h=>F i r h.1⟩⟩
theorem qR {i:Nat} {B:ag} (h:∀i j r,i≠j->A i r->¬A j r) (e:∀j r,j≠i->B r->¬A j r):∀p q r,p≠q->fc A i B p r->¬fc A i B q r:=λp q r f h1 a=>by
 unfold fc at h1 a;split at h1<;>split at a
 .omega
 .exact e q r (by assumption) h1 a
 .exact e p r (by assumption) a h1
 .exact h p q r f h1 a
theorem qS {i:Nat} {B:ag} (h:∀i r,A i r->¬R r) (a:∀r,B r->¬R r):∀p r,fc A i B p r->¬R r:=λp r h1=>by
 unfold fc at h1;split at h1
 .exact a r h1
 .exact h p r h1
theorem bu.wR {B:ag} {x:x1} {D':List (Λ)} (h:bu true A R w cs k sizes zero D G aS H E) {T:ag} (e:ae T w w') (p:∀r,T r->A 0 r\/(∀j,¬A j r)/\¬R r) (y:bj B R w' [x] D') (z:∀j r,j≠0->B r->¬A j r) (C:∀r,B r->¬R r):bu true (fc A 0 B) R w' (cs.set 3 x) k sizes zero D' G aS H E:=by
 obtain⟨szv,Q,F,I,J,K,rfl,h1,a,L,M,N,O,f⟩:=h;obtain⟨f,q⟩:=f rfl;have s:∀r,R r->¬T r:=λr h a=>(p r a).elim (λa=>q 0 r a h) λa=>a.2 h;have az:∀j r,j≠0->r<w.heap.size->A j r\/R r->¬T r:=λj r P _ h a=>h.elim (λh=>(p r a).elim (λa=>f j 0 r P h a) λa=>a.1 j h) λh=>s r h a;refine⟨szv,x,F,I,J,K,rfl,ak.V h1 e λr _ h=>h.elim False.elim (s r),?_,?_,?_,?_,?_,λ_=>⟨qR f z,qS q C⟩⟩
 .exact y
 .exact ak.V L e λr=>az 1 r Ω
 .exact ak.V M e λr=>az 2 r Ω
 .exact ak.V N e λr=>az 3 r Ω
 .exact ak.V O e λr=>az 4 r Ω
theorem bu.Oc {B:ag} {x:x1} {p:List Bool} (h:bu true A R w cs k sizes zero D G aS H E) {T:ag} (e:ae T w w') (q:∀r,T r->A 1 r\/(∀j,¬A j r)/\¬R r) (z:bj B R w' [x] p) (C:∀j r,j≠1->B r->¬A j r) (F:∀r,B r->¬R r):bu true (fc A 1 B) R w' (cs.set 4 x) k sizes zero D p aS H E:=by
 obtain⟨szv,I,Q,J,K,L,rfl,h1,a,S,M,N,O,f⟩:=h;obtain⟨f,s⟩:=f rfl;have y:∀r,R r->¬T r:=λr h a=>(q r a).elim (λa=>s 1 r a h) λa=>a.2 h;have az:∀j r,j≠1->r<w.heap.size->A j r\/R r->¬T r:=λj r P _ h a=>h.elim (λh=>(q r a).elim (λa=>f j 1 r P h a) λa=>a.1 j h) λh=>y r h a;refine⟨szv,I,x,J,K,L,rfl,ak.V h1 e λr _ h=>h.elim False.elim (y r),?_,?_,?_,?_,?_,λ_=>⟨qR f C,qS s F⟩⟩
 .exact ak.V a e λr=>az 0 r Ω
 .exact z
 .exact ak.V M e λr=>az 2 r Ω
 .exact ak.V N e λr=>az 3 r Ω
 .exact ak.V O e λr=>az 4 r Ω
theorem bu.jT {B:ag} {x:x1} {p:List (Λ)} (h:bu true A R w cs k sizes zero D G aS H E) {T:ag} (e:ae T w w') (q:∀r,T r->A 2 r\/(∀j,¬A j r)/\¬R r) (z:bj B R w' [x] p) (C:∀j r,j≠2->B r->¬A j r) (F:∀r,B r->¬R r):bu true (fc A 2 B) R w' (cs.set 5 x) k sizes zero D G p H E:=by
 obtain⟨szv,I,J,Q,K,L,rfl,h1,a,M,S,N,O,f⟩:=h;obtain⟨f,s⟩:=f rfl;have y:∀r,R r->¬T r:=λr h a=>(q r a).elim (λa=>s 2 r a h) λa=>a.2 h;have az:∀j r,j≠2->r<w.heap.size->A j r\/R r->¬T r:=λj r P _ h a=>h.elim (λh=>(q r a).elim (λa=>f j 2 r P h a) λa=>a.1 j h) λh=>y r h a;refine⟨szv,I,J,x,K,L,rfl,ak.V h1 e λr _ h=>h.elim False.elim (y r),?_,?_,?_,?_,?_,λ_=>⟨qR f C,qS s F⟩⟩
 .exact ak.V a e λr=>az 0 r Ω
 .exact ak.V M e λr=>az 1 r Ω
 .exact z
 .exact ak.V N e λr=>az 3 r Ω
 .exact ak.V O e λr=>az 4 r Ω
theorem bu.jU {B:ag} {x:x1} {p:List hB} (h:bu true A R w cs k sizes zero D G aS H E) {T:ag} (e:ae T w w') (q:∀r,T r->A 3 r\/(∀j,¬A j r)/\¬R r) (z:bj B R w' [x] p) (C:∀j r,j≠3->B r->¬A j r) (F:∀r,B r->¬R r):bu true (fc A 3 B) R w' (cs.set 6 x) k sizes zero D G aS p E:=by
 obtain⟨szv,I,J,K,Q,L,rfl,h1,a,M,N,S,O,f⟩:=h;obtain⟨f,s⟩:=f rfl;have y:∀r,R r->¬T r:=λr h a=>(q r a).elim (λa=>s 3 r a h) λa=>a.2 h;have az:∀j r,j≠3->r<w.heap.size->A j r\/R r->¬T r:=λj r P _ h a=>h.elim (λh=>(q r a).elim (λa=>f j 3 r P h a) λa=>a.1 j h) λh=>y r h a;refine⟨szv,I,J,K,x,L,rfl,ak.V h1 e λr _ h=>h.elim False.elim (y r),?_,?_,?_,?_,?_,λ_=>⟨qR f C,qS s F⟩⟩
 .exact ak.V a e λr=>az 0 r Ω
 .exact ak.V M e λr=>az 1 r Ω
 .exact ak.V N e λr=>az 2 r Ω
 .exact z
 .exact ak.V O e λr=>az 4 r Ω
theorem bu.Od {B:ag} {x:x1} {p:List jr} (h:bu true A R w cs k sizes zero D G aS H E) {T:ag} (e:ae T w w') (q:∀r,T r->A 4 r\/(∀j,¬A j r)/\¬R r) (z:bj B R w' [x] p) (C:∀j r,j≠4->B r->¬A j r) (F:∀r,B r->¬R r):bu true (fc A 4 B) R w' (cs.set 7 x) k sizes zero D G aS H p:=by
 obtain⟨szv,I,J,K,L,Q,rfl,h1,a,M,N,O,S,f⟩:=h;obtain⟨f,s⟩:=f rfl;have y:∀r,R r->¬T r:=λr h a=>(q r a).elim (λa=>s 4 r a h) λa=>a.2 h;have az:∀j r,j≠4->r<w.heap.size->A j r\/R r->¬T r:=λj r P _ h a=>h.elim (λh=>(q r a).elim (λa=>f j 4 r P h a) λa=>a.1 j h) λh=>y r h a;refine⟨szv,I,J,K,L,x,rfl,ak.V h1 e λr _ h=>h.elim False.elim (y r),?_,?_,?_,?_,?_,λ_=>⟨qR f C,qS s F⟩⟩
 .exact ak.V a e λr=>az 0 r Ω
 .exact ak.V M e λr=>az 1 r Ω
 .exact ak.V N e λr=>az 2 r Ω
 .exact ak.V O e λr=>az 3 r Ω
 .exact z
theorem bu.Oe {z:Int} (h:bu m A R w cs k sizes zero D G aS H E):bu m A R w (cs.set 2 (Δ z)) k sizes z D G aS H E:=by
 obtain⟨szv,a,e,f,j,p,rfl,h1,q,r,s,x,y,B⟩:=h;exact⟨szv,a,e,f,j,p,rfl,h1,q,r,s,x,y,B⟩
end
theorem n0 {α:Type} [ak α] {st t J:r9} {pl:List (Nat×Nat)} {gs c q b L:Nat} {M y v:x1} {box:List x1} {S A R:ag} {l:List α} {a:α} {K:x3->Prop}
  (N:bJ x7 st pl) (O:pl[c]? =σ (c,q+1)) (P:x7.underlying t=σ (.slice e)) (Q:aN x7 t 1 L M) (hi:aN x7 e (ak.n α) b z) (T:z.cells.size=ak.n α)
  (C:ab w gs st box) (W:box[c]? =σ v) (h:bj S R w [v] l) (I:bX w (ak.n α) y 1 cs) (X:bj A R w cs a) (Y:∀r,r<w.heap.size->S r->¬A r/\¬R r) (p:¬S gs/\¬A gs/\¬R gs) (ah:(l.length+1)*b<=140737488355328) (ai:l.length+1<=1000000)
  (Z:∀j w',ae (λr=>S r\/r=gs) w w'->ab w' gs st (box.set c j)->bj (λr=>S r\/A r\/w.heap.size<=r) R w' [j] (l++[a])->K w'):
  ax x7 (b8 #[t,t] J #[v,y]) w λj U=>aa x7 (u6 st (Γ gs) c) U λac=>ax x7 (o8 t ac j) U λ_ s=>K s:=by
 have ad:=(x4.1 W).1;refine nx (A:=A) P hi T h I X (λr E I f=>?_) Ω Ω λj U x F=>?_
 .have:=Y r E I;exact f.elim this.1 this.2
 have af:ab U gs st box:=C.V F p.1;rw[aQ N O];refine bo (o:=0+c) Q (kT x) (e6 x) af (by rw[X5];exact ad) λs G aj H=>?_;refine Z j s ((F.mono λr _ h=>.inl h).trans (G.mono λr _ h=>.inr h)) (by rw[X5] at H;exact H) (ak.V x G λr E f B=>?_);have B:r=gs:=B;subst B;have al:=C.lt;rcases f with f|f
 .rcases f with f|f|f
  .exact p.1 f
  .exact p.2.1 f
  .omega
 .exact p.2.2 f
section
variable {A:Nat->ag} {B R:ag} {w:x3} {cs xs:List x1} {gs:Nat} {y v:x1} {k zero:Int} {sizes:Λ} {D:List (Λ)} {G:List Bool} {aS:List (Λ)} {H:List hB} {E:List jr} {K:x3->Prop}
theorem bu.Of {S:r9} (h:bu true A R w cs k sizes zero D G aS H E) (J:ab w gs aE cs) (x:cs[3]? =σ v) (f:∀j r,A j r->gs<r) (s:∀r,R r->r<gs) (I:bX w 1 y 1 xs) (V:bj B R w xs a) (q:∀r,r<w.heap.size->B r->(∀j,¬A j r)/\gs<r) (aj:D.length<=1000)
  (W:∀aK bt w',ae (λr=>gs<=r) w w'->ab w' gs aE bt->bu true aK R w' bt k sizes zero (D++[a]) G aS H E->(∀j r,aK j r->gs<r)->(∀j,j≠3->bt[j]? =cs[j]?)->K w'):
  ax x7 (b8 #[cK,cK] S #[v,y]) w λL U=>aa x7 (u6 aE (Γ gs) 3) U λX=>ax x7 (o8 cK X L) U λ_ z=>K z:=by
 have M:=h.old;have Y:=J.lt;obtain⟨szv,Z,al,an,ao,N,ac,h1,ad,ap,aq,au,av,C⟩:=id M;obtain⟨C,O⟩:=C rfl;have N:v=Z:=by rw[ac] at x;exact (c8 x).symm
 subst N;have af:bj (λr=>B r/\r<w.heap.size) R w xs a:=ak.mono V (λr e h=>⟨h,e⟩) λ_ _ h=>h;refine n0 (pl:=_) (l:=D) aE.p rfl cK.u cK.i am.i rfl J x ad I af (λr e P=>⟨λag=>(q r e ag.1).1 0 P.1,O 0 r P⟩) ⟨λh=>by have:=f 0 gs h.1;omega,λh=>by have:=(q gs Y h.1).2;omega,λh=>by have:=s gs h;omega⟩ Ω Ω λL z Q ah ai=>?_;refine W _ _ z (Q.mono λr _ h=>h.elim (λh=>by have:=f 0 r h.1;omega) λh=>Ω) ah (M.wR Q (λr e=>?_) ai (λj r F e=>?_) λr e=>?_) (λj r e=>?_) λj F=>?_
 .rcases e with e|rfl
  .exact .inl e
  .exact .inr ⟨λj h=>by have:=f j r h.1;omega,λh=>by have:=s r h;omega⟩
 .rcases e with e|e|e
  .exact C 0 j r (S3 F) e
  .exact λh=>(q r e.2 e.1).1 j h.1
  .exact λh=>by have:=h.2;omega
 .rcases e with e|e|e
  .exact O 0 r e
  .exact λh=>by have:=(q r e.2 e.1).2;have:=s r h;omega
  .exact λh=>by have:=s r h;omega
 .unfold fc at e;split at e
  .rcases e with e|e|e
   .exact f 0 r e.1
   .exact (q r e.2 e.1).2
   .omega
  .exact f j r e.1
 .rw[Y0 (S3 F)]
theorem bu.Og {a:Bool} {S:r9} (h:bu true A R w cs k sizes zero D G aS H E) (J:ab w gs aE cs) (x:cs[4]? =σ v) (f:∀j r,A j r->gs<r) (s:∀r,R r->r<gs) (I:bX w 1 y 1 xs) (V:bj B R w xs a) (q:∀r,r<w.heap.size->B r->(∀j,¬A j r)/\gs<r) (aj:G.length<=1000)
  (W:∀aK bt w',ae (λr=>gs<=r) w w'->ab w' gs aE bt->bu true aK R w' bt k sizes zero D (G++[a]) aS H E->(∀j r,aK j r->gs<r)->(∀j,j≠4->bt[j]? =cs[j]?)->K w'):
  ax x7 (b8 #[hn,hn] S #[v,y]) w λL U=>aa x7 (u6 aE (Γ gs) 4) U λX=>ax x7 (o8 hn X L) U λ_ z=>K z:=by
 have M:=h.old;have Y:=J.lt;obtain⟨szv,al,Z,am,an,N,ac,h1,ao,ad,ap,aq,au,C⟩:=id M;obtain⟨C,O⟩:=C rfl;have N:v=Z:=by rw[ac] at x;exact (c8 x).symm
 subst N;have af:bj (λr=>B r/\r<w.heap.size) R w xs a:=ak.mono V (λr e h=>⟨h,e⟩) λ_ _ h=>h;refine n0 (pl:=_) (l:=G) aE.p rfl hn.u hn.i eB.i rfl J x ad I af (λr e P=>⟨λag=>(q r e ag.1).1 1 P.1,O 1 r P⟩) ⟨λh=>by have:=f 1 gs h.1;omega,λh=>by have:=(q gs Y h.1).2;omega,λh=>by have:=s gs h;omega⟩ Ω Ω λL z Q ah ai=>?_;refine W _ _ z (Q.mono λr _ h=>h.elim (λh=>by have:=f 1 r h.1;omega) λh=>Ω) ah (M.Oc Q (λr e=>?_) ai (λj r F e=>?_) λr e=>?_) (λj r e=>?_) λj F=>?_
 .rcases e with e|rfl
  .exact .inl e
  .exact .inr ⟨λj h=>by have:=f j r h.1;omega,λh=>by have:=s r h;omega⟩
 .rcases e with e|e|e
  .exact C 1 j r (S3 F) e
  .exact λh=>(q r e.2 e.1).1 j h.1
  .exact λh=>by have:=h.2;omega
 .rcases e with e|e|e
  .exact O 1 r e
  .exact λh=>by have:=(q r e.2 e.1).2;have:=s r h;omega
  .exact λh=>by have:=s r h;omega
 .unfold fc at e;split at e
  .rcases e with e|e|e
   .exact f 1 r e.1
   .exact (q r e.2 e.1).2
   .omega
  .exact f j r e.1
 .rw[Y0 (S3 F)]
theorem bu.Oh {S:r9} (h:bu true A R w cs k sizes zero D G aS H E) (J:ab w gs aE cs) (x:cs[5]? =σ v) (f:∀j r,A j r->gs<r) (s:∀r,R r->r<gs) (I:bX w 1 y 1 xs) (V:bj B R w xs a) (q:∀r,r<w.heap.size->B r->(∀j,¬A j r)/\gs<r) (aj:aS.length<=1000)
  (W:∀aK bt w',ae (λr=>gs<=r) w w'->ab w' gs aE bt->bu true aK R w' bt k sizes zero D G (aS++[a]) H E->(∀j r,aK j r->gs<r)->(∀j,j≠5->bt[j]? =cs[j]?)->K w'):
  ax x7 (b8 #[cN,cN] S #[v,y]) w λL U=>aa x7 (u6 aE (Γ gs) 5) U λX=>ax x7 (o8 cN X L) U λ_ z=>K z:=by
 have M:=h.old;have Y:=J.lt;obtain⟨szv,al,am,Z,an,N,ac,h1,ap,aq,ad,au,av,C⟩:=id M;obtain⟨C,O⟩:=C rfl;have N:v=Z:=by rw[ac] at x;exact (c8 x).symm
 subst N;have af:bj (λr=>B r/\r<w.heap.size) R w xs a:=ak.mono V (λr e h=>⟨h,e⟩) λ_ _ h=>h;refine n0 (pl:=_) (l:=aS) aE.p rfl cN.u cN.i ao.i rfl J x ad I af (λr e P=>⟨λag=>(q r e ag.1).1 2 P.1,O 2 r P⟩) ⟨λh=>by have:=f 2 gs h.1;omega,λh=>by have:=(q gs Y h.1).2;omega,λh=>by have:=s gs h;omega⟩ Ω Ω λL z Q ah ai=>?_;refine W _ _ z (Q.mono λr _ h=>h.elim (λh=>by have:=f 2 r h.1;omega) λh=>Ω) ah (M.jT Q (λr e=>?_) ai (λj r F e=>?_) λr e=>?_) (λj r e=>?_) λj F=>?_
 .rcases e with e|rfl
  .exact .inl e
  .exact .inr ⟨λj h=>by have:=f j r h.1;omega,λh=>by have:=s r h;omega⟩
 .rcases e with e|e|e
  .exact C 2 j r (S3 F) e
  .exact λh=>(q r e.2 e.1).1 j h.1
  .exact λh=>by have:=h.2;omega
 .rcases e with e|e|e
  .exact O 2 r e
  .exact λh=>by have:=(q r e.2 e.1).2;have:=s r h;omega
  .exact λh=>by have:=s r h;omega
 .unfold fc at e;split at e
  .rcases e with e|e|e
   .exact f 2 r e.1
   .exact (q r e.2 e.1).2
   .omega
  .exact f j r e.1
 .rw[Y0 (S3 F)]
theorem bu.Oi {a:hB} {S:r9} (h:bu true A R w cs k sizes zero D G aS H E) (J:ab w gs aE cs) (x:cs[6]? =σ v) (f:∀j r,A j r->gs<r) (s:∀r,R r->r<gs) (I:bX w 4 y 1 xs) (V:bj B R w xs a) (q:∀r,r<w.heap.size->B r->(∀j,¬A j r)/\gs<r) (aj:H.length<=1000)
  (W:∀aK bt w',ae (λr=>gs<=r) w w'->ab w' gs aE bt->bu true aK R w' bt k sizes zero D G aS (H++[a]) E->(∀j r,aK j r->gs<r)->(∀j,j≠6->bt[j]? =cs[j]?)->K w'):
  ax x7 (b8 #[dP,dP] S #[v,y]) w λL U=>aa x7 (u6 aE (Γ gs) 6) U λX=>ax x7 (o8 dP X L) U λ_ z=>K z:=by
 have M:=h.old;have Y:=J.lt;obtain⟨szv,al,am,an,Z,N,ac,h1,ao,ap,aq,ad,au,C⟩:=id M;obtain⟨C,O⟩:=C rfl;have N:v=Z:=by rw[ac] at x;exact (c8 x).symm
 subst N;have af:bj (λr=>B r/\r<w.heap.size) R w xs a:=ak.mono V (λr e h=>⟨h,e⟩) λ_ _ h=>h;refine n0 (pl:=_) (l:=H) aE.p rfl dP.u dP.i db.i rfl J x ad I af (λr e P=>⟨λag=>(q r e ag.1).1 3 P.1,O 3 r P⟩) ⟨λh=>by have:=f 3 gs h.1;omega,λh=>by have:=(q gs Y h.1).2;omega,λh=>by have:=s gs h;omega⟩ Ω Ω λL z Q ah ai=>?_;refine W _ _ z (Q.mono λr _ h=>h.elim (λh=>by have:=f 3 r h.1;omega) λh=>Ω) ah (M.jU Q (λr e=>?_) ai (λj r F e=>?_) λr e=>?_) (λj r e=>?_) λj F=>?_
 .rcases e with e|rfl
  .exact .inl e
  .exact .inr ⟨λj h=>by have:=f j r h.1;omega,λh=>by have:=s r h;omega⟩
 .rcases e with e|e|e
  .exact C 3 j r (S3 F) e
  .exact λh=>(q r e.2 e.1).1 j h.1
  .exact λh=>by have:=h.2;omega
 .rcases e with e|e|e
  .exact O 3 r e
  .exact λh=>by have:=(q r e.2 e.1).2;have:=s r h;omega
  .exact λh=>by have:=s r h;omega
 .unfold fc at e;split at e
  .rcases e with e|e|e
   .exact f 3 r e.1
   .exact (q r e.2 e.1).2
   .omega
  .exact f j r e.1
 .rw[Y0 (S3 F)]
end
theorem Oj (u:Λ):ay (newVar u)=(V1 u.length).map λv:Nat=>(v:Int):=by
 unfold ay newVar dropped;rw[List.filter_eq_self.2];intro a _;simp
theorem n1 {R:ag} {v:x1} {g:Nat} (h:ap .i64 e w g v l):bj (λr=>leads v r) R w [v] l:=by
 have h1:=ny (R:=R) h;by_cases f:v= .slice ν 0 0
 .subst f;have:l=[]:=by
   obtain⟨j,⟨_,a⟩|⟨_,_,a,_⟩⟩:=h
   .exact b9 a
   .cases a
  subst this;exact gh
 .obtain⟨j,⟨a,_⟩|⟨cap,cs,a,_⟩⟩:=id h
  .exact absurd a f
  .refine ak.mono h1 (λr _ p=>?_) λ_ _ h=>h;rw[a];exact⟨_,_,_,rfl,p.symm⟩
theorem wS {R:ag} {v:x1} {g:Nat} (e:∀r c,B<=r->ab w r ah c->R r) (h:ap .i64 ah w g v l) (f:∀r,leads v r->B<=r):Seen R w [v] l:=nt (n1 (R:=λ_=>False) h) λr p a=>by
 rcases a with a|a
 .obtain⟨c,j⟩:=qQ h r a;exact e r c (f r a) j
 .exact a.elim
theorem Ol {R:ag} {zero:Int} (h:Seen R w [szv] sizes):bu true (λ_ _=>False) R w [Δ k,szv,Δ zero,.slice ν 0 0,.slice ν 0 0,.slice ν 0 0,.slice ν 0 0,.slice ν 0 0] k sizes zero [] [] [] [] []:=
 ⟨_,_,_,_,_,_,rfl,h,gh,gh,gh,gh,gh,λ_=>⟨λ_ _ _ _ h=>h.elim,λ_ _ h=>h.elim⟩⟩
theorem bu.at {A:Nat->ag} {R:ag} {zero:Int} {D:List (Λ)} {G:List Bool} {aS:List (Λ)} {H:List hB} {E:List jr} (h:bu m A R w cs k sizes zero D G aS H E) (c:Nat) (a:c<8):∃v,cs[c]? =σ v:=⟨_,x6 (by rw[h.len.1];exact a)⟩
def Om (R:ag) (w:x3) (e gt gs:Nat) (n:aT) (f:List x1) (i j:Nat) (a:x3):Prop:=Ext w a/\ab a e dF f/\ab a gt aE z12/\ ∃A cs,ab a gs aE cs/\(∀q r,A q r->gs<r)/\
 bu true A R a cs n.k n.sizes n.zero ((n.unary.take i).map λu=>ay (newVar u)) (p9 i false) (n.unary.take i) ((n.funs.take j).map λg=>gu (kv n.sizes g)) []
theorem Dx {bI:x1} {n:aT} {R:ag} (az:∀r,R r->r<w.heap.size) (a6:∀r c,B<=r->ab w r ah c->R r) (cA:wN w B bI n) (ad:jO n) (ee:n.funs.length<=256):ai x7 Gi [bI] w λv w'=>Ext w w'/\ ∃A cs,v= .agg cs.toArray/\gv true A R w' cs n.k n.sizes (du n)/\ ∀q r,A q r->w.heap.size<=r:=by
 have ef:=ad.sizes.2.1;have cB:=ad.ku;refine aw func38 ?_;refine bm λg1 J eg a7 cC=>?_;obtain⟨szv,gz,cD,eh,bJ,cE,ei,a8,aC,aD,cF,bK,ba,cG,bL,cH,bM⟩:=Oa cA cC;refine bB aE.i λgt U ej aG aH=>?_;have aH:ab U gt aE z12:=aH;have bb:=aC.ext aG;rw[aA dF.p 0 bb rfl,aA dF.p 1 bb rfl,aA dF.p 2 bb rfl,
  dp (cs:=#[Δ n.k,szv,Δ n.zero,.slice ν 0 0,.slice ν 0 0,.slice ν 0 0,.slice ν 0 0,.slice ν 0 0]) (by obtain⟨_,_,_,e⟩:=ds aD.ls;rw[e];kernel_rfl)]
 refine bB aE.i λgs ek em aJ cI=>?_;have cJ:Seen R w [szv] n.sizes:=wS a6 aD cH;have en:=a7.size;have eo:=aG.size;have z3:=aJ.size;have cL:=(a7.trans aG).trans aJ;have bN:=Ol (k:=n.k) (zero:=n.zero) (bc cJ cL);refine b3 (vs:=[Δ n.k,szv,Δ n.zero,.slice ν 0 0,.slice ν 0 0,.slice ν 0 0,.slice ν 0 0,.slice ν 0 0]) aE.i rfl rfl bN.len.2 cI λcM be er cO=>?_;have es:=aH.lt;have et:=aC.lt;have cP:gt≠gs:=Ω
 have bf:Ext J cM:=(aG.trans aJ).put be Ω;have bO:=a7.trans bf;have cQ:=(aH.ext aJ).V be λhe=>cP he;have eu:w.heap.size<gs:=Ω
 rw[aA dF.p 1 (aC.ext bf) rfl,aX am.u (aD.ext bO).ls];have cR:=bN.V be λr f h he=>by
  have he:r=gs:=he;rcases h with⟨_,h⟩|h
  .exact h
  .have:=az r h;omega
 refine ch.range n.sizes.length (λi O=>Om R w g1 gt gs n [Δ n.k,szv,Δ n.zero,cD,cE] i 0 O) Ω ⟨bO,aC.ext bf,cQ,_,_,cO,(λ_ _ h=>h.elim),cR⟩ ?_ ?_
 .rintro i O cT hi ⟨P,bg,bh,A,cs,af,bi,aK⟩ cU;obtain⟨z,bk⟩:=aI (l:=n.sizes) hi;obtain⟨u,hu⟩:=aI (l:=n.unary) (i:=i) Ω;have ev:=ad.sizes.2.2 z (x5 bk);obtain⟨ew,_⟩:=ad.unary i z u bk hu;refine bH Ω ?_;rw[bd am.u ah.i Ψ (aD.ext P).ls bk];obtain⟨bQ,rfl⟩:∃m:Nat,z=m:=⟨z.toNat,Ω⟩;refine b1.range bQ (λj aj aL=>Ext O aL/\ ∃g,ap .i64 ah aL g aj ((V1 j).map λv:Nat=>(v:Int))/\ ∀r,leads aj r->O.heap.size<=r) Ω
   ⟨Ext.refl _,0,ap.nil _ _ _ _,λr f=>by obtain⟨a,n,c,I,Q⟩:=f;cases I⟩ ?_ ?_
  .rintro j aj aL bl bn ⟨K,cV,S,aM⟩ bo;refine bH Ω ?_;refine ep (k:=.i64) am.u ah.i rfl λey ez cW eA H cX=>?_;refine gO am.u ah.i rfl (S.ext H) cX.ls Θ Θ λeC cY cZ c0 c1 W=>?_;rw[aP];have c2:=K.size;have c3:=H.size;refine bo _ _ ⟨(K.trans H).then W λr f he=>by have:=aM r he;omega,cY,?_,λr f=>(c1 r f).elim (aM r) λh=>Ω⟩;rw[List.range_succ,j6];exact c0
  rintro aj aL bl ⟨K,cV,S,aM⟩;refine cd Ω ?_;have c5:(V1 bQ).map (λv:Nat=>(v:Int))=ay (newVar u):=by rw[Oj];congr 2;omega
  rw[c5] at S;have c2:=K.size;have eE:=P.size;have eF:=af.lt;have ak:∀r,R r->r<gs:=λr f=>by have:=az r f;omega
  have low:∀ {s C:x3} {b:Nat} {e:r9} {c:List x1},ae (λr=>gs<=r) s C->b<gs->ab s b e c->ab C b e c:=λL c6 h=>h.V L λX=>by have X:gs<=_:=X;omega
  have an:∀ {s C:x3},Ext w s->ae (λr=>gs<=r) s C->Ext w C:=λbp L=>bp.then L λr f h=>by have h:gs<=r:=h;omega
  have bR:=aK.old.ext K;have c7:∀q r,(A q r/\r<O.heap.size)->gs<r:=λq r h=>bi q r h.1;obtain⟨eH,bS⟩:=bR.at 3 Ω;rw[aA aE.p 3 (af.ext K) bS];refine iH cK.u am.i Φ (a:=ay (newVar u)) (cs:=[aj]) S.ls.cells.1 (n1 (R:=R) S) λeI cW H _ c9=>?_;have c3:=H.size;have aN:=K.trans H;refine bu.Of (bR.ext H) (af.ext aN) bS c7 ak c9 (bc (n1 (R:=R) S) H) (λr f h=>?_) Θ λeJ eK cZ W bT bU da _=>?_
  .have:=aM r h;exact⟨λj h=>Ω,Ω⟩
  have eL:=W.size;obtain⟨eM,bV⟩:=bU.at 4 Ω;rw[aA aE.p 4 bT bV];refine iH (a:=false) (cs:=[.bool false]) (A:=λ_=>False) (R:=R) hn.u eB.i Φ rfl rfl λeN eO Y _ dc=>?_;refine bu.Og (a:=false) (xs:=[.bool false]) (B:=λ_=>False) (bU.ext Y) (bT.ext Y) bV da ak dc rfl (λr f h=>h.elim) Θ λdd eP bW aO bX dg dh _=>?_;have z9:=Y.size;have eQ:=aO.size;have di:Ext w bW:=an ((an (P.trans aN) W).trans Y) aO;have dj:=low aO Ω ((low W Ω (bg.ext aN)).ext Y);have dk:=low aO Ω ((low W Ω (bh.ext aN)).ext Y);intro bq Z _ _;have bY:=bX.ext Z;have bZ:=dj.ext Z;have b0:=di.trans Z;obtain⟨aa,aQ⟩:∃aa,bJ[i]? =σ aa:=⟨_,x6 (by have:=congrArg T1 bK;rw[u7] at this;omega)⟩;have dl:aa.l=u:=by
   have b2:(bJ.map (·.l))[i]? =σ aa.l:=by rw[x8,aQ];rfl
   rw[bK,hu] at b2;exact (c8 b2).symm
  have br:=cF.ext b0;obtain⟨eR,b4⟩:=br.2 aa (x5 aQ);rw[dl] at b4;have b5:=dg.old.ext Z;have dm:∀q r,(dd q r/\r<bW.heap.size)->gs<r:=λq r h=>dh q r h.1;obtain⟨eS,b6⟩:=b5.at 5 Ω;rw[aA aE.p 5 bY b6,aA dF.p 3 bZ rfl,de rfl cN.u ao.i br.1 (x4.1 aQ).1,aB (v:=aa.v) (o:=i*1) Ψ (br.1.range aQ 0 _ rfl)];refine wQ (k:=.i64) ao.u al.i λdn eU eV eW aR b7=>?_;refine⟨.inl aR,?_⟩;refine gO ao.u al.i rfl b7 (b4.ext aR).ls Θ Θ λb8 eX dq aS dr dt=>?_;rw[List.nil_append] at aS;have eY:=Z.size;have eZ:=aR.size;have b9:∀r,leads dn r->bq.heap.size<=r:=λr f=>by have:=(bP b7 f).1;omega
  have dv:∀r,leads b8 r->bq.heap.size<=r:=λr f=>(dr r f).elim (b9 r) λh=>Ω
  have bt:Ext bq dq:=aR.then dt λr f he=>by have:=b9 r he;omega
  refine⟨.inl bt,?_⟩;have e0:=bt.size;refine iH cN.u ao.i Φ (a:=u) (cs:=[b8]) aS.ls.cells.1 (n1 (R:=R) aS) λe1 e2 bw _ dw=>?_;have e3:=bw.size;have ac:=bt.trans bw;refine⟨.inl ac,?_⟩;refine bu.Oh (b5.ext ac) (bY.ext ac) b6 dm ak dw (bc (n1 (R:=R) aS) bw) (λr f h=>?_) Θ λdx dy e4 bx dz dA dC _=>?_
  .have:=dv r h;have:=bX.lt;exact⟨λj h=>Ω,Ω⟩
  rw[aP];refine cU _ ⟨an (b0.trans ac) bx,low bx Ω (bZ.ext ac),low bx Ω ((dk.ext Z).ext ac),dx,dy,dz,dC,?_⟩;rw[u9,hu,o7,j6,V4,List.map_nil,List.replicate_succ'];exact dA
 rintro O cT ⟨P,bg,bh,A,cs,af,bi,aK⟩;refine cd Ω ?_;rw[o9 Ω] at aK;have e5:a8.length=n.funs.length:=by rw[<-bL,u7]
 have dD:=ba.ext P;rw[aA dF.p 4 bg rfl,eD cj.u dD];have ak:∀r,R r->r<gs:=λr f=>by have:=az r f;omega
 have low:∀ {s C:x3} {b:Nat} {e:r9} {c:List x1},ae (λr=>gs<=r) s C->b<gs->ab s b e c->ab C b e c:=λL c6 h=>h.V L λX=>by have X:gs<=_:=X;omega
 have an:∀ {s C:x3},Ext w s->ae (λr=>gs<=r) s C->Ext w C:=λbp L=>bp.then L λr f h=>by have h:gs<=r:=h;omega
 refine ch.range a8.length (λj G=>Ext w G/\ab G gt aE z12/\ ∃A cs,ab G gs aE cs/\(∀q r,A q r->gs<r)/\
  bu true A R G cs n.k n.sizes n.zero (n.unary.map λu=>ay (newVar u)) (p9 n.sizes.length false) n.unary ((n.funs.take j).map λg=>gu (kv n.sizes g)) []) ba.le ⟨P,bh,A,cs,af,bi,aK⟩ ?_ ?_
 .rintro j G bl bn ⟨M,bz,bA,aU,aW,aY,aq⟩ bo;obtain⟨y,au⟩:=aI (l:=a8) bn;have ca:n.funs[j]? =σ (df y):=by rw[<-bL,x8,au];rfl
  have cb:=(ad.funs (df y) (x5 ca)).1;have e6:y.cs.length<=4096:=by
   have h1:y.cs.length=_:=cb.len;have X:=cb.small;omega
  have cc:=cG y (x5 au);have ce:=cc.ext M;have cg:=ba.ext M;refine bH Ω ?_;rw[de rfl cj.u aV.i cg bn,bD aV.p aV.i rfl (cg.range au)];refine bB aV.i λe7 e8 e9 dE dG=>?_;refine b3 (vs:=cS y) aV.i rfl rfl ce.one dG λdH dI fa dJ=>?_;have dK:Ext G dH:=dE.put dI Ω;intro bC ci _ _;have N:=dK.trans ci;have ck:=aW.ext N;have bE:=dJ.ext ci;have dL:=ce.ext N;obtain⟨⟨fb,cl⟩,⟨fc,cm⟩,fd,dM⟩:=id dL;have cn:=aq.old.ext N;have dN:∀q r,(bA q r/\r<G.heap.size)->gs<r:=λq r h=>aY q r h.1;obtain⟨fe,cp⟩:=cn.at 6 Ω;rw[aA aE.p 6 ck cp,aA aV.p 0 bE rfl,aA aV.p 1 bE rfl,aA aV.p 2 bE rfl];refine wQ (k:=.i64) ao.u al.i λv25 ff fg fh aZ cq=>?_;refine⟨.inl aZ,?_⟩;refine gO ao.u al.i rfl cq (dM.ext aZ).ls Θ Θ λE fi cr a1 dO dQ=>?_;rw[List.nil_append] at a1;have fj:=N.size;have z25:=aZ.size;have ct:∀r,leads v25 r->bC.heap.size<=r:=λr f=>by have:=(bP cq f).1;omega
  have dR:∀r,leads E r->bC.heap.size<=r:=λr f=>(dO r f).elim (ct r) λh=>Ω
  have a2:Ext bC cr:=aZ.then dQ λr f he=>by have:=ct r he;omega
  refine⟨.inl a2,?_⟩;rw[dp (cs:=#[y.aF,y.szv,E]) (by obtain⟨_,_,_,I⟩:=ds cl.ls;obtain⟨_,_,_,Q⟩:=ds cm.ls;obtain⟨_,_,_,av⟩:=ds a1.ls;rw[I,Q,av];kernel_rfl),
   dp (cs:=#[y.aF,y.szv,E,.bool true]) (by obtain⟨_,_,_,I⟩:=ds cl.ls;obtain⟨_,_,_,Q⟩:=ds cm.ls;obtain⟨_,_,_,av⟩:=ds a1.ls;rw[I,Q,av];kernel_rfl)]
  have fk:=a2.size;have cu:=(M.trans N).trans a2;obtain⟨⟨ga,dS⟩,⟨c4,dT⟩,_⟩:=id cc;have own:bj (α:=hB) (λr=>leads E r) R cr [y.aF,y.szv,E,.bool true] (gu (kv n.sizes (df y))):=by
   refine⟨[y.aF,y.szv,E],[.bool true],λr=>leads E r,λ_=>False,rfl,λ_ h=>h,λ_ h=>h.elim,λ_ _ _ h=>h,⟨[y.aF],[y.szv,E],λ_=>False,λr=>leads E r,rfl,λ_ h=>h.elim,λ_ h=>h,λ_ _ h=>h.elim,?_,[y.szv],[E],λ_=>False,λr=>leads E r,rfl,λ_ h=>h.elim,λ_ h=>h,λ_ _ h=>h.elim,?_,?_⟩,rfl⟩
   .exact bc (wS a6 dS λr f=>bM y (x5 au) r (.inr (.inl f))) cu
   .exact bc (wS a6 dT λr f=>bM y (x5 au) r (.inr (.inr f))) cu
   .exact n1 a1
  refine iH dP.u db.i Φ rfl own λfm fo bF _ dU=>?_;have fp:=bF.size;have ax:=a2.trans bF;refine⟨.inl ax,?_⟩;refine bu.Oi (cn.ext ax) (ck.ext ax) cp dN ak dU (bc own bF) (λr f h=>?_) Θ λdV dW fq cw dX dY dZ _=>?_
  .have:=dR r h;have:=aW.lt;exact⟨λj h=>Ω,Ω⟩
  rw[aP];refine bo _ ⟨an (M.trans (N.trans ax)) cw,low cw Ω (bz.ext (N.trans ax)),dV,dW,dX,dZ,?_⟩;rw[u9,ca,o7,j6,V4,List.map_nil];exact dY
 rintro G bl ⟨M,bz,bA,aU,aW,aY,aq⟩;rw[o9 Ω] at aq;refine cd Ω ?_;obtain⟨bG,ea⟩:=aq.len;rw[bD aE.p aE.i bG (show G.rangeAt gs 0 aU from aW.range)];refine b3 (vs:=aU) aE.i bG rfl ea bz λfs cz ft eb=>?_;rw[fz aE.p aE.i bG eb.range];have ec:=aq.V cz λr f h he=>by
  have he:r=gt:=he;rcases h with⟨q,h⟩|h
  .have:=aY q r h;omega
  .have:=az r h;omega
 have fu:=M.size;refine⟨M.then cz λr f he=>by have he:r=gt:=he;omega,bA,aU,rfl,?_,λq r h=>by have:=aY q r h;omega⟩;have I:(du n).vars.map ay=n.unary.map λu=>ay (newVar u):=by show (n.unary.map newVar).map ay=_;rw[S8];rfl
 have Q:(du n).vars.map (λx=>decide (x.gone≠0))=p9 n.sizes.length false:=by
  show (n.unary.map newVar).map _=_;rw[S8,<-cB];exact List.map_const' ..
 have av:(du n).vars.map (·.un)=n.unary:=by show (n.unary.map newVar).map _=_;rw[S8];exact List.map_id _
 have ed:(du n).funs.map gu=n.funs.map λg=>gu (kv n.sizes g):=by show (n.funs.map (kv n.sizes)).map gu=_;rw[S8];rfl
 unfold gv;rw[I,Q,av,ed];exact ec
section
variable {P:W3} {w:x3} {t:r9} {cx cy:Bool} {a b:Nat} {K:x1->Prop}
theorem On (f:a<2 ^ 62) (h:b<2 ^ 62):aa P (aJ .or t cx cy (Δ a) (Δ b)) w K=K (Δ ((a ||| b:Nat):Int)):=aa.of λw' _=>by
 have e:(U5 64 (a:Int) ||| U5 64 (b:Int)).toNat=a ||| b:=by
  rw[mB,mB,BitVec.toNat_or,BitVec.toNat_ofNat,BitVec.toNat_ofNat,Nat.mod_eq_of_lt Ω,Nat.mod_eq_of_lt Ω]
 have p:a ||| b<2 ^ 62:=Nat.or_lt_two_pow f h;have hw:X2.wrap ((a ||| b:Nat):Int)=((a ||| b:Nat):Int):=wrap_i64 Ω Ω;have j:(U5 X2.bits (a:Int) ||| U5 X2.bits (b:Int)).toNat=a ||| b:=e;simp only[aJ,eqGuard,binOp,Op.intBits,j,hw];rfl
theorem Dy (j:a<2 ^ 62) (f:b<2 ^ 62):aa P (aJ .and t cx cy (Δ a) (Δ b)) w K=K (Δ ((a &&& b:Nat):Int)):=aa.of λw' _=>by
 have e:(U5 64 (a:Int) &&& U5 64 (b:Int)).toNat=a &&& b:=by
  rw[mB,mB,BitVec.toNat_and,BitVec.toNat_ofNat,BitVec.toNat_ofNat,Nat.mod_eq_of_lt Ω,Nat.mod_eq_of_lt Ω]
 have p:a &&& b<2 ^ 62:=Nat.and_lt_two_pow _ f;have hw:X2.wrap ((a &&& b:Nat):Int)=((a &&& b:Nat):Int):=wrap_i64 Ω Ω;have h:(U5 X2.bits (a:Int) &&& U5 X2.bits (b:Int)).toNat=a &&& b:=e;simp only[aJ,eqGuard,binOp,Op.intBits,h,hw];rfl
theorem Oo {k:o6} {n:Nat} (a:n<62):aa P (aJ .shl t cx cy (Δ 1) (.int k (n:Int))) w K=K (Δ ((2 ^ n:Nat):Int)):=by
 rw[zp Ω];have e:min ((n:Int).toNat) X2.bits=n:=Nat.min_eq_left (by show n<=64;omega);have f:2 ^ n<2 ^ 62:=Nat.pow_lt_pow_right Ω a;rw[e,Int.one_mul,show ((2:Int) ^ n)=((2 ^ n:Nat):Int) by simp];generalize 2 ^ n=q at f ⊢;rw[wrap_i64 Ω Ω]
end
theorem Dz (a n:Nat):(a / 2 ^ n &&& 1=1)↔a.testBit n=true:=by
 rw[Nat.and_one_is_mod,Nat.testBit_eq_decide_div_mod_eq,decide_eq_true_eq]
theorem DA {b n:Nat} (q:lT b n):ai x7 GF [jn b n,Δ v] w λr w'=>r= .bool (decide (0<=v/\v<n)&&b.testBit v.toNat)/\Ext w w':=by
 refine aw func65 ?_;refine bm λg J A e f=>?_;refine aU (λr U=>r= .bool (decide (0<=v/\v<n)&&b.testBit v.toNat)/\Ext w U) (λ_ _ h=>h) λav j=>?_;rw[bD ca.p ca.i rfl f.range];refine AB.mono ?_;rintro _ B _ ⟨rfl,a⟩;rw[aj];refine⟨λh=>?_,λh=>j _ _ ⟨by rw[decide_eq_false h];rfl,e.trans a⟩⟩;obtain⟨x,C⟩:=q;obtain⟨s,rfl⟩:∃s:Nat,v=s:=⟨v.toNat,Ω⟩;have y:=f.ext a;have E:(2:Nat) ^ n<=2 ^ 32:=T6 Ω x;have z:b / 2 ^ s<2 ^ 64:=Nat.lt_of_le_of_lt (Nat.div_le_self _ _) Ω;rw[aA ca.p 0 y rfl,kZ Ω,show (1:Int)=((1:Nat):Int) from rfl,u64_and z Ω,bh];refine j _ _ ⟨?_,e.trans a⟩;congr 1;rw[decide_eq_true h,U7,V3,decide_eq_true_eq,r8,<-Dz];omega
theorem Oq (m v:Nat):dropped (m:Int) (v:Int)=m.testBit v:=by unfold dropped;rw[r8,r8]
def bV (w:x3) (ac af:Nat) (A R:ag) (n:aT) (s:au) (t:aC):Prop:=StateM w ac af A R n s t/\t.bK=s.cells/\mI t/\bq n.k n.sizes s/\jO n
theorem bV.ext {A R:ag} {n:aT} {s:au} {t:aC} (h:bV w ac af A R n s t) (a:Ext w w'):bV w' ac af A R n s t:=⟨h.1.ext a,h.2⟩
theorem StateM.parts {A R:ag} {n:aT} {s:au} {t:aC} (h:StateM w ac af A R n s t):∃a e f j a6 p L q,ab w ac cu [Γ a,Γ af,e,f,j]/\fT w a n/\dx w af q t/\ap .i64 ah w a6 e (ir s)/\bg l2 3 dQ w p f L/\ld R w L s:=by
 obtain⟨a,e,f,j,_,a6,p,ge,L,E,q,w0,r,⟨x,y,G⟩,⟨z,H,I,J⟩,B,⟨C,F⟩,K,M⟩:=h;exact⟨a,e,f,j,a6,p,L,q,r,x.ext y,z,B,C,F⟩
theorem qT {s:au} {i:Nat} (h:i<s.vars.length):(ir s)[i]? =σ (e9 s i:Int):=by
 unfold ir;rw[x8,List.getElem?_range h];rfl
theorem tm {s:au} {t:aC} (a:t.bK=s.cells) (I:mI t):s.cells.length<=100000000:=by
 rw[<-a];unfold aC.bK;rw[u7];exact I.1
theorem tn {s:au} {i:Nat} {x:bi} (h:s.vars[i]? =σ x):e9 s i+x.un.length+2<=s.cells.length:=by
 have h1:=pf h (j:=x.un.length+1) Ω;have a:(hA x)[x.un.length+1]? ≠ν:=by
  rw[Ne,List.getElem?_eq_none_iff];show ¬(x.un.length+1+1<=x.un.length+1);omega
 rw[<-h1] at a;have:=(x4.1 (Option.ne_none_iff_exists'.1 a).choose_spec).1;omega
theorem DB {s:au} {f:b0} (h:s.funs[j]? =σ f):fa s j+f.cs.length+1<=s.cells.length:=by
 have h1:=wq h (j:=f.cs.length) Ω;have a:(hX f)[f.cs.length]? ≠ν:=by
  rw[Ne,List.getElem?_eq_none_iff];show ¬(f.cs.length+1<=f.cs.length);omega
 rw[<-h1] at a;have:=(x4.1 (Option.ne_none_iff_exists'.1 a).choose_spec).1;omega
section
variable {w:x3} {ac af:Nat} {A R:ag} {n:aT} {s:au} {t:aC}
theorem DC (h:bV w ac af A R n s t):ai x7 Hl [Γ ac] w λv w'=>(∃a,v=Γ a/\fT w' a n)/\Ext w w':=by
 obtain⟨a,j,q,r,a6,x,L,y,e,f,z,B,C,E⟩:=h.1.parts;refine aw func128 ?_;rw[dn dO.u];simp only[Z5,aY];rw[aO cu.p 0 e rfl];exact⟨⟨a,rfl,f⟩,Ext.refl _⟩
theorem DD (h:bV w ac af A R n s t):ai x7 GC [Γ ac] w λv w'=>v=Δ (n.sizes.length:Int)/\Ext w w':=by
 refine aw func63 ?_;refine (DC h).mono ?_;rintro _ J _ ⟨⟨j,rfl,a⟩,e⟩;refine (ws a).mono ?_;rintro _ U _ ⟨rfl,f⟩;exact⟨rfl,e.trans f⟩
theorem n2 (h:bV w ac af A R n s t):ai x7 Gx [Γ ac] w λv w'=>v=Δ n.k/\Ext w w':=by
 refine aw func57 ?_;refine (DC h).mono ?_;rintro _ J _ ⟨⟨j,rfl,a⟩,e⟩;refine (No a).mono ?_;rintro _ U _ ⟨rfl,f⟩;exact⟨rfl,e.trans f⟩
theorem wT {i:Int} (h:bV w ac af A R n s t):ai x7 G8 [Γ ac,Δ i] w λv w'=>v= .bool (decide (0<=i/\i<n.sizes.length))/\Ext w w':=by
 refine aw func112 ?_;refine aU (λv J=>v= .bool (decide (0<=i/\i<n.sizes.length))/\Ext w J) (λ_ _ h=>h) λav a=>?_;rw[cY,aj];refine⟨λe=>?_,λe=>a _ _ ⟨by rw[decide_eq_false Ω],Ext.refl _⟩⟩;refine (DD h).mono ?_;rintro _ J _ ⟨rfl,f⟩;rw[aR];refine a _ _ ⟨?_,f⟩;congr 1;exact decide_eq_decide.2 ⟨λh=>⟨e,h⟩,λh=>h.2⟩
theorem tp (h:bV w ac af A R n s t):ai x7 Gk [Γ ac] w λv w'=>v=Δ s.zero/\Ext w w':=by
 obtain⟨j,q,r,x,a6,y,L,z,a,B,e,C,E,G⟩:=h.1.parts;refine aw func41 ?_;rw[dn dO.u];simp only[Z5,aY];rw[aO cu.p 1 a rfl];refine (mH (i:=0) e rfl (show t.bK[0]? =σ s.zero by rw[h.2.1];exact Ni s)).mono ?_;rintro _ J _ ⟨rfl,f⟩;exact⟨rfl,f⟩
theorem wU (h:bV w ac af A R n s t):ai x7 Hp [Γ ac] w λv w'=>v=Δ (s.funs.length:Int)/\Ext w w':=by
 obtain⟨j,q,r,x,a6,y,L,z,a,B,C,E,e,f⟩:=h.1.parts;refine aw func132 ?_;rw[dn dO.u];simp only[Z5,aY];rw[aO cu.p 3 a rfl,eD fh.u e];exact⟨by rw[f.1],Ext.refl _⟩
def lk (s:au) (i:Nat):Bool:=match s.vars[i]? with
 |some x=>decide (x.gone≠0)
 |none=>false
theorem wV {i:Int} (h:bV w ac af A R n s t):ai x7 GD [Γ ac,Δ i] w λv w'=>v= .bool (decide (0<=i)&&lk s i.toNat)/\Ext w w':=by
 refine aw func64 ?_;refine aU (λv J=>v= .bool (decide (0<=i)&&lk s i.toNat)/\Ext w J) (λ_ _ h=>h) λav e=>?_;intro U f _ _;refine (wT (h.ext f)).mono ?_;rintro _ I _ ⟨rfl,r⟩;have a:=f.trans r;have K:=h.2.2.2.1.vars;rw[aj];refine⟨λz=>?_,λM=>e _ _ ⟨?_,a⟩⟩
 .obtain⟨N,O,P,Q,a6,S,L,V,j,W,B,C,X,Y⟩:=(h.ext a).1.parts;obtain⟨x,q⟩:=aI (l:=s.vars) (i:=i.toNat) Ω;rw[aO cu.p 1 j rfl,aO cu.p 2 j rfl,fy (y:=i) (i:=i.toNat) Ω am.u ah.i Ψ C.ls (qT Ω)];have E:t.bK[e9 s i.toNat+0]? =σ x.gone:=by rw[h.2.1,pf q Ω];rfl
  refine (mH (i:=e9 s i.toNat) B rfl E).mono ?_;rintro _ Z _ ⟨rfl,G⟩;rw[bL];refine e _ _ ⟨?_,a.trans G⟩;rw[decide_eq_true z.1,U7];unfold lk;rw[q]
 .by_cases H:0<=i
  .unfold lk;rw[Z3 Ω,Bool.and_false]
  .rw[decide_eq_false H];rfl
def gw (n:aT) (i v:Int):Prop:=0<=i/\i<n.sizes.length/\0<=v/\v<n.sizes.getD i.toNat 0
instance (n:aT) (i v:Int):Decidable (gw n i v):=inferInstanceAs (Decidable (_/\_))
theorem gw.var {i:Int} (h:gw n i v) (a:bq n.k n.sizes s):∃x,s.vars[i.toNat]? =σ x/\v.toNat<x.un.length/\x.un.length<=32/\n.sizes.getD i.toNat 0=x.un.length:=by
 obtain⟨h1,p,q,j⟩:=h;have r:=a.vars;obtain⟨x,f⟩:=aI (l:=s.vars) (i:=i.toNat) Ω;obtain⟨z,e⟩:=aI (l:=n.sizes) (i:=i.toNat) Ω;have w:=a.fb.2.2 z (x5 e);have y:=(a.var i.toNat x z f e).1;rw[u4,e,V6] at j ⊢;exact⟨x,f,Ω,Ω,Ω⟩
theorem wW {i:Int} (h:bV w ac af A R n s t):ai x7 GO [Γ ac,Δ i,Δ v] w λr w'=>r=Δ (if gw n i v then ((e9 s i.toNat+2+v.toNat:Nat):Int) else-1)/\Ext w w':=by
 have aa:=h.2.2.2.1.vars;refine aw func76 ?_;refine aU (λr J=>r= .bool (decide (¬gw n i v))/\Ext w J) ?_ ?_
 .rintro _ J ⟨rfl,q⟩;rw[aj];refine⟨λG=>⟨by rw[if_neg G],q⟩,λf=>?_⟩;have f:=Y3.1 f;obtain⟨x,H,ab,ad,_⟩:=f.var h.2.2.2.1;obtain⟨I,K,M,N,a6,O,L,P,a,B,Q,C,S,V⟩:=(h.ext q).1.parts;have E:=tn H;have ae:=tm h.2.1 h.2.2.1;obtain⟨h1,ag,ak,al⟩:=id f;rw[aO cu.p 2 a rfl,fy (y:=i) (i:=i.toNat) Ω am.u ah.i Ψ C.ls (qT Ω),aP,wrap_i64 Ω Ω,aP,wrap_i64 Ω Ω,if_pos f];refine⟨?_,q⟩;congr 1;omega
 .intro av z;refine (wT h).mono ?_;rintro _ U _ ⟨rfl,j⟩;rw[bG,bY];refine⟨λa=>?_,λa=>?_⟩
  .have a:¬(0<=i/\i<n.sizes.length):=λW=>by rw[decide_eq_true W] at a;cases a
   exact z _ _ ⟨by rw[decide_eq_true];exact λe=>a ⟨e.1,e.2.1⟩,j⟩
  have a:0<=i/\i<n.sizes.length:=by simpa using a
  rw[aR,aj];refine⟨λX=>z _ _ ⟨by rw[decide_eq_true];exact λe=>by have:=e.2.2.1;omega,j⟩,λX=>?_⟩;obtain⟨I,K,M,N,a6,O,L,P,Y,B,Q,C,S,V⟩:=(h.ext j).1.parts;rw[aO cu.p 0 Y rfl];refine (CS B h.2.2.2.2).mono ?_;rintro _ an _ ⟨Z,rfl⟩;rw[if_pos a.1,cY];refine z _ _ ⟨?_,j.trans Z⟩;congr 1;refine decide_eq_decide.2 ⟨λh e=>?_,λh=>?_⟩
  .have:=e.2.2.2;omega
  .refine Int.not_lt.1 λE=>h ⟨a.1,a.2,Ω,E⟩
def hZ (s:au) (i v:Nat):Int:=match s.vars[i]? with
 |some x=>x.un.getD v 0
 |none=>0
theorem n3 {i:Int} (h:bV w ac af A R n s t):ai x7 Gd [Γ ac,Δ i,Δ v] w λr w'=>r=(if gw n i v then .tuple #[Δ (hZ s i.toNat v.toNat),Δ 0] else .tuple #[Δ 0,Δ 1])/\Ext w w':=by
 refine aw func32 ?_;rw[dn dO.u];simp only[Z5,aY];refine (wW h).mono ?_;rintro _ J _ ⟨rfl,e⟩;by_cases a:gw n i v
 .rw[if_pos a,if_pos a];refine cd Ω ?_;obtain⟨x,f,j,C,_⟩:=a.var h.2.2.2.1;obtain⟨E,G,H,I,a6,K,L,M,q,N,y,O,P,Q⟩:=(h.ext e).1.parts;rw[aO cu.p 1 q rfl];have z:t.bK[e9 s i.toNat+2+v.toNat]? =σ (x.un.getD v.toNat 0):=by
   rw[h.2.1,S9,pf f Ω,show 2+v.toNat=v.toNat+1+1 by omega];show x.un[v.toNat]? =_;rw[u4,x6 j];rfl
  refine (mH (i:=e9 s i.toNat+2+v.toNat) y rfl z).mono ?_;rintro _ U _ ⟨rfl,B⟩;refine⟨?_,e.trans B⟩;unfold hZ;rw[f]
 .rw[if_neg a,if_neg a,aR,aj];exact⟨λ_=>⟨rfl,e⟩,λh=>Ω⟩
def gx (s:au) (j:Nat):Bool:=match s.funs[j]? with
 |some f=>decide (f.live≠0)
 |none=>false
theorem wX {j:Int} (h:bV w ac af A R n s t):ai x7 GG [Γ ac,Δ j] w λv w'=>v= .bool (decide (0<=j)&&gx s j.toNat)/\Ext w w':=by
 refine aw func67 ?_;refine aU (λv J=>v= .bool (decide (0<=j)&&gx s j.toNat)/\Ext w J) (λ_ _ h=>h) λav a=>?_;intro U e _ _;rw[cY,aj];refine⟨λq=>?_,λq=>a _ _ ⟨by rw[decide_eq_false q];rfl,e⟩⟩;refine (wU (h.ext e)).mono ?_;rintro _ N _ ⟨rfl,G⟩;have r:=e.trans G;rw[aR,aj];refine⟨λO=>?_,λP=>a _ _ ⟨?_,r⟩⟩
 .obtain⟨Q,S,V,W,a6,X,L,Y,B,Z,H,aa,C,x⟩:=(h.ext r).1.parts;obtain⟨f,z⟩:=aI (l:=s.funs) (i:=j.toNat) Ω;obtain⟨y,E⟩:∃y,L[j.toNat]? =σ y:=⟨_,x6 (by rw[x.1];omega)⟩;obtain⟨_,_,I⟩:=x.2 j.toNat y f E z;rw[aO cu.p 1 B rfl,aO cu.p 3 B rfl,de (i:=j.toNat) Ω fh.u dQ.i C (by rw[x.1];omega),aQ dQ.p rfl,aB (v:=Δ (y.at_:Int)) Ψ (C.range E 2 _ rfl)];have K:t.bK[fa s j.toNat+0]? =σ f.live:=by rw[h.2.1,wq z Ω];rfl
  refine (mH (i:=fa s j.toNat) H (by rw[I]) K).mono ?_;rintro _ ab _ ⟨rfl,M⟩;rw[bL];refine a _ _ ⟨?_,r.trans M⟩;rw[decide_eq_true q,U7];unfold gx;rw[z]
 .unfold gx;rw[Z3 Ω,Bool.and_false]
end
def tq (s:au) (n:aT) (i:Int) (b m:Nat):Prop:=lT b m/\(¬(0<=i/\i<n.sizes.length)->b=0/\m=0)/\ ∀x,0<=i->s.vars[i.toNat]? =σ x->m=x.un.length/\ ∀j:Nat,b.testBit j=(decide (j<x.un.length)&& !dropped x.mask (j:Int))
section
variable {w:x3} {ac af:Nat} {A R:ag} {n:aT} {s:au} {t:aC}
theorem ll {i:Int} (h:bV w ac af A R n s t):ai x7 Gm [Γ ac,Δ i] w λv w'=>(∃b m,v=jn b m/\tq s n i b m)/\Ext w w':=by
 have bn:=h.2.2.2.1.vars;refine aw func44 ?_;refine bB ca.i λf J bo an P=>?_;have P:ab J f ca [.int .u64 0,Δ 0]:=P;refine (wT (h.ext an)).mono ?_;rintro _ U _ ⟨rfl,ao⟩;have Q:=P.ext ao;have S:=an.trans ao;rw[bG,bY];refine⟨λa=>?_,λa=>?_⟩
 .have a:¬(0<=i/\i<n.sizes.length):=λaM=>by rw[decide_eq_true aM] at a;cases a
  rw[dp (cs:=#[.int .u64 0,Δ 0]) Ψ];refine b3 (vs:=[.int .u64 0,Δ 0]) ca.i rfl rfl (by intro u hu;simp at hu;rcases hu with rfl|rfl<;>rfl) Q λbp aN bq aQ=>?_;rw[fz ca.p ca.i rfl aQ.range];refine⟨⟨0,0,rfl,⟨Ω,Ξ⟩,λ_=>⟨rfl,rfl⟩,λx ap aR=>?_⟩,S.put aN Ω⟩;have:=(x4.1 aR).1;exact absurd ⟨ap,Ω⟩ a
 have a:0<=i/\i<n.sizes.length:=by simpa using a
 obtain⟨x,E⟩:=aI (l:=s.vars) (i:=i.toNat) Ω;obtain⟨z,W⟩:=aI (l:=n.sizes) (i:=i.toNat) Ω;have aS:=h.2.2.2.1.fb.2.2 z (x5 W);obtain⟨br,_,bt,bu⟩:=h.2.2.2.1.var i.toNat x z E W;obtain⟨aT,aU,aV,aW,a6,aX,L,aY,G,aq,_⟩:=(h.ext S).1.parts;rw[aO cu.p 0 G rfl];refine (CS aq h.2.2.2.2).mono ?_;rintro _ bw _ ⟨X,rfl⟩;rw[if_pos a.1,u4,W,V6];refine JQ.mono ?_;rintro _ bA _ ⟨Y,rfl⟩;rw[if_pos aS];obtain⟨m,rfl⟩:∃m:Nat,z=m:=⟨z.toNat,Ω⟩;rw[bx,bz,r8];have au:=(S.trans X).trans Y;refine bB ca.i λe bC bE ax aZ=>?_;refine b3 (vs:=[.int .u64 ((2 ^ m-1:Nat):Int),Δ (m:Int)]) ca.i rfl rfl (by intro u hu;simp at hu;rcases hu with rfl|rfl<;>rfl) aZ λay az bF a1=>?_;have z5:=au.size;have aA:Ext w ay:=(au.trans ax).put az Ω;have bI:=(((Q.ext X).ext Y)).lt;have a2:ab ay f ca [.int .u64 0,Δ 0]:=(((Q.ext X).ext Y).ext ax).V az λhe=>by have he:f=e:=he;omega
 intro bJ Z _ _;have aB:=aA.trans Z;obtain⟨aT,aU,aV,aW,a6,aX,L,aY,G,aq,a7,a8,_⟩:=(h.ext aB).1.parts;have bL:=tn E;have bM:=tm h.2.1 h.2.2.1;rw[aO cu.p 1 G rfl,aO cu.p 2 G rfl,fy (y:=i) (i:=i.toNat) Ω am.u ah.i Ψ a8.ls (qT Ω),aP,wrap_i64 Ω Ω];have ba:t.bK[e9 s i.toNat+1]? =σ x.mask:=by rw[h.2.1,pf E Ω];rfl
 refine (mH (i:=e9 s i.toNat+1) a7 Ω ba).mono ?_;rintro _ bb _ ⟨rfl,aa⟩;have aC:=(a1.ext Z).ext aa;have bc:=(a2.ext Z).ext aa;obtain⟨mk,aD⟩:∃mk:Nat,x.mask=mk:=⟨x.mask.toNat,Ω⟩;rw[bD ca.p ca.i rfl (show bb.rangeAt e 0 [.int .u64 ((2 ^ m-1:Nat):Int),Δ (m:Int)] from aC.range)];refine (AC (b:=2 ^ m-1) (n:=m)).mono ?_;rintro _ bN _ ⟨rfl,ad⟩;have bd:=aB.trans aa;have be:f≠e:=Ω
 have bO:=aA.size;have bP:w.heap.size<=e:=Ω
 have bQ:w.heap.size<=f:=Ω
 refine ch.range m (λq B=>Ext w B/\ab B f ca [.int .u64 0,Δ 0]/\ ∃b:Nat,ab B e ca [.int .u64 (b:Int),Δ (m:Int)]/\lT b m/\ ∀j:Nat,b.testBit j=(decide (j<m)&& !(decide (j<q)&&mk.testBit j))) Ω
  ⟨bd.trans ad,bc.ext ad,_,aC.ext ad,⟨Ω,by have:=Nat.two_pow_pos m;omega⟩,λj=>by rw[AA];simp⟩ ?_ ?_
 .rintro q B bf bR ⟨H,I,b,C,K,M⟩ bg;refine bH Ω ?_;refine dm (λN=>Ext w N/\ab N f ca [.int .u64 0,Δ 0]/\ ∃b:Nat,ab N e ca [.int .u64 (b:Int),Δ (m:Int)]/\lT b m/\ ∀j:Nat,b.testBit j=(decide (j<m)&& !(decide (j<q+1)&&mk.testBit j))) ?_ ?_
  .rintro N bi;rw[aP];exact bg _ bi
  intro av aE;have bj:mk / 2 ^ q<2 ^ 62:=Nat.lt_of_le_of_lt (Nat.div_le_self _ _) Ω;rw[aD,BD Ω,show (1:Int)=((1:Nat):Int) from rfl,Dy bj Ω,bh,aj];have aF:(((mk / 2 ^ q &&& 1:Nat):Int)=((1:Nat):Int))↔mk.testBit q=true:=by rw[<-Dz];omega
  refine⟨λae=>?_,λag=>?_⟩
  .have ae:=aF.1 ae;rw[bD ca.p ca.i rfl (show B.rangeAt e 0 [.int .u64 (b:Int),Δ (m:Int)] from C.range)];refine (JS (v:=(q:Int)) K).mono ?_;rintro _ bS _ ⟨rfl,ak⟩;rw[if_pos ⟨Ω,Ω⟩,r8];refine b3 (vs:=[.int .u64 ((jH b (2 ^ q):Nat):Int),Δ (m:Int)]) ca.i rfl rfl (by intro u hu;simp at hu;rcases hu with rfl|rfl<;>rfl) (C.ext ak) λbT aG bU bk=>?_;have aH:∀j:Nat,(jH b (2 ^ q)).testBit j=(decide (j<m)&& !(decide (j<q+1)&&mk.testBit j)):=λj=>by
    rw[Ar,M,Nat.testBit_two_pow];by_cases aJ:j<m
    .by_cases O:j=q
     .subst O;simp[ae]
     .have al:decide (j<q+1)=decide (j<q):=decide_eq_decide.2 ⟨λh=>Ω,λh=>Ω⟩;rw[al,decide_eq_true aJ,decide_eq_true (show j<64 by omega),decide_eq_false (show ¬q=j from λh=>O h.symm)];simp
    .simp[aJ]
   refine aE _ ⟨(H.trans ak).then aG λr bW he=>by have he:r=e:=he;omega,(I.ext ak).V aG λhe=>be he,_,bk,⟨Ω,JJ λj aK=>by rw[aH,decide_eq_false Ω];rfl⟩,aH⟩
  .have ag:mk.testBit q=false:=by simpa using λh=>ag (aF.2 h)
   refine aE _ ⟨H,I,b,C,K,λj=>?_⟩;rw[M];by_cases O:j=q
   .subst O;simp[ag]
   .have al:decide (j<q+1)=decide (j<q):=decide_eq_decide.2 ⟨λh=>Ω,λh=>Ω⟩;rw[al]
 .rintro B bf ⟨H,I,b,C,K,M⟩;refine cd Ω ?_;rw[bD ca.p ca.i rfl (show B.rangeAt e 0 [.int .u64 (b:Int),Δ (m:Int)] from C.range)];refine b3 (vs:=[.int .u64 (b:Int),Δ (m:Int)]) ca.i rfl rfl (by intro u hu;simp at hu;rcases hu with rfl|rfl<;>rfl) I λbX bl bZ bm=>?_;rw[fz ca.p ca.i rfl bm.range];refine⟨⟨b,m,rfl,K,λh=>absurd a h,λy ap aL=>?_⟩,H.put bl Ω⟩;rw[E] at aL;cases aL;refine⟨Ω,λj=>?_⟩;rw[M,aD,Oq,show x.un.length=m by omega];by_cases aK:j<m<;>simp[aK]
theorem wY {f:b0} (e:bq k sizes s) (j:f∈s.funs):b5 f.ad/\f.cs.length=(aL f.ad).toNat/\aL f.ad<=4096:=by
 obtain⟨a,I,_⟩:=e.funs f j;rw[I];refine⟨⟨?_,lZ e.fb.2.2 λv h=>⟨(a.scope.1 v h).1,a.vars v h⟩⟩,a.len,a.small⟩;have:=a.scope.2;simp[bR];exact this
def hg (s:au) (j:Nat) (tl:Λ):Option Nat:=match s.funs[j]? with
 |some f=>if f.live≠0 then (cF f.ad tl 0).map λm=>fa s j+1+m.toNat else ν
 |none=>ν
def l6 (s:au) (j:Nat) (tl:Λ):Int:=match s.funs[j]? with
 |some f=>a7 f.ad f.cs tl
 |none=>0
theorem DE (h:bV w ac af A R n s t) (N:aH .i64 w aM tl):ai x7 GN [Γ ac,Δ (j:Int),aM] w λv w'=>v=Δ (match hg s j tl with|some p=>(p:Int)|none=>-1)/\Ext w w':=by
 refine aw func75 ?_;refine (wX h).mono ?_;rintro _ J _ ⟨rfl,B⟩;rw[decide_eq_true Ω,U7,r8,bG,bY];refine⟨λa=>⟨?_,B⟩,λa=>?_⟩
 .have a:gx s j=false:=by simpa using a
  have:hg s j tl=ν:=by
   unfold hg;unfold gx at a;cases e:s.funs[j]? with
   |none=>rfl
   |some f=>
    rw[e] at a;have a:f.live=0:=by simpa using a
    simp[a]
  rw[this]
 have a:gx s j=true:=by simpa using a
 obtain⟨f,e,O⟩:∃f,s.funs[j]? =σ f/\f.live≠0:=by
  unfold gx at a;cases e:s.funs[j]? with
  |none=>rw[e] at a;cases a
  |some f=>rw[e] at a;exact⟨f,rfl,by simpa using a⟩
 obtain⟨I,ag,ah⟩:=wY h.2.2.2.1 (x5 e);obtain⟨P,Q,S,V,a6,K,L,W,C,X,Y,Z,x,z⟩:=(h.ext B).1.parts;obtain⟨y,r⟩:∃y,L[j]? =σ y:=⟨_,x6 (by rw[z.1];exact (x4.1 e).1)⟩;have E:=(x4.1 r).1;obtain⟨_,aa,M⟩:=z.2 j y f r e;have ab:J.rangeAt K (j*3+1) [y.szv]:=λq v G=>by
  match q,G with
  |0,G=>cases G;exact x.range r 1 _ rfl
 rw[aO cu.p 3 C rfl,de rfl fh.u dQ.i x E,aQ dQ.p rfl,bD (cs:=[y.szv]) bw.p bw.i rfl ab];refine (zL aa.ls (N.ext B) I).mono ?_;rintro _ U _ ⟨rfl,ae⟩;have H:=B.trans ae;unfold kU hg;rw[e];simp only[if_pos O];cases hi:cF f.ad tl 0 with
 |none=>
  simp only[Option.map_none];rw[bx,bz,bL,aj];exact⟨λ_=>⟨trivial,H⟩,λh=>absurd (show (3:Int)≠0 by decide) h⟩
 |some m=>
  simp only[Z4];rw[bx,bz,bL,aj];refine⟨λh=>absurd rfl h,λ_=>?_⟩;have ak:=nz I.2 hi;have al:=DB e;have am:=tm h.2.1 h.2.2.1;obtain⟨P,Q,S,V,a6,K,L,W,C,X,Y,Z,x,z⟩:=(h.ext H).1.parts;obtain⟨y,r⟩:∃y,L[j]? =σ y:=⟨_,x6 (by rw[z.1];exact (x4.1 e).1)⟩;have E:=(x4.1 r).1;obtain⟨_,_,M⟩:=z.2 j y f r e;rw[aO cu.p 3 C rfl,de rfl fh.u dQ.i x E,aQ dQ.p rfl,aB (v:=Δ (y.at_:Int)) Ψ (x.range r 2 _ rfl),M,aP,wrap_i64 Ω Ω,aP,wrap_i64 Ω Ω];refine⟨?_,H⟩;congr 1;omega
theorem DF {p:Nat} (e:bq k sizes s) (h:hg s j tl=σ p):s.cells[p]? =σ (l6 s j tl)/\ ∃f,s.funs[j]? =σ f/\f.live≠0/\ ∃m:Nat,cF f.ad tl 0=σ (m:Int)/\m<f.cs.length/\p=fa s j+(m+1):=by
 unfold hg at h;cases a:s.funs[j]? with
 |none=>rw[a] at h;cases h
 |some f=>
  rw[a] at h;simp only at h;split at h
  .rename_i r;obtain⟨m,hm,rfl⟩:=Y7.1 h;obtain⟨w,x,y⟩:=wY e (x5 a);have z:=nz w.2 hm;obtain⟨q,rfl⟩:∃q:Nat,m=q:=⟨m.toNat,Ω⟩;refine⟨?_,f,rfl,r,q,hm,Ω,Ω⟩;rw[show fa s j+1+(q:Int).toNat=fa s j+(q+1) by omega,wq a Ω];unfold l6 a7;rw[a];simp only[hm];show f.cs[q]? =_;rw[r8,u4,x6 Ω];rfl
  .cases h
theorem qU (h:bV w ac af A R n s t) (e:aH .i64 w aM tl):ai x7 Gc [Γ ac,Δ (j:Int),aM] w λv w'=>v=(if (hg s j tl).isSome then .tuple #[Δ (l6 s j tl),Δ 0] else .tuple #[Δ 0,Δ 1])/\Ext w w':=by
 refine aw func31 ?_;rw[dn dO.u];simp only[Z5,aY];refine (DE h e).mono ?_;rintro _ J _ ⟨rfl,a⟩;cases f:hg s j tl with
 |none=>
  simp only;rw[aR,aj];exact⟨λ_=>⟨rfl,a⟩,λh=>Ω⟩
 |some p=>
  simp only;refine cd Ω ?_;obtain⟨y,z,B,C,a6,E,L,G,q,H,r,I,K,M⟩:=(h.ext a).1.parts;rw[aO cu.p 1 q rfl];refine (mH (i:=p) r rfl (by rw[h.2.1];exact (DF h.2.2.2.1 f).1)).mono ?_;rintro _ U _ ⟨rfl,x⟩;exact⟨rfl,a.trans x⟩
end
theorem eP.parts {a:Nat} {e f q:x1} {A R:ag} {n:aT} {s:au} {t:aC} (h:eP w ac af a e f q A R n s t):∃a6 j L p,ab w ac cu [Γ a,Γ af,e,f,q]/\fT w a n/\dx w af p t/\ap .i64 ah w a6 e (ir s)/\bg l2 3 dQ w j f L/\ld R w L s:=by
 obtain⟨_,a6,j,ge,L,E,p,w0,r,⟨x,y,G⟩,⟨z,H,I,J⟩,B,⟨C,F⟩,K,M⟩:=h;exact⟨a6,j,L,p,r,x.ext y,z,B,C,F⟩
theorem Ot {a b:Int} (e:0<=a/\a<=k) (f:0<=b/\b<=k) (hk:1<=k/\k<=2147483648):ai x7 yX [Δ a,Δ b,Δ k] w λv w'=>v= .tuple #[Δ (min (a+b) k),Δ 0]/\Ext w w':=by
 refine A7.mono ?_;rintro _ J _ ⟨rfl,h⟩;refine⟨?_,h⟩;unfold qg;rw[if_pos ⟨⟨hk,e.1,e.2⟩,hk,f.1,f.2⟩]
def Room (t:aC):Prop:=t.marks=[]\/t.olds.length<100000000
def e5 (s:au) (i v:Nat):au:=match s.vars[i]? with
 |some x=>{s with vars:=s.vars.set i {x with mask:=((x.mask.toNat ||| 2 ^ v:Nat):Int)}}
 |none=>s
theorem bq.tr {s:au} {i:Nat} {x y:bi} (h:bq k sizes s) (e:s.vars[i]? =σ x) (r:y.un.length=x.un.length) (w:∀c∈y.un,0<=c/\c<=k) (hm:0<=y.mask/\y.mask<4294967296):bq k sizes {s with vars:=s.vars.set i y}:=
 ⟨h.fU,h.fb,h.zero,by show (s.vars.set i y).length=_;rw[Z2];exact h.vars,λp z q a f=>by
  have a:(s.vars.set i y)[p]? =σ z:=a;rw[X1] at a;by_cases j:i=p
  .subst j;rw[if_pos rfl,if_pos (x4.1 e).1] at a;cases a;exact⟨r.trans (h.var i x q e f).1,w,hm⟩
  .rw[if_neg j] at a;exact h.var p z q a f,h.funs⟩
theorem bq.DG {s:au} {f g:b0} (h:bq k sizes s) (e:s.funs[j]? =σ f) (h1:g.sc=f.sc) (p:g.ad=f.ad) (q:g.cs.length=f.cs.length) (r:∀c∈g.cs,0<=c/\c<=k):bq k sizes {s with funs:=s.funs.set j g}:=
 ⟨h.fU,h.fb,h.zero,h.vars,h.var,λx a=>by
  rcases X6 a with a|rfl
  .exact h.funs x a
  .obtain⟨⟨w,y,z,A,B,F⟩,C,E⟩:=h.funs f (x5 e);refine⟨⟨?_,?_,?_,?_,?_,r⟩,?_,?_⟩
   .show jp x.sc;rw[h1];exact w
   .show x.sc.Pairwise _;rw[h1];exact y
   .show ∀v∈x.sc,_;rw[h1];exact z
   .show x.cs.length=(aL (bR sizes x.sc)).toNat;rw[h1,q];exact A
   .show aL (bR sizes x.sc)<=_;rw[h1];exact B
   .rw[h1,p];exact C
   .rw[h1];exact E⟩
theorem Ou {r:Nat} {c:List x1} (a:ab w r e c) (he:¬(e=fv\/e=eK\/e=kP\/e=gf\/e=cu\/e=dQ\/e=fZ)):¬eQ w r:=by
 rintro (⟨p,q,f,h⟩|j)
 .rw[ey a f] at he;exact he h
 .exact j _ a rfl
section
variable {w:x3} {ac af:Nat} {A R:ag} {n:aT} {s:au} {t:aC}
theorem mI.set (h:mI t) (a:Room t) (p:Nat) (x:Int):mI (t.set p x):=by
 refine⟨by rw[aC.CX];exact h.1,?_,by rw[aC.wv];exact h.2.2⟩;rcases a with a|a
 .rw[aC.wx a];exact h.2.1
 .have:=aC.CY t p x;omega
theorem DH {s':au} {p:Nat} {x:Int} (h:bV w ac af A R n s t) (z:y=(p:Int)) (a:p<s.cells.length) (B:s.cells.set p x=s'.cells) (I:nV s s') (C:bq n.k n.sizes s') (E:Room t):
  ai x7 y4 [Γ af,Δ y,Δ x] w λr w'=>r=Δ 0/\ae (eQ w) w w'/\ ∃aK,Grow A w aK w'/\bV w' ac af aK R n s' (t.set p x):=by
 obtain⟨G,j,q,_,H⟩:=id h;obtain⟨K,L,M⟩:=G.qM;have N:p<t.cells.length:=by rw[<-j] at a;unfold aC.bK at a;rw[u7] at a;exact a
 refine (tf L.min z N q).mono ?_;rintro _ J _ ⟨rfl,O,e,P⟩;obtain⟨aK,Q,S⟩:=M (λr=>K r\/O r) J _ ⟨e.1.mono λr _ h=>h.1,λr f=>f.elim .inl λh=>(e.2.1 r h).imp (λh=>h.1) id,λr f=>.inl f⟩ (P.mono λr h=>.inr h);exact⟨rfl,e.1.mono λr _ h=>.inl h.2,aK,Q,S.same I,by rw[aC.pX,j,B],q.set E p x,C,H⟩
theorem DI {i:Int} (h:bV w ac af A R n s t) (K:Room t):ai x7 Gy [Γ ac,Δ i,Δ v] w λr w'=>(¬gw n i v->r=Δ 1/\Ext w w')/\
  (gw n i v->r=Δ 0/\ae (eQ w) w w'/\ ∃aK x,Grow A w aK w'/\bV w' ac af aK R n (e5 s i.toNat v.toNat) (t.set (e9 s i.toNat+1) x)):=by
 refine aw func58 ?_;rw[dn dO.u];simp only[Z5,aY];refine (wW h).mono ?_;rintro _ J _ ⟨rfl,f⟩;by_cases e:gw n i v
 rotate_left
 .rw[if_neg e,aR,aj];exact⟨λ_=>⟨λ_=>⟨by trivial,f⟩,λh=>absurd h e⟩,λh=>Ω⟩
 rw[if_pos e];refine cd Ω ?_;obtain⟨x,a,M,ab,ad⟩:=e.var h.2.2.2.1;obtain⟨h1,ag,ak,al⟩:=id e;have an:=h.2.2.2.1.vars;obtain⟨z,N⟩:=aI (l:=n.sizes) (i:=i.toNat) Ω;obtain⟨_,O,ao,ap⟩:=h.2.2.2.1.var i.toNat x z a N;have aq:=tn a;have au:=tm h.2.1 h.2.2.1;obtain⟨av,ax,ay,az,P⟩:=(h.ext f).1;obtain⟨a6,aA,L,aB,E,aC,Q,S,aD,aE⟩:=P.parts;rw[aO cu.p 2 E rfl,fy (y:=i) (i:=i.toNat) Ω am.u ah.i Ψ S.ls (qT Ω),aP,wrap_i64 Ω Ω];intro U j _ _;have V:=f.trans j;have G:=E.ext j;have W:=Q.ext j;obtain⟨q,rfl⟩:∃q:Nat,v=q:=⟨v.toNat,Ω⟩;obtain⟨mk,H⟩:∃mk:Nat,x.mask=mk:=⟨x.mask.toNat,Ω⟩;rw[r8] at M;rw[aO cu.p 1 G rfl,aO cu.p 1 G rfl,Oo Ω];have X:t.bK[e9 s i.toNat+1]? =σ x.mask:=by rw[h.2.1,pf a Ω];rfl
 refine (mH (i:=e9 s i.toNat+1) W Ω X).mono ?_;rintro _ aF _ ⟨rfl,I⟩;refine⟨.inl I,?_⟩;have aG:(2:Nat) ^ q<=2 ^ 31:=T6 Ω Ω;rw[H,On Ω Ω];have B:=V.trans I;have aH:mk ||| 2 ^ q<2 ^ 32:=Nat.or_lt_two_pow Ω Ω;have C:e5 s i.toNat (q:Int).toNat={s with vars:=s.vars.set i.toNat {x with mask:=((mk ||| 2 ^ q:Nat):Int)}}:=by
  unfold e5;rw[a];simp only[H,r8]
 refine (DH (p:=e9 s i.toNat+1) (s':=e5 s i.toNat (q:Int).toNat) (h.ext B) Ω Ω ?_ ?_ ?_ K).mono ?_
 .rw[C,CP a Ω];rfl
 .rw[C];exact CV a rfl
 .rw[C];exact h.2.2.2.1.tr a rfl O ⟨by simp only;omega,by simp only;omega⟩
 rintro _ aJ _ ⟨rfl,Y,aK,Z,aa⟩;exact⟨λh=>absurd e h,λ_=>⟨rfl,jQ B Y,aK,_,(Grow.ext B).trans Z,aa⟩⟩
end
theorem ts {j:x1} (h:aH .i64 w j l):ai x7 F9 [j,Δ v] w λr w'=>r= .bool (decide (v∈l))/\Ext w w':=by
 refine aw func23 ?_;rw[aX am.u h];refine b1.range l.length (λi _ J=>Ext w J/\v∉l.take i) h.le ⟨Ext.refl _,Ξ⟩ ?_ ?_
 .rintro i _ J k hi ⟨a,e⟩ hk;obtain⟨x,f⟩:=aI (l:=l) hi;refine bH Ω ?_;rw[bd am.u ah.i Ψ (h.ext a) f,bh,aj];refine⟨λhe=>⟨by rw[decide_eq_true];rw[<-he];exact x5 f,a⟩,λp=>?_⟩;rw[aP];refine hk _ _ ⟨a,λhm=>?_⟩;rw[u9,f,o7,l7,l9] at hm;rcases hm with hm|hm
  .exact e hm
  .exact p hm.symm
 .rintro _ J k ⟨a,e⟩;rw[o5] at e;rw[aR,aj];exact⟨λh=>Ω,λ_=>⟨by rw[decide_eq_false e],a⟩⟩
theorem DJ {x:bi} (h:0<=v/\v<x.un.length):v∈ay x↔dropped x.mask v=false:=by
 unfold ay;rw[U8,n9];constructor
 .rintro⟨_,a⟩;simpa using a
 .intro a;exact⟨⟨v.toNat,List.mem_range.2 Ω,Ω⟩,by simp[a]⟩
def dD (s:au):Prop:=∀f∈s.funs,f.live≠0-> ∀v∈f.sc,∀x,s.vars[v.toNat]? =σ x->x.gone=0
theorem fT.put {g x:Nat} {c:List x1} {n:aT} (h:fT w x n) (a:ab w g aE c) (f:ae (λr=>r=g) w w'):fT w' x n:=by
 have p:=Dt a;have y:∀r,r=g-> ∃e c,ab w r e c/\e≠hp/\e≠cX/\e≠ah/\e≠al/\e≠ao:=λr j=>by
  subst j;exact⟨_,c,a,Φ,Φ,Φ,Φ,Φ⟩
 obtain⟨z,A,B,C,gr,aS,L,nm,szv,gz,fv2,h1,E,F,G,H,I,J⟩:=h;refine⟨z,A,B,C,gr,aS,L,nm,szv,gz,fv2,wP h1 f p Φ,wP E f p Φ,wO F f p Φ,G.V f λr j=>?_,H,I.V f λr j=>?_,J⟩
 .obtain⟨e,c,a,_,_,_,q,s⟩:=y r j;exact⟨e,c,a,q,s⟩
 .obtain⟨e,c,a,q,s,K,M,_⟩:=y r j;exact⟨e,c,a,q,s,K,M⟩
theorem StateM.put {g:Nat} {A R:ag} {n:aT} {s:au} {t:aC} {c:List x1} (h:StateM w ac af A R n s t) (y:ab w g aE c) (p:ae (λr=>r=g) w w') (S:¬A g):∃R',(∀r,R' r->R r/\r≠g)/\StateM w' ac af A R' n s t:=by
 obtain⟨U,W,X,Y,⟨h1,Z,aa,ad⟩,a6,ah,ge,L,E,ai,w0,aj,⟨K,C,ak⟩,⟨al,M,am,an⟩,ao,⟨ap,N⟩,aq,O⟩:=h;obtain⟨ct,P⟩:=CI;have z:=p.size;have q:=Dt y;have B:∀r,(w0.heap.setIfInBounds g ct)[r]? =if g=r then (if g<w0.heap.size then σ ct else ν) else w0.heap[r]?:=λr=>Array.getElem?_setIfInBounds;have av:∀r,A r->r≠g:=λr a he=>S (he▸a);have int:∀ {v:x1} {l:Λ},iV R w v l->iV (λr=>R r/\r≠g) w' v l:=λ⟨⟨aw,hm⟩,ax⟩=>⟨⟨aw,wO hm p q Φ⟩,λr a=>⟨ax r a,cc hm y Φ a⟩⟩;refine⟨λr=>R r/\r≠g,λr h=>h,U,W,X,Y,⟨h1,λr a ay=>Z r a ay.1,λr a=>by have:=aa r a.1;omega,λr a=>by have:=ad r a;omega⟩,a6,ah,ge,L,E,ai,{w0 with heap:=w0.heap.setIfInBounds g ct},wP aj p q Φ,⟨?_,?_,?_⟩,
  ⟨al.V p λr a=>av r (M r a),M,am,an⟩,wO ao p q Φ,⟨Ds ap p q Φ,N.1,λj x f F az=>?_⟩,Ds aq p q Φ,O.1,λj x e F he=>?_⟩
 .by_cases I:∃o,w0.heap[g]? =σ o/\fp o=true
  .obtain⟨o,Q,aA⟩:=I;have aB:ab w0 g aE c:=by
    unfold ab at y ⊢;have:=C.aW g o Q aA;rw[y] at this;rw[Q,this]
   refine K.put aB ⟨Ξ,λr o a I aD=>?_⟩;show (w0.heap.setIfInBounds g ct)[r]? =σ o;rw[B,if_neg λhe=>aD he.symm];exact a
  .refine K.ext ⟨Ξ,λr o a aF=>?_⟩;show (w0.heap.setIfInBounds g ct)[r]? =σ o;rw[B,if_neg λhe=>I ⟨o,by rw[he];exact a,aF⟩];exact a
 .refine⟨by show (w0.heap.setIfInBounds g ct).size<=_;rw[Array.size_setIfInBounds];exact Y5 C.size z,λr o a I=>?_⟩;have a:(w0.heap.setIfInBounds g ct)[r]? =σ o:=a;rw[B] at a;by_cases he:g=r
  .rw[if_pos he] at a;split at a
   .cases a;rw[P] at I;cases I
   .cases a
  .rw[if_neg he] at a;exact p.aW r o (C.aW r o a I) I λh=>he h.symm
 .intro r o a I;have a:(w0.heap.setIfInBounds g ct)[r]? =σ o:=a;rw[B] at a;by_cases he:g=r
  .rw[if_pos he] at a;split at a
   .cases a;rw[P] at I;cases I
   .cases a
  .rw[if_neg he] at a;exact⟨ak r o a I,λh=>he h.symm⟩
 .obtain⟨G,H,J⟩:=N.2 j x f F az;exact⟨int G,int H,J⟩
 .obtain⟨G,H,J⟩:=O.2 j x e F he;exact⟨G,int H,int J⟩
theorem Ov {pl:Λ} {f:b6} (j:pl.length<=60000) (h:gk pl=σ f):∃N,N<=60000/\e7 N f/\f.name≠[]/\ ∀b∈f.name,bN b=true:=by
 unfold gk at h;rw[if_neg Ω] at h;cases a:hR ⟨(lex pl).1,0,false,[]⟩ with
 |none=>rw[a] at h;cases h
 |some q=>
  obtain⟨p,s⟩:=q;rw[a] at h;simp only at h;split at h
  .rename_i az;cases h;obtain⟨h1,e⟩:=A1 rfl a az.2.2;have r:=pV pl.length pl (o4 _);obtain⟨J,U,_⟩:=sd pl.length pl (o4 _) f.name e;exact⟨_,by show (lex pl).1.length<=60000;omega,h1,J,U⟩
  .cases h
theorem Ow:ai x7 yU [.pointer ν] w λv w'=>v= .pointer ν/\Ext w w':=by
 refine aw func37 ?_;rw[dn mn.u];simp only[Option.isNone_none,bS];exact⟨by trivial,Ext.refl _⟩
theorem Ox {v:x1} (h:aH .u8 w v l) (B:l.length<=100000):ai x7 Ge [v] w λf w'=>Ext w w'/\ ∃g,ap .u8 cI w' g f l:=by
 have e:=h;obtain⟨C,b,o,base,cap,rfl,E,hm,q,s⟩:=h;refine aw func33 ?_;rw[pS cP.u,bY];refine⟨λx=>⟨Ext.refl _,0,?_⟩,λ_=>?_⟩
 .have:l=[]:=by
   cases base with
   |none=>
        by_cases e:0<l.length
        .have:=q e;cases this
        .exact b9 Ω
   |some a=>cases x
  subst this;exact ap.nil _ _ _ _
 .refine wQ (k:=.u8) cP.u cI.i λG g1 J H j p=>?_;refine gO cP.u cI.i rfl p (e.ext j) Θ Θ λf y U z I A=>?_;exact⟨j.then A (λr s he=>by have:=(bP p he).1;omega),y,by simpa using z⟩
def Oy (sv:x1):Prop:=∃cs:List x1,sv= .agg cs.toArray/\cs.length=8/\ ∀u∈cs,u.oneCell'=true
theorem DK:Oy (.agg z12.toArray):=⟨z12,rfl,rfl,by intro u hu;simp[z12] at hu;rcases hu with rfl|rfl|rfl|rfl<;>rfl⟩
theorem wZ {N:Nat} {f:b6} (a:e7 N f):(dt f).funs.length<=256:=by
 have h1:=(qx a).2.length_eq;have h:=(k7 a).2.2;have j:=List.length_filter_le fB (fl f);have p:=a.k0;have e:=(pd f (fC f).length).2.2.2;rw[td] at e;omega
theorem Oz {n:aT} {t:aC} (e:jO n) (f:n.funs.length<=256) (h:t.bK=(du n).cells) (a:Plain t):mI t:=by
 have h1:=tj e f n.unary.length n.funs.length;rw[wC,<-h] at h1;unfold aC.bK at h1;rw[u7] at h1;refine⟨Ω,?_,?_⟩
 .rw[a.2.1];exact X3 _
 .rw[a.1];exact X3 _
def tt (B:Nat) (w:x3) (a:x1) (cs:List x1) (f:b6):Prop:=∃ac af A R t N A9 aG,e7 N f/\a=Γ ac/\bV w ac af A R (dt f) (du (dt f)) t/\Plain t/\(∀r,A r->B<=r)/\
 gv true A9 aG w cs (dt f).k (dt f).sizes (du (dt f))/\(∀q r,A9 q r->¬A r/\¬R r/\B<=r)/\(∀r,aG r->¬eQ w r/\r<w.heap.size/\B<=r)/\ ∀r,R r->B<=r
def OA (w:x3) (q:Λ) (v:x1) (w':x3):Prop:=Ext w w'/\ ∃a cs ok,v= .tuple #[a,.agg cs.toArray,.bool ok]/\(cs.length=8/\ ∀u∈cs,u.oneCell'=true)/\((ok=false/\a= .pointer ν)\/(ok=true/\ ∃f,gk q=σ f/\tt w.heap.size w' a cs f))/\ ∀f,gk q=σ f->l0 f.funs<=16384->ok=true
section
variable {w:x3} {ac af:Nat} {A R:ag} {n:aT} {s:au} {t:aC}
theorem OB {j:Int} (h:bV w ac af A R n s t) (p:¬(0<=j/\j<s.funs.length)):ai x7 rP [Γ ac,Δ j] w λr w'=>r= .slice ν 0 0/\Ext w w':=by
 refine aw func120 ?_;refine aU (λv J=>v= .bool true/\Ext w J) ?_ ?_
 .rintro _ J ⟨rfl,e⟩;rw[bS];exact⟨rfl,e⟩
 intro av a;rw[aR,aj];refine⟨λ_=>a _ _ ⟨rfl,Ext.refl _⟩,λq=>?_⟩;refine (wU h).mono ?_;rintro _ x _ ⟨rfl,f⟩;rw[cY];exact a _ _ ⟨by rw[decide_eq_true Ω],f⟩
end
section
variable {w:x3} {B:Nat} {sv:x1} {k:Int} {sizes:Λ} {s:au}
end
def iu:List (Λ)->List (Λ)
 |[]=>[[]]
 |d::a=>d.flatMap λv=>(iu a).map (v:: ·)
theorem tu:∀ {e:List (Λ)} {t:Λ},t∈iu e↔t.length=e.length/\ ∀ (p:Nat) d v,e[p]? =σ d->t[p]? =σ v->v∈d
 |[],t=>by
  simp only[iu,l9];exact⟨λh=>by subst h;exact⟨rfl,λp d v h=>by simp at h⟩,λh=>b9 h.1⟩
 |d::e,t=>by
  simp only[iu,List.mem_flatMap,n9];constructor
  .rintro⟨v,q,br,r,rfl⟩;obtain⟨h1,f⟩:=tu.1 r;refine⟨by simp[h1],λp j u a hu=>?_⟩;cases p with
   |zero=>simp at a hu;subst a hu;exact q
   |succ p=>exact f p j u (by simpa using a) (by simpa using hu)
  .rintro⟨h1,f⟩;cases t with
   |nil=>simp at h1
   |cons v br=>exact⟨v,f 0 d v rfl rfl,br,tu.2 ⟨by simpa using h1,λp j u a hu=>f (p+1) j u (by simpa using a) (by simpa using hu)⟩,rfl⟩
def mO:List (Int->Bool)->Λ->Bool
 |q::a,v::t=>q v&&mO a t
 |_,_=>true
theorem DL:∀ (j:List (Λ)) (a:List (Int->Bool)),a.length=j.length->iu ((j.zip a).map λp=>p.1.filter p.2)=(iu j).filter (mO a)
 |[],[],_=>rfl
 |d::j,q::a,h=>by
  have r:=DL j a (by simpa using h);simp only[List.zip_cons_cons,V4,iu];rw[r];clear r h;induction d with
  |nil=>rfl
  |cons v d s=>
   rw[Y6,List.filter_append,<-s];have e:((iu j).map (v:: ·)).filter (mO (q::a))=if q v then ((iu j).filter (mO a)).map (v:: ·) else[]:=by
    rw[List.filter_map];by_cases f:q v=true
    .rw[if_pos f];congr 1;apply List.filter_congr;intro t _;show (q v&&mO a t)=_;rw[f,U7]
    .rw[if_neg f];rw[List.filter_eq_nil_iff.2 λt _=>by show ¬(q v&&mO a t)=true;simp[f]];rfl
   rw[e];by_cases f:q v=true
   .rw[if_pos f,List.filter_cons_of_pos f,Y6]
   .rw[if_neg f,List.filter_cons_of_neg f];rfl
def hD (k:Int):Λ:=(V1 k.toNat).map λv:Nat=>(v:Int)
theorem w1:∀ (s:Λ),ba s=iu (s.map hD)
 |[]=>rfl
 |k::s=>by
  simp only[ba,V4,iu,hD,List.flatMap_map,<-w1 s]
theorem tv:v∈hD k↔0<=v/\v<k:=by
 unfold hD;rw[n9];constructor
 .rintro⟨n,a,rfl⟩;have:=List.mem_range.1 a;omega
 .intro h;exact⟨v.toNat,List.mem_range.2 Ω,Ω⟩
def c6 (f:Int->Int) (L:List (Λ)) (ad cs:Λ):Λ:=((ba ad).zip cs).map λp=>if p.1∈L then f p.2 else p.2
theorem jV (f:Int->Int) (L:List (Λ)) (ad cs:Λ) (h:cs.length<=(ba ad).length):(c6 f L ad cs).length=cs.length:=by
 unfold c6;rw[u7,List.length_zip];omega
theorem l8 {f:Int->Int} {cs:Λ} {i:Nat} (a:(ba ad)[i]? =σ t) (e:cs[i]? =σ c):(c6 f L ad cs)[i]? =σ (if t∈L then f c else c):=by
 unfold c6;have h:((ba ad).zip cs)[i]? =σ (t,c):=List.getElem?_zip_eq_some.2 ⟨a,e⟩;rw[x8,h];rfl
theorem OC {f:Int->Int} {cs:Λ} {i:Nat} (I:dB ad) (q:cs.length<=(ba ad).length) (p:(ba ad)[i]? =σ t) (r:cs[i]? =σ c) (x:t∉L):(c6 f L ad cs)[i]? =σ c/\(c6 f L ad cs).set i (f c)=c6 f (L++[t]) ad cs:=by
 have h1:=l8 (f:=f) (L:=L) p r;rw[if_neg x] at h1;refine⟨h1,?_⟩;apply Y2;intro j;rw[X1];by_cases s:i=j
 .subst s;rw[if_pos rfl,if_pos (x4.1 h1).1,l8 p r,if_pos Ξ]
 .rw[if_neg s];cases a:cs[j]? with
  |none=>
   have:=List.getElem?_eq_none_iff.1 a;rw[Z3 (by rw[jV _ _ _ _ q];exact this),Z3 (by rw[jV _ _ _ _ q];exact this)]
  |some A=>
   obtain⟨u,hu⟩:∃u,(ba ad)[j]? =σ u:=⟨_,x6 (by have:=(x4.1 a).1;omega)⟩;rw[l8 hu a,l8 hu a];have y:u≠t:=λhe=>by
    subst he;have z:=iN I p;have w:=iN I hu;rw[z] at w;have:=c8 w;omega
   have:u∈L++[t]↔u∈L:=by simp[y]
   by_cases e:u∈L
   .rw[if_pos e,if_pos (this.2 e)]
   .rw[if_neg e,if_neg λh=>e (this.1 h)]
def jT (s:au) (i v:Nat) (c:Int):au:=match s.vars[i]? with
 |some x=>{s with vars:=s.vars.set i {x with un:=x.un.set v c}}
 |none=>s
def jU (s:au) (j m:Nat) (c:Int):au:=match s.funs[j]? with
 |some f=>{s with funs:=s.funs.set j {f with cs:=f.cs.set m c}}
 |none=>s
theorem qV {i:Nat} (h:∀x∈l,0<=x/\x<=k) (e:0<=c/\c<=k):∀x∈l.set i c,0<=x/\x<=k:=λx a=>by
 rcases X6 a with a|rfl
 .exact h x a
 .exact e
def mP (w:x3) (ac af:Nat) (A R:ag) (n:aT) (s':au) (t:aC) (v:x1) (w':x3):Prop:=v=Δ 0/\ae (eQ w) w w'/\ ∃aK p x,Grow A w aK w'/\bV w' ac af aK R n s' (t.set p x)
theorem mP.ext {J:x3} {A R:ag} {n:aT} {s':au} {t:aC} {v:x1} (a:Ext w J) (h:mP J ac af A R n s' t v w'):mP w ac af A R n s' t v w':=by
 obtain⟨h1,e,aK,p,x,f,j⟩:=h;exact⟨h1,jQ a e,aK,p,x,(Grow.ext a).trans f,j⟩
section
variable {w:x3} {ac af:Nat} {A R:ag} {n:aT} {s:au} {t:aC}
theorem qW (h:bV w ac af A R n s t) (f:y<0\/¬(0<=c/\c<=n.k)):ai x7 zf [Γ ac,Δ y,Δ c] w λv w'=>v=Δ (if y<0 then 1 else 3)/\Ext w w':=by
 refine aw func181 ?_;rw[dn dO.u];simp only[Z5,aY];rw[aR,aj];refine⟨λe=>⟨by rw[if_pos e],Ext.refl _⟩,λe=>?_⟩;refine (n2 h).mono ?_;rintro _ J _ ⟨rfl,j⟩;refine (jG (a:=c) (k:=n.k)).mono ?_;rintro _ U _ ⟨rfl,p⟩;have q:=f.resolve_left e;rw[decide_eq_false (λh=>q h.2),bG,W5,bS,if_neg e];exact⟨rfl,j.trans p⟩
theorem w2 {s':au} {p:Nat} (h:bV w ac af A R n s t) (f:Room t) (j:y=(p:Int)) (q:p<s.cells.length) (r:s.cells.set p c=s'.cells) (I:nV s s') (x:bq n.k n.sizes s') (z:0<=c/\c<=n.k):
  ai x7 zf [Γ ac,Δ y,Δ c] w (mP w ac af A R n s' t):=by
 refine aw func181 ?_;rw[dn dO.u];simp only[Z5,aY];refine cd Ω ?_;refine (n2 h).mono ?_;rintro _ J _ ⟨rfl,B⟩;refine (jG (a:=c) (k:=n.k)).mono ?_;rintro _ U _ ⟨rfl,C⟩;have e:=B.trans C;rw[decide_eq_true (show cw c n.k from⟨h.2.2.2.1.fU,z⟩),bG,Y4,aY];obtain⟨M,N,O,P,a6,Q,L,S,E,V,W,X,Y,Z⟩:=(h.ext e).1.parts;rw[aO cu.p 1 E rfl];refine (DH (h.ext e) j q r I x f).mono ?_;rintro _ aa _ ⟨rfl,G,aK,H,K⟩;exact mP.ext e ⟨rfl,G,aK,_,_,H,K⟩
theorem OD (h:bV w ac af A R n s t) (e:Room t):ai x7 Hj [Γ ac,Δ c] w λv w'=>(¬(0<=c/\c<=n.k)->v=Δ 3/\Ext w w')/\((0<=c/\c<=n.k)->mP w ac af A R n {s with zero:=c} t v w'):=by
 refine aw func126 ?_;by_cases a:0<=c/\c<=n.k
 .refine (w2 (p:=0) h e rfl (by unfold au.cells iU;simp) (Nj s c) (CU s c) ⟨h.2.2.2.1.fU,h.2.2.2.1.fb,a,h.2.2.2.1.vars,h.2.2.2.1.var,h.2.2.2.1.funs⟩ a).mono ?_;rintro v J _ f;exact⟨λh=>absurd a h,λ_=>f⟩
 .refine (qW h (.inr a)).mono ?_;rintro v J _ ⟨rfl,j⟩;exact⟨λ_=>⟨rfl,j⟩,λh=>absurd h a⟩
theorem DM {i:Int} (h:bV w ac af A R n s t) (B:Room t):ai x7 Hi [Γ ac,Δ i,Δ v,Δ c] w λr w'=>
  (¬gw n i v->r=Δ 1/\Ext w w')/\(gw n i v->¬(0<=c/\c<=n.k)->r=Δ 3/\Ext w w')/\(gw n i v->(0<=c/\c<=n.k)->mP w ac af A R n (jT s i.toNat v.toNat c) t r w'):=by
 refine aw func125 ?_;refine (wW h).mono ?_;rintro _ J _ ⟨rfl,e⟩;by_cases a:gw n i v
 .rw[if_pos a];by_cases j:0<=c/\c<=n.k
  .obtain⟨x,f,H,I,_⟩:=a.var h.2.2.2.1;have K:=h.2.2.2.1.vars;obtain⟨z,C⟩:∃z,n.sizes[i.toNat]? =σ z:=⟨_,x6 (by have:=a.1;have:=a.2.1;omega)⟩;obtain⟨_,E,hm⟩:=h.2.2.2.1.var i.toNat x z f C;have L:=tn f;have q:jT s i.toNat v.toNat c={s with vars:=s.vars.set i.toNat {x with un:=x.un.set v.toNat c}}:=by unfold jT;rw[f]
   refine (w2 (p:=e9 s i.toNat+(2+v.toNat)) (s':=jT s i.toNat v.toNat c) (h.ext e) B Ω Ω ?_ ?_ ?_ j).mono ?_
   .rw[q];refine CP f Ω ?_;rw[show 2+v.toNat=v.toNat+1+1 by omega];rfl
   .rw[q];exact CV f Ξ
   .rw[q];exact h.2.2.2.1.tr f Ξ (qV E j) hm
   .rintro r U _ G;exact⟨λh=>absurd a h,λ_ h=>absurd j h,λ_ _=>G.ext e⟩
  .refine (qW (h.ext e) (.inr j)).mono ?_;rintro r U _ ⟨rfl,y⟩;rw[if_neg Ω];exact⟨λh=>absurd a h,λ_ _=>⟨rfl,e.trans y⟩,λ_ h=>absurd h j⟩
 .rw[if_neg a];refine (qW (h.ext e) (.inl Ω)).mono ?_;rintro r U _ ⟨rfl,y⟩;rw[if_pos Ω];exact⟨λ_=>⟨rfl,e.trans y⟩,λh=>absurd h a,λh=>absurd h a⟩
theorem OE (h:bV w ac af A R n s t) (C:Room t) (E:aH .i64 w aM tl):ai x7 Hh [Γ ac,Δ (j:Int),aM,Δ c] w λr w'=>
  (hg s j tl=ν->r=Δ 1/\Ext w w')/\((hg s j tl).isSome=true->¬(0<=c/\c<=n.k)->r=Δ 3/\Ext w w')/\
  ((hg s j tl).isSome=true->(0<=c/\c<=n.k)-> ∀f (m:Nat),s.funs[j]? =σ f->cF f.ad tl 0=σ (m:Int)->mP w ac af A R n (jU s j m c) t r w'):=by
 refine aw func124 ?_;refine (DE h E).mono ?_;rintro _ J _ ⟨rfl,e⟩;cases G:hg s j tl with
 |none=>
  simp only;refine (qW (h.ext e) (.inl Ω)).mono ?_;rintro r U _ ⟨rfl,x⟩;rw[if_pos Ω];exact⟨λ_=>⟨rfl,e.trans x⟩,λh=>by simp at h,λh=>by simp at h⟩
 |some p=>
  simp only;by_cases q:0<=c/\c<=n.k
  .obtain⟨K,f,a,L,m,hm,M,rfl⟩:=DF h.2.2.2.1 G;have N:=DB a;have y:jU s j m c={s with funs:=s.funs.set j {f with cs:=f.cs.set m c}}:=by unfold jU;rw[a]
   obtain⟨H,_⟩:=h.2.2.2.1.funs f (x5 a);refine (w2 (p:=fa s j+(m+1)) (s':=jU s j m c) (h.ext e) C rfl Ω ?_ ?_ ?_ q).mono ?_
   .rw[y];exact Nk a Ω rfl
   .rw[y];exact Nt a Ξ rfl rfl
   .rw[y];exact h.2.2.2.1.DG a rfl rfl Ξ (qV H.im q)
   .rintro r U _ I;refine⟨(λh=>by cases h),λ_ h=>absurd q h,λ_ _ O cn z B=>?_⟩;rw[a] at z;cases z;rw[hm] at B;have:cn=m:=by have:=c8 B;omega
    subst this;exact I.ext e
  .refine (qW (h.ext e) (.inr q)).mono ?_;rintro r U _ ⟨rfl,x⟩;rw[if_neg Ω];exact⟨(λh=>by cases h),λ_ _=>⟨rfl,e.trans x⟩,λ_ h=>absurd h q⟩
end
theorem mQ {s:au} {n:aT} {i:Int} {b m:Nat} {x:bi} (h:tq s n i b m) (e:0<=i) (f:s.vars[i.toNat]? =σ x):(gm b m).map (λv:Nat=>(v:Int))=ay x:=by
 obtain⟨_,_,j⟩:=h;obtain⟨rfl,p⟩:=j x e f;unfold gm ay;rw[List.filter_map];congr 1;refine List.filter_congr λq a=>?_;have a:=List.mem_range.1 a;rw[p,decide_eq_true a,U7];rfl
section
variable {w:x3} {ac af:Nat} {A R:ag} {n:aT} {s:au} {t:aC}
end
theorem OF {x:bi} (h:v∈ay x):0<=v/\v<x.un.length:=by
 unfold ay at h;obtain⟨h,_⟩:=U8.1 h;obtain⟨q,a,rfl⟩:=n9.1 h;have:=List.mem_range.1 a;omega
theorem OG {s:au} {n:aT} {i:Int} {b m:Nat} {x:bi} (h:tq s n i b m) (f:0<=i) (j:s.vars[i.toNat]? =σ x):(decide (0<=v/\v<m)&&b.testBit v.toNat)=decide (v∈ay x):=by
 obtain⟨_,_,p⟩:=h;obtain⟨rfl,q⟩:=p x f j;by_cases a:0<=v/\v<x.un.length
 .rw[decide_eq_true a,U7,q,decide_eq_true (show v.toNat<x.un.length by omega),U7,show ((v.toNat:Nat):Int)=v by omega];have:=DJ a;cases e:dropped x.mask v with
  |false=>rw[decide_eq_true (this.2 e)];rfl
  |true=>rw[decide_eq_false λh=>by rw[this.1 h] at e;cases e];rfl
 .rw[decide_eq_false a,decide_eq_false λh=>a (OF h)];rfl
section
variable {w:x3} {ac af:Nat} {A R:ag} {n:aT} {s:au} {t:aC}
theorem w3 {f:b0} (h:bV w ac af A R n s t) (a:s.funs[j]? =σ f):ai x7 rP [Γ ac,Δ (j:Int)] w λr w'=>Ext w w'/\ ∃g,w.heap.size<=g/\ap .i64 ah w' g r f.sc:=by
 have I:=(x4.1 a).1;refine aw func120 ?_;refine aU (λv J=>v= .bool false/\Ext w J) ?_ ?_
 .rintro _ J ⟨rfl,e⟩;rw[aY];obtain⟨K,M,N,O,a6,P,L,Q,B,S,V,W,x,q⟩:=(h.ext e).1.parts;obtain⟨y,z⟩:∃y,L[j]? =σ y:=⟨_,x6 (by rw[q.1];omega)⟩;obtain⟨C,_,_⟩:=q.2 j y f z a;rw[aO cu.p 3 B rfl,de rfl fh.u dQ.i x (by rw[q.1];omega),aQ dQ.p rfl,aB (v:=y.aF) Ψ (x.range z 0 _ rfl)];have X:f.sc.length<=6:=(h.2.2.2.1.funs f (x5 a)).1.scope.2;refine (kV C.ls Ω).mono ?_;rintro v U _ ⟨E,g,Y,hm⟩;have:=e.size;exact⟨e.trans E,g,Ω,hm⟩
 intro av G;rw[aR,aj];refine⟨λZ=>Ω,λ_=>?_⟩;refine (wU h).mono ?_;rintro _ aa _ ⟨rfl,H⟩;rw[cY];exact G _ _ ⟨by rw[decide_eq_false Ω],H⟩
end
def cT (s:au) (i:Int):Λ:=match s.vars[i.toNat]? with
 |some x=>ay x
 |none=>[]
section
variable {ac af:Nat} {A R:ag} {n:aT} {s:au} {t:aC}
end
def h0 (s:au) (pos:Nat) (v:Int):Λ->Nat->List (Λ)
 |[],_=>[]
 |u::sc,p=>(if p=pos then[v] else cT s u)::h0 s pos v sc (p+1)
def bW (s:au) (sc:Λ) (pos:Nat) (v:Int):List (Λ):=iu (h0 s pos v sc 0)
def n4 (s:au) (pos:Nat) (v:Int):Λ->Nat->List (Int->Bool)
 |[],_=>[]
 |u::sc,p=>(λx=>(decide (p=pos->x=v))&&decide (x∈cT s u))::n4 s pos v sc (p+1)
theorem OH (h:0<=v/\v<k):(hD k).filter (λx=>decide (x=v))=[v]:=by
 have f:(hD k).Nodup:=by
  unfold hD;exact List.Pairwise.map _ (λa b s=>Ω) List.nodup_range
 have hm:v∈hD k:=tv.2 h;generalize hD k=l at f hm;induction l with
 |nil=>cases hm
 |cons a l p=>
  have j:=List.nodup_cons.1 f;by_cases e:a=v
  .subst e;rw[List.filter_cons_of_pos Ξ,List.filter_eq_nil_iff.2 λx q=>by simp;intro r;exact j.1 (r▸q)]
  .rw[List.filter_cons_of_neg (by simpa using e)];exact p j.2 ((W6.1 hm).resolve_left (S3 e))
section
variable {k:Int} {sizes:Λ} {s:au} {v:Int} {pos:Nat}
theorem OI {u:Int} (a:bq k sizes s) (h:0<=u/\u<sizes.length):(hD (sizes.getD u.toNat 0)).filter (λx=>decide (x∈cT s u))=cT s u:=by
 have w:=a.vars;obtain⟨x,j⟩:=aI (l:=s.vars) (i:=u.toNat) Ω;obtain⟨z,f⟩:=aI (l:=sizes) (i:=u.toNat) Ω;have h1:=(a.var _ x z j f).1;have e:cT s u=ay x:=by unfold cT;rw[j]
 have p:sizes.getD u.toNat 0=z:=by rw[u4,f];rfl
 have A:=a.fb.2.2 z (x5 f);have q:ay x=(hD z).filter λv=>!dropped x.mask v:=by unfold ay hD;rw[h1]
 rw[e,p,q];refine List.filter_congr λy r=>?_;simp[U8,r]
theorem DN (r:bq k sizes s):∀ (sc:Λ) (p:Nat),(∀u∈sc,0<=u/\u<sizes.length)->(∀u,p<=pos->sc[pos-p]? =σ u->v∈cT s u)->
  h0 s pos v sc p=(((bR sizes sc).map hD).zip (n4 s pos v sc p)).map λq=>q.1.filter q.2
 |[],p,_,_=>rfl
 |u::sc,p,hu,w=>by
  have y:=DN r sc (p+1) (λu h=>hu u (.tail _ h)) λu' a h=>w u' Ω (by rw[show pos-p=(pos-(p+1))+1 by omega];exact h);have z:=hu u (.head _);have f:=OI (s:=s) r z;show (if p=pos then[v] else cT s u)::h0 s pos v sc (p+1)=(hD (sizes.getD u.toNat 0)).filter (λx=>decide (p=pos->x=v)&&decide (x∈cT s u))::((((bR sizes sc).map hD).zip (n4 s pos v sc (p+1))).map λq=>q.1.filter q.2);rw[<-y];congr 1;by_cases a:p=pos
  .rw[if_pos a];have j:v∈cT s u:=w u Ω (by rw[a,U1];rfl);have A:v∈hD (sizes.getD u.toNat 0):=by rw[<-f] at j;exact (U8.1 j).1
   rw[<-OH (tv.1 A)];refine List.filter_congr λx _=>?_;by_cases e:x=v
   .subst e;simp[j]
   .simp[e,a]
  .rw[if_neg a,<-f];refine (List.filter_congr λx B=>?_).symm;rw[f];simp[a]
theorem DO:∀ (sc:Λ) (p:Nat),(n4 s pos v sc p).length=sc.length
 |[],_=>rfl
 |u::sc,p=>by unfold n4;rw[Z0,DO sc (p+1),Z0]
theorem w4 (a:bq k sizes s) (e:∀u∈sc,0<=u/\u<sizes.length) (f:∀u,sc[pos]? =σ u->v∈cT s u):
  bW s sc pos v=(ba (bR sizes sc)).filter (mO (n4 s pos v sc 0)):=by
 unfold bW;rw[DN a sc 0 e λu _ h=>f u h,DL _ _ (by rw[DO,u7];unfold bR;rw[u7]),w1]
end
theorem w5 {k:Int}:∀ (l:Λ) (z:Int),z<=k->(∀c∈l,0<=c)->l.foldl (λa c=>min (a+c) k) z=min (z+l.sum) k
 |[],z,h,_=>Θ
 |c::l,z,h,e=>by
  have I:∀ (l:Λ),(∀c∈l,0<=c)->0<=l.sum:=λl=>by
   induction l with
   |nil=>intro _;simp
   |cons a l f=>intro h;have:=f λc e=>h c (.tail _ e);have:=h a (.head _);rw[List.sum_cons];omega
  have h1:=e c (.head _);have j:=I l λc h=>e c (.tail _ h);rw[List.foldl_cons,w5 l _ Ω λc h=>e c (.tail _ h),List.sum_cons];omega
def dy (p:bi×Int):Int:=if p.1.gone≠0 then 0 else p.1.un.getD p.2.toNat 0
def fd (a:Λ) (f:b0):Int:=if f.live≠0 then a7 f.ad f.cs (qI a f.sc) else 0
theorem foldl_map' {α β e:Type} (g:α->β) (h:e->β->e) (h':e->α->e) (P:e->Prop) (az:∀c a,P c->h' c a=h c (g a)) (f:∀c a,P c->P (h' c a)):∀ (l:List α) (c:e),P c->l.foldl h' c=(l.map g).foldl h c
 |[],_,_=>rfl
 |a::l,c,j=>by
  rw[List.foldl_cons,V4,List.foldl_cons,<-az c a j];exact foldl_map' g h h' P az f l _ (f c a j)
theorem w6 {i:Nat} {x:Int} (h:l[i]? =σ x):(l.set i y).sum=l.sum-x+y:=by
 induction l generalizing i with
 |nil=>simp at h
 |cons a l e=>
  cases i with
  |zero=>simp at h;subst h;rw[List.set_cons_zero,List.sum_cons,List.sum_cons];omega
  |succ i=>
   rw[List.set_cons_succ,List.sum_cons,List.sum_cons,e (by simpa using h)];omega
def cH (k a c:Int):Int:=if a=k then k else a-c
def cr (k a c:Int):Int:=min (a+c) k
theorem tw {r g u:Int} (a:0<=r) (e:c<=g/\g<=k) (hu:0<=u/\u<=k) (f:0<=c):min (r+cH k g c+cr k u c) k=min (r+g+u) k:=by
 unfold cH cr;split<;>omega
theorem qX:∀ (l:Λ),(∀c∈l,0<=c)->0<=l.sum
 |[],_=>Ξ
 |a::l,h=>by have:=qX l λc e=>h c (.tail _ e);have:=h a (.head _);rw[List.sum_cons];omega
theorem qY:∀ {l:Λ} {i:Nat} {x:Int},(∀c∈l,0<=c)->l[i]? =σ x->x<=l.sum
 |[],_,_,_,h=>by simp at h
 |a::l,0,x,e,h=>by
  simp at h;subst h;have:=qX l λc h=>e c (.tail _ h);rw[List.sum_cons];omega
 |a::l,i+1,x,e,h=>by
  have:=qY (λc h=>e c (.tail _ h)) (show l[i]? =σ x by simpa using h);have:=e a (.head _);rw[List.sum_cons];omega
theorem DP {i:Nat} (hk:0<=k) (h:∀c∈l,0<=c/\c<=k):0<=l.getD i 0/\l.getD i 0<=k:=by
 rw[u4];cases a:l[i]? with
 |none=>exact⟨Int.le_refl _,hk⟩
 |some c=>exact h c (x5 a)
theorem w7 {f:Int->Int} {cs:Λ} {m:Int} (I:dB ad) (h:cs.length=(ba ad).length) (hi:cF ad t 0=σ m):a7 ad (c6 f L ad cs) t=if t∈L then f (a7 ad cs t) else a7 ad cs t:=by
 have a:=lV I hi;have j:=(x4.1 a).1;obtain⟨c,e⟩:=aI (l:=cs) (i:=m.toNat) Ω;have h1:=l8 (f:=f) (L:=L) a e;unfold a7;rw[hi];simp only;rw[u4,h1,u4,e,V6,V6]
section
variable {k:Int} {sizes a:Λ} {s:au}
theorem OJ {i:Nat} {p:bi×Int} (e:bq k sizes s) (h:(s.vars.zip a)[i]? =σ p):0<=dy p/\dy p<=k:=by
 have hk:=e.fU;obtain⟨h1,_⟩:=List.getElem?_zip_eq_some.1 h;have f:=(x4.1 h1).1;have j:=e.vars;have:=e.var i p.1 _ h1 (x6 Ω);unfold dy;split
 .omega
 .exact DP Ω this.2.1
theorem OK {f:b0} (e:bq k sizes s) (h:f∈s.funs):0<=fd a f/\fd a f<=k:=by
 have hk:=e.fU;have:=(e.funs f h).1.im;unfold fd;split
 .exact (s9 e.fU λc j=>⟨e.fU,this c j⟩).2
 .omega
theorem tx (e:bq k sizes s):∀c∈(s.vars.zip a).map dy,0<=c:=λc f=>by
 obtain⟨p,h,rfl⟩:=n9.1 f;obtain⟨i,hi⟩:=X4.1 h;exact (OJ e hi).1
theorem qZ (e:bq k sizes s):∀c∈s.funs.map (fd a),0<=c:=λc f=>by
 obtain⟨p,h,rfl⟩:=n9.1 f;exact (OK e h).1
theorem n5 (e:bq k sizes s):hb k s a=if (s.vars.zip a).all iq then min (s.zero+((s.vars.zip a).map dy).sum+(s.funs.map (fd a)).sum) k else k:=by
 have h1:(s.vars.zip a).foldl (qJ k) s.zero=((s.vars.zip a).map dy).foldl (λx c=>min (x+c) k) s.zero:=by
  refine foldl_map' dy (λx c=>min (x+c) k) (qJ k) (λc=>c<=k) (λc p f=>?_) (λc p f=>?_) _ _ e.zero.2
  .unfold qJ dy;split
   .omega
   .rfl
  .unfold qJ;split
   .exact f
   .omega
 have h:∀z,z<=k->s.funs.foldl (qK k a) z=(s.funs.map (fd a)).foldl (λx c=>min (x+c) k) z:=λz j=>by
  refine foldl_map' (fd a) (λx c=>min (x+c) k) (qK k a) (λc=>c<=k) (λc p f=>?_) (λc p f=>?_) _ _ j
  .unfold qK fd;split
   .rfl
   .omega
  .unfold qK;split
   .omega
   .exact f
 unfold hb;split
 .rw[h1,w5 _ _ e.zero.2 (tx e),h _ Ω,w5 _ _ Ω (qZ e)];have:=qX _ (qZ (a:=a) e);omega
 .rfl
theorem tz {α β:Type}:∀ {l:List α} {m:List β} {i:Nat} {x:α} {y:β},m[i]? =σ y->(l.set i x).zip m=(l.zip m).set i (x,y)
 |[],_,_,_,_,_=>Ξ
 |_::_,[],_,_,_,h=>by simp at h
 |a::l,b::m,0,x,y,h=>by simp at h;subst h;rfl
 |a::l,b::m,i+1,x,y,h=>by
  rw[List.set_cons_succ,List.zip_cons_cons,List.zip_cons_cons,List.set_cons_succ,tz (by simpa using h)]
theorem tA {α:Type} {q:α->Bool}:∀ {l:List α} {i:Nat} {x y:α},l[i]? =σ x->q y=q x->(l.set i y).all q=l.all q
 |[],_,_,_,h,_=>by simp at h
 |a::l,0,x,y,h,e=>by simp at h;subst h;rw[List.set_cons_zero,List.all_cons,List.all_cons,e]
 |a::l,i+1,x,y,h,e=>by rw[List.set_cons_succ,List.all_cons,List.all_cons,tA (by simpa using h) e]
def ej (s:au) (u:Nat) (x:bi) (un:Λ):au:={s with vars:=s.vars.set u {x with un:=un}}
def dE (s:au) (j:Nat) (f:b0) (cs:Λ):au:={s with funs:=s.funs.set j {f with cs:=cs}}
theorem w8 {u:Nat} {x:bi} (a:bq k sizes s) (e:s.vars[u]? =σ x) (f:un.length=x.un.length) (h:∀c∈un,0<=c/\c<=k):bq k sizes (ej s u x un):=by
 have j:=(x4.1 e).1;have p:=a.vars;have h1:=a.var u x _ e (x6 Ω);exact a.tr e f h h1.2.2
theorem DQ {f:b0} {cs:Λ} (a:bq k sizes s) (e:s.funs[j]? =σ f) (h:cs.length=f.cs.length) (p:∀c∈cs,0<=c/\c<=k):bq k sizes (dE s j f cs):=a.DG e rfl rfl h p
theorem OL {u:Nat} {x:bi} {f:b0} {cs:Λ} {be:Int} (e:bq k sizes s) (w:s.vars[u]? =σ x) (p:s.funs[j]? =σ f) (z:un.length=x.un.length) (A:∀c∈un,0<=c/\c<=k) (B:cs.length=f.cs.length) (C:∀c∈cs,0<=c/\c<=k) (y:a[u]? =σ be)
  (h:(s.vars.zip a).all iq=true-> ∀r,0<=r->min (r+fd a {f with cs:=cs}+dy ({x with un:=un},be)) k=min (r+fd a f+dy (x,be)) k):hb k (ej (dE s j f cs) u x un) a=hb k s a:=by
 have E:=DQ e p B C;have F:bq k sizes (ej (dE s j f cs) u x un):=w8 E w z A;rw[n5 F,n5 e];have q:(s.vars.zip a)[u]? =σ (x,be):=List.getElem?_zip_eq_some.2 ⟨w,y⟩;have G:((ej (dE s j f cs) u x un).vars.zip a)=(s.vars.zip a).set u ({x with un:=un},be):=tz y;have H:((s.vars.zip a).set u ({x with un:=un},be)).all iq=(s.vars.zip a).all iq:=tA q rfl;rw[G,H];split
 .rename_i I;have J:(((s.vars.zip a).set u ({x with un:=un},be)).map dy).sum=((s.vars.zip a).map dy).sum-dy (x,be)+dy ({x with un:=un},be):=by
   rw[U3];exact w6 (by rw[x8,q];rfl)
  have K:((ej (dE s j f cs) u x un).funs.map (fd a)).sum=(s.funs.map (fd a)).sum-fd a f+fd a {f with cs:=cs}:=by
   show ((s.funs.set j {f with cs:=cs}).map (fd a)).sum=_;rw[U3];exact w6 (by rw[x8,p];rfl)
  have h1:=qY (tx (a:=a) e) (i:=u) (x:=dy (x,be)) (by rw[x8,q];rfl);have L:=qY (qZ (a:=a) e) (i:=j) (x:=fd a f) (by rw[x8,p];rfl);have M:=e.zero.1;have N:=h I (s.zero+(((s.vars.zip a).map dy).sum-dy (x,be))+((s.funs.map (fd a)).sum-fd a f)) Ω;rw[J,K];show min (s.zero+_+_) k=_;omega
 .rfl
end
theorem w9 {s:au} {pos:Nat} {v:Int}:∀ (sc:Λ) (p q:Nat),(h0 s pos v sc p)[q]? =(sc[q]?).map λu=>if p+q=pos then[v] else cT s u
 |[],_,q=>by simp[h0]
 |u::sc,p,0=>by simp[h0]
 |u::sc,p,q+1=>by
  unfold h0;rw[List.getElem?_cons_succ,List.getElem?_cons_succ,w9 sc (p+1) q,show p+1+q=p+(q+1) by omega]
theorem DR {s:au} {pos:Nat} {v:Int}:∀ (sc:Λ) (p:Nat),(h0 s pos v sc p).length=sc.length
 |[],_=>rfl
 |u::sc,p=>by unfold h0;rw[Z0,DR sc (p+1),Z0]
theorem xa {s:au}:t∈bW s sc pos v↔t.length=sc.length/\ ∀ (p:Nat) u w,sc[p]? =σ u->t[p]? =σ w->if p=pos then w=v else w∈cT s u:=by
 unfold bW;rw[tu,DR];refine and_congr_right λ_=>⟨λh p u w hu hw=>?_,λh p d w a hw=>?_⟩
 .have:w∈if 0+p=pos then[v] else cT s u:=h p _ w (by rw[w9,hu];rfl) hw;rw[X5] at this;split
  .rename_i e;rw[if_pos e] at this;exact l9.1 this
  .rename_i e;rw[if_neg e] at this;exact this
 .rw[w9] at a;cases hu:sc[p]? with
  |none=>rw[hu] at a;cases a
  |some u=>
   rw[hu] at a;have a:(if 0+p=pos then[v] else cT s u)=d:=c8 a;subst a;have:=h p u w hu hw;rw[X5];split
   .rename_i e;rw[if_pos e] at this;exact l9.2 this
   .rename_i e;rw[if_neg e] at this;exact this
theorem gA {x:bi}:v∈ay x↔(0<=v/\v<x.un.length)/\dropped x.mask v=false:=by
 unfold ay;rw[U8];refine and_congr ?_ Ξ;have:=tv (k:=(x.un.length:Int)) (v:=v);unfold hD at this;rw[r8] at this;exact this
theorem DS {f:Int->Int} {cs:Λ} (I:dB ad) (q:∀c∈cs,0<=c/\c<=k) (r:∀t∈L,0<=f (a7 ad cs t)/\f (a7 ad cs t)<=k):∀c∈c6 f L ad cs,0<=c/\c<=k:=λc a=>by
 unfold c6 at a;obtain⟨p,s,rfl⟩:=n9.1 a;obtain⟨i,hi⟩:=X4.1 s;obtain⟨h1,h⟩:=List.getElem?_zip_eq_some.1 hi;split
 .rename_i w;have j:=r p.1 w;have e:a7 ad cs p.1=p.2:=by
   unfold a7;rw[iN I h1];simp only;rw[r8,u4,h];rfl
  rw[e] at j;exact j
 .exact q _ (x5 h)
section
variable {k:Int} {sizes a:Λ} {s:au}
def eu (s:au) (j:Nat) (f:b0) (pos u:Nat) (x:bi) (v:Int) (tup un:Int->Int):au:=
 ej (dE s j f (c6 tup (bW s f.sc pos v) f.ad f.cs)) u x (x.un.set v.toNat (un (x.un.getD v.toNat 0)))
theorem i7 {f:b0} (e:bq k sizes s) (q:f∈s.funs):dB f.ad/\f.cs.length=(ba f.ad).length:=by
 obtain⟨a,h,_⟩:=e.funs f q;have j:dB f.ad:=by rw[h];exact lZ e.fb.2.2 λv p=>⟨(a.scope.1 v p).1,a.vars v p⟩
 refine⟨j,?_⟩;have h1:=a.len;rw[ib j,h];exact h1
theorem DT {u:Nat} {f:b0} {x:bi} {tup un:Int->Int} (a:bq k sizes s) (e:s.funs[j]? =σ f) (h:s.vars[u]? =σ x)
  (p:∀t∈bW s f.sc pos v,0<=tup (a7 f.ad f.cs t)/\tup (a7 f.ad f.cs t)<=k) (q:0<=un (x.un.getD v.toNat 0)/\un (x.un.getD v.toNat 0)<=k):bq k sizes (eu s j f pos u x v tup un):=by
 obtain⟨r,y⟩:=i7 a (x5 e);have w:=(a.funs f (x5 e)).1;have z:=(x4.1 h).1;have A:=a.vars;have h1:=a.var u x _ h (x6 Ω);exact w8 (DQ a e (jV _ _ _ _ Ω) (DS r w.im p)) h (by rw[Z2]) (qV h1.2.1 q)
theorem DU {u:Nat} {f:b0} {x:bi} {tup un:Int->Int} (p:bq k sizes s) (Q:lb s a) (G:s.funs[j]? =σ f) (R:f.live≠0) (hu:f.sc[pos]? =σ (u:Int)) (B:s.vars[u]? =σ x) (Y:v∈ay x)
  (S:∀w∈f.sc,∀y,s.vars[w.toNat]? =σ y->y.gone=0) (Z:∀t∈bW s f.sc pos v,0<=tup (a7 f.ad f.cs t)/\tup (a7 f.ad f.cs t)<=k) (aa:0<=un (x.un.getD v.toNat 0)/\un (x.un.getD v.toNat 0)<=k)
  (ab:∀t∈bW s f.sc pos v,∀r,0<=r->min (r+tup (a7 f.ad f.cs t)+un (x.un.getD v.toNat 0)) k=min (r+a7 f.ad f.cs t+x.un.getD v.toNat 0) k):
  hb k (eu s j f pos u x v tup un) a=hb k s a:=by
 obtain⟨H,ac⟩:=i7 p (x5 G);obtain⟨I,T,_⟩:=p.funs f (x5 G);have au:=(x4.1 B).1;have av:=p.vars;have h1:=p.var u x _ B (x6 Ω);have aw:=Q.1;obtain⟨be,U⟩:=aI (l:=a) (i:=u) Ω;refine OL p B G (by rw[Z2]) (qV h1.2.1 aa) (jV _ _ _ _ Ω) (DS H I.im Z) U λae r af=>?_;have V:x.gone=0:=S u (x5 hu) x (by rw[r8];exact B);obtain⟨tl,C⟩:∃tl,tl=qI a f.sc:=⟨_,rfl⟩;have J:∀ (q:Nat) w,f.sc[q]? =σ w-> ∃y,s.vars[w.toNat]? =σ y/\tl[q]? =σ (a.getD w.toNat 0)/\a.getD w.toNat 0∈ay y/\f.ad[q]? =σ (y.un.length:Int):=λq w hw=>by
  have hm:=x5 hw;have ax:=(I.scope.1 w hm).1;have az:=I.vars w hm;obtain⟨y,h⟩:=aI (l:=s.vars) (i:=w.toNat) Ω;obtain⟨z,K⟩:=aI (l:=sizes) (i:=w.toNat) Ω;obtain⟨L,M⟩:=aI (l:=a) (i:=w.toNat) Ω;have ag:=S w hm y h;have aA:=(p.var _ y z h K).1;have aB:=p.fb.2.2 z (x5 K);have e:a.getD w.toNat 0=L:=by rw[u4,M];rfl
  have W:=List.all_eq_true.1 ae (y,L) (x5 (List.getElem?_zip_eq_some.2 ⟨h,M⟩));have ah:=(Q.2 _ y L h M).resolve_left Ω;refine⟨y,h,by rw[C];unfold qI;rw[x8,hw];rfl,?_,?_⟩
  .rw[e,gA];refine⟨ah,?_⟩;unfold iq at W;simpa[ag] using W
  .rw[T];unfold bR;rw[x8,hw,Z4,u4,K,V6];congr 1;omega
 have ai:tl.length=f.sc.length:=by rw[C];unfold qI;rw[u7]
 have aC:f.ad.length=f.sc.length:=by rw[T];unfold bR;rw[u7]
 obtain⟨m,hm⟩:∃m,cF f.ad tl 0=σ m:=by
  have:tl∈ba f.ad:=by
   rw[w1,tu];refine⟨by rw[u7];omega,λq d w X hw=>?_⟩;obtain⟨b,A⟩:=aI (l:=f.sc) (i:=q) (by have:=(x4.1 hw).1;omega);obtain⟨y,_,N,O,aj⟩:=J q b A;rw[x8,aj] at X;cases X;rw[N] at hw;cases hw;exact tv.2 (gA.1 O).1
  obtain⟨i,hi⟩:=X4.1 this;exact⟨_,iN H hi⟩
 have ak:fd a f=a7 f.ad f.cs tl:=by unfold fd;rw[if_pos R,C]
 have al:fd a {f with cs:=c6 tup (bW s f.sc pos v) f.ad f.cs}=if tl∈bW s f.sc pos v then tup (a7 f.ad f.cs tl) else a7 f.ad f.cs tl:=by
  rw[<-w7 H ac hm,C];unfold fd;rw[if_pos R]
 have am:dy (x,be)=x.un.getD be.toNat 0:=by unfold dy;rw[if_neg (by simp[V])]
 have an:dy ({x with un:=x.un.set v.toNat (un (x.un.getD v.toNat 0))},be)=(x.un.set v.toNat (un (x.un.getD v.toNat 0))).getD be.toNat 0:=by unfold dy;rw[if_neg (by simp[V])]
 obtain⟨y,h,E,P,_⟩:=J pos _ hu;rw[r8] at h E P;rw[B] at h;cases h;have ao:a.getD u 0=be:=by rw[u4,U];rfl
 rw[ao] at E P;have aD:=(gA.1 Y).1;have aE:=(gA.1 P).1;rw[ak,al,am,an];by_cases he:be=v
 .subst he;have F:tl∈bW s f.sc pos be:=xa.2 ⟨ai,λq w b hw A=>by
   obtain⟨aF,ap,N,O,_⟩:=J q w hw;split
   .rename_i aq;subst aq;rw[E] at A;exact (c8 A).symm
   .rw[N] at A;cases A;unfold cT;rw[ap];exact O⟩
  rw[if_pos F,u4 (l:=x.un.set _ _),j4 Ω,V6];exact ab tl F r af
 .have F:tl∉bW s f.sc pos v:=λhm=>by
   have:=(xa.1 hm).2 pos _ be hu E;rw[if_pos rfl] at this;exact he this
  rw[if_neg F,u4 (l:=x.un.set _ _),Y0 Ω,<-u4]
end
def dj (g:Int->Int) (un L:Λ):Λ:=L.foldl (λun v=>un.set v.toNat (g (un.getD v.toNat 0))) un
theorem kA {g:Int->Int}:∀ (L un:Λ),(dj g un L).length=un.length
 |[],_=>rfl
 |v::L,un=>by
  unfold dj;rw[List.foldl_cons];have:=kA (g:=g) L (un.set v.toNat (g (un.getD v.toNat 0)));unfold dj at this;rw[this,Z2]
theorem n7 {g:Int->Int}:∀ (L un:Λ) (w:Int),L.Nodup->(∀v∈L,0<=v/\v<un.length)->0<=w->(dj g un L).getD w.toNat 0=if w∈L then g (un.getD w.toNat 0) else un.getD w.toNat 0
 |[],un,w,_,_,_=>by simp[dj]
 |v::L,un,w,j,a,hw=>by
  obtain⟨h1,p⟩:=List.nodup_cons.1 j;have r:=a v (.head _);have q:=n7 (g:=g) L (un.set v.toNat (g (un.getD v.toNat 0))) w p (λu hu=>by rw[Z2];exact a u (.tail _ hu)) hw;have e:dj g un (v::L)=dj g (un.set v.toNat (g (un.getD v.toNat 0))) L:=rfl;rw[e,q];by_cases f:w=v
  .subst f;have I:(un.set w.toNat (g (un.getD w.toNat 0))).getD w.toNat 0=g (un.getD w.toNat 0):=by
    rw[u4 (l:=un.set _ _),j4 Ω];rfl
   rw[if_neg h1,if_pos (.head _),I]
  .have I:(un.set v.toNat (g (un.getD v.toNat 0))).getD w.toNat 0=un.getD w.toNat 0:=by
    rw[u4 (l:=un.set _ _),Y0 Ω,<-u4]
   rw[I];by_cases hm:w∈L
   .rw[if_pos hm,if_pos (.tail _ hm)]
   .rw[if_neg hm,if_neg λh=>(W6.1 h).elim f hm]
theorem ma (x:bi):(ay x).Nodup:=by
 unfold ay;refine List.Nodup.sublist List.filter_sublist ?_;exact List.Pairwise.map _ (λa b e=>Ω) List.nodup_range
theorem DV {k:Int} {g:Int->Int}:∀ (L un:Λ),(∀c∈un,0<=c/\c<=k)->L.Nodup->(∀v∈L,0<=v/\v<un.length)->(∀v∈L,0<=g (un.getD v.toNat 0)/\g (un.getD v.toNat 0)<=k)-> ∀c∈dj g un L,0<=c/\c<=k
 |[],un,h,_,_,_,c,a=>h c a
 |v::L,un,h,p,f,j,c,a=>by
  obtain⟨h1,q⟩:=List.nodup_cons.1 p;have r:=f v (.head _);refine DV (g:=g) L (un.set v.toNat (g (un.getD v.toNat 0))) (qV h (j v (.head _))) q (λu hu=>by rw[Z2];exact f u (.tail _ hu)) (λu hu=>?_) c a;have s:u≠v:=λe=>h1 (e▸hu);have w:=f u (.tail _ hu);rw[u4 (l:=un.set _ _),Y0 Ω,<-u4];exact j u (.tail _ hu)
section
variable {k:Int} {sizes a:Λ} {s:au}
def fo (s:au) (u:Nat) (x:bi) (g z:Int->Int):au:={ej s u x (dj g x.un (ay x)) with zero:=z s.zero}
theorem bq.OM (a:bq k sizes s) (h:0<=c/\c<=k):bq k sizes {s with zero:=c}:=⟨a.fU,a.fb,h,a.vars,a.var,a.funs⟩
theorem xb {u:Nat} {x:bi} {g z:Int->Int} (a:bq k sizes s) (e:s.vars[u]? =σ x) (f:∀v∈ay x,0<=g (x.un.getD v.toNat 0)/\g (x.un.getD v.toNat 0)<=k) (h:0<=z s.zero/\z s.zero<=k):bq k sizes (fo s u x g z):=by
 have p:=(x4.1 e).1;have q:=a.vars;have h1:=a.var u x _ e (x6 Ω);exact (w8 a e (kA _ _) (DV _ _ h1.2.1 (ma x) (λv j=>(gA.1 j).1) f)).OM h
theorem DW {u:Nat} {x:bi} {g z:Int->Int} (e:bq k sizes s) (q:lb s a) (f:s.vars[u]? =σ x) (j:x.gone=0) (C:∀v∈ay x,0<=g (x.un.getD v.toNat 0)/\g (x.un.getD v.toNat 0)<=k) (E:0<=z s.zero/\z s.zero<=k)
  (F:∀v∈ay x,∀r,0<=r->min (r+g (x.un.getD v.toNat 0)+z s.zero) k=min (r+x.un.getD v.toNat 0+s.zero) k):hb k (fo s u x g z) a=hb k s a:=by
 have G:=xb e f C E;have O:=(x4.1 f).1;have P:=e.vars;have Q:=q.1;obtain⟨be,p⟩:=aI (l:=a) (i:=u) Ω;rw[n5 G,n5 e];have h:(s.vars.zip a)[u]? =σ (x,be):=List.getElem?_zip_eq_some.2 ⟨f,p⟩;obtain⟨un,w⟩:∃un,un=dj g x.un (ay x):=⟨_,rfl⟩;have H:((fo s u x g z).vars.zip a)=(s.vars.zip a).set u ({x with un:=un},be):=by rw[w];exact tz p
 have I:((s.vars.zip a).set u ({x with un:=un},be)).all iq=(s.vars.zip a).all iq:=tA h rfl;rw[H,I];split
 .rename_i J;have K:(((s.vars.zip a).set u ({x with un:=un},be)).map dy).sum=((s.vars.zip a).map dy).sum-dy (x,be)+dy ({x with un:=un},be):=by
   rw[U3];exact w6 (by rw[x8,h];rfl)
  have h1:=qY (tx (a:=a) e) (i:=u) (x:=dy (x,be)) (by rw[x8,h];rfl);have R:=qX _ (qZ (a:=a) e);have y:=List.all_eq_true.1 J (x,be) (x5 h);have A:=(q.2 _ x be f p).resolve_left Ω;have B:be∈ay x:=by
   rw[gA];refine⟨A,?_⟩;unfold iq at y;simpa[j] using y
  have L:dy (x,be)=x.un.getD be.toNat 0:=by unfold dy;rw[if_neg (by simp[j])]
  have M:dy ({x with un:=un},be)=g (x.un.getD be.toNat 0):=by
   unfold dy;rw[if_neg (by simp[j])];show un.getD be.toNat 0=_;rw[w,n7 _ _ _ (ma x) (λv N=>(gA.1 N).1) A.1,if_pos B]
  rw[K,M];rw[L] at h1 ⊢;have S:=F be B (((s.vars.zip a).map dy).sum-x.un.getD be.toNat 0+(s.funs.map (fd a)).sum) Ω;show min (z s.zero+_+(s.funs.map (fd a)).sum) k=_;omega
 .rfl
theorem ON {m:Nat} {w:Int} (a:0<=v) (hw:0<=w):dropped ((m ||| 2 ^ v.toNat:Nat):Int) w=(dropped (m:Int) w||decide (w=v)):=by
 unfold dropped;rw[r8,r8,Nat.testBit_or,Nat.testBit_two_pow];congr 1;exact decide_eq_decide.2 ⟨λh=>Ω,λh=>Ω⟩
theorem mR {i:Nat} {x:bi} (a:s.vars[i]? =σ x):e5 s i v.toNat={s with vars:=s.vars.set i {x with mask:=((x.mask.toNat ||| 2 ^ v.toNat:Nat):Int)}}:=by
 unfold e5;rw[a]
theorem xc {i:Nat} {x:bi} (a:bq k sizes s) (e:s.vars[i]? =σ x) (j:0<=v/\v<x.un.length):bq k sizes (e5 s i v.toNat):=by
 rw[mR e];have p:=(x4.1 e).1;have q:=a.vars;have h1:=a.var i x _ e (x6 Ω);have r:=a.fb.2.2 _ (T8 (l:=sizes) (n:=i) Ω);refine a.tr e rfl h1.2.1 ⟨by simp only;omega,?_⟩;have f:x.mask.toNat<2 ^ 32:=by have:=h1.2.2;omega
 have h:2 ^ v.toNat<2 ^ 32:=Nat.pow_lt_pow_right Ω Ω;have:=Nat.or_lt_two_pow f h;simp only;omega
theorem DX {i:Nat} {be:Int} {x:bi} (j:bq k sizes s) (C:lb s a) (f:s.vars[i]? =σ x) (E:x.gone=0) (z:0<=v/\v<x.un.length) (p:a[i]? =σ be):hb k (e5 s i v.toNat) a=if be=v then k else hb k s a:=by
 have F:=xc j f z;rw[n5 F,n5 j];have r:(s.vars.zip a)[i]? =σ (x,be):=List.getElem?_zip_eq_some.2 ⟨f,p⟩;have G:=(C.2 _ x be f p).resolve_left Ω;obtain⟨y,w⟩:∃y:bi,y={x with mask:=((x.mask.toNat ||| 2 ^ v.toNat:Nat):Int)}:=⟨_,rfl⟩;have H:((e5 s i v.toNat).vars.zip a)=(s.vars.zip a).set i (y,be):=by rw[mR f,w];exact tz p
 have A:(e5 s i v.toNat).zero=s.zero/\(e5 s i v.toNat).funs=s.funs:=by rw[mR f];exact⟨rfl,rfl⟩
 have B:iq (y,be)=(iq (x,be)&&decide (be≠v)):=by
  unfold iq;rw[w];simp only[E];rw[ON z.1 G.1];have hm:((x.mask.toNat:Nat):Int)=x.mask:=by
   have N:=(x4.1 f).1;have O:=j.vars;have h1:=j.var i x _ f (x6 Ω);omega
  rw[hm];by_cases e:be=v
  .simp[e]
  .simp[e]
 rw[H,A.1,A.2];by_cases e:be=v
 .rw[if_pos e,if_neg];intro I;have:=List.all_eq_true.1 I (y,be) (x5 (j4 (x4.1 r).1));rw[B] at this;simp[e] at this
 .have J:((s.vars.zip a).set i (y,be)).all iq=(s.vars.zip a).all iq:=tA r (by rw[B];simp[e]);have K:((s.vars.zip a).set i (y,be)).map dy=(s.vars.zip a).map dy:=by
   rw[U3];have L:dy (y,be)=dy (x,be):=by rw[w];rfl
   rw[L];refine Y2 λq=>?_;rw[X1];split
   .rename_i M;subst M;split
    .rw[x8,r];rfl
    .rename_i h;rw[Z3 Ω]
   .rfl
  rw[if_neg e,J,K]
theorem OO {i:Nat} {be:Int} {x:bi} (h:lb s a) (e:s.vars[i]? =σ x) (j:x.gone=0) (f:a[i]? =σ be) (p:be∉ay x):hb k s a=k:=by
 have q:=(h.2 _ x be e f).resolve_left Ω;unfold hb;rw[if_neg];intro r;have:=List.all_eq_true.1 r (x,be) (x5 (List.getElem?_zip_eq_some.2 ⟨e,f⟩));unfold iq at this;have w:dropped x.mask be=false:=by simpa[j] using this
 exact p (gA.2 ⟨q,w⟩)
end
section
variable {A:Nat->ag} {B R:ag} {w:x3} {cs xs:List x1} {gs:Nat} {y v:x1} {k zero:Int} {sizes:Λ} {D:List (Λ)} {G:List Bool} {aS:List (Λ)} {H:List hB} {E:List jr} {K:x3->Prop} {Z:ag}
theorem bu.OP {ac:r9} (h:bu true A R w cs k sizes zero D G aS H E) (N:ab w gs aE cs) (x:cs[3]? =σ v) (z:∀j r,A j r->gs<r\/Z r) (f:∀r,Z r->r<gs/\A 4 r) (s:∀r,R r->r<gs) (I:bX w 1 y 1 xs) (ad:bj B R w xs a) (q:∀r,r<w.heap.size->B r->(∀j,¬A j r)/\gs<r) (av:D.length<=1000)
  (af:∀aK bt w',ae (λr=>gs<=r) w w'->ab w' gs aE bt->bu true aK R w' bt k sizes zero (D++[a]) G aS H E->(∀j r,aK j r->gs<r\/Z r)->(∀r,Z r->r<gs/\aK 4 r)->(∀j,j≠3->bt[j]? =cs[j]?)->K w'):
  ax x7 (b8 #[cK,cK] ac #[v,y]) w λO U=>aa x7 (u6 aE (Γ gs) 3) U λag=>ax x7 (o8 cK ag O) U λ_ C=>K C:=by
 have P:=h.old;have ah:∀i j r,i≠j->A i r->¬A j r:=by obtain⟨_,_,_,_,_,_,_,_,_,_,_,_,_,ai⟩:=id h;exact (ai rfl).1
 have Q:∀r,A 0 r->gs<r:=λr h=>(z 0 r h).resolve_right λF=>ah 0 4 r Ω h (f r F).2;have S:∀j,¬A j gs:=λj h=>(z j gs h).elim (λh=>Ω) λh=>by have:=(f gs h).1;omega
 have aj:=N.lt;obtain⟨szv,al,aw,ay,az,V,an,h1,F,aA,aB,aC,aD,J⟩:=id P;obtain⟨J,W⟩:=J rfl;have V:v=al:=by rw[an] at x;exact (c8 x).symm
 subst V;have ao:bj (λr=>B r/\r<w.heap.size) R w xs a:=ak.mono ad (λr e h=>⟨h,e⟩) λ_ _ h=>h;refine n0 (pl:=_) (l:=D) aE.p rfl cK.u cK.i am.i rfl N x F I ao (λr e X=>⟨λap=>(q r e ap.1).1 0 X.1,W 0 r X⟩) ⟨λh=>S 0 h.1,λh=>by have:=(q gs aj h.1).2;omega,λh=>by have:=s gs h;omega⟩ Ω Ω λO C Y aq au=>?_;refine af _ _ C (Y.mono λr _ h=>h.elim (λh=>by have:=Q r h.1;omega) λh=>Ω) aq (P.wR Y (λr e=>?_) au (λj r L e=>?_) λr e=>?_) (λj r e=>?_) (λr M=>⟨(f r M).1,?_⟩) λj L=>?_
 .rcases e with e|rfl
  .exact .inl e
  .exact .inr ⟨λj h=>S j h.1,λh=>by have:=s r h;omega⟩
 .rcases e with e|e|e
  .exact J 0 j r (S3 L) e
  .exact λh=>(q r e.2 e.1).1 j h.1
  .exact λh=>by have:=h.2;omega
 .rcases e with e|e|e
  .exact W 0 r e
  .exact λh=>by have:=(q r e.2 e.1).2;have:=s r h;omega
  .exact λh=>by have:=s r h;omega
 .unfold fc at e;split at e
  .rcases e with e|e|e
   .exact .inl (Q r e.1)
   .exact .inl (q r e.2 e.1).2
   .exact .inl Ω
  .exact z j r e.1
 .unfold fc;rw[if_neg Ω];exact⟨(f r M).2,by have:=(f r M).1;omega⟩
 .rw[Y0 (S3 L)]
theorem bu.OQ {ac:r9} (h:bu true A R w cs k sizes zero D G aS H E) (M:ab w gs aE cs) (x:cs[5]? =σ v) (z:∀j r,A j r->gs<r\/Z r) (f:∀r,Z r->r<gs/\A 4 r) (s:∀r,R r->r<gs) (I:bX w 1 y 1 xs) (ad:bj B R w xs a) (q:∀r,r<w.heap.size->B r->(∀j,¬A j r)/\gs<r) (aw:aS.length<=1000)
  (af:∀aK bt w',ae (λr=>gs<=r) w w'->ab w' gs aE bt->bu true aK R w' bt k sizes zero D G (aS++[a]) H E->(∀j r,aK j r->gs<r\/Z r)->(∀r,Z r->r<gs/\aK 4 r)->(∀j,j≠5->bt[j]? =cs[j]?)->K w'):
  ax x7 (b8 #[cN,cN] ac #[v,y]) w λN U=>aa x7 (u6 aE (Γ gs) 5) U λag=>ax x7 (o8 cN ag N) U λ_ C=>K C:=by
 have O:=h.old;have ah:∀i j r,i≠j->A i r->¬A j r:=by obtain⟨_,_,_,_,_,_,_,_,_,_,_,_,_,ai⟩:=id h;exact (ai rfl).1
 have P:∀r,A 2 r->gs<r:=λr h=>(z 2 r h).resolve_right λQ=>ah 2 4 r Ω h (f r Q).2;have S:∀j,¬A j gs:=λj h=>(z j gs h).elim (λh=>Ω) λh=>by have:=(f gs h).1;omega
 have aj:=M.lt;obtain⟨szv,ay,az,al,aA,V,am,h1,Q,aB,an,aC,aD,F⟩:=id O;obtain⟨F,W⟩:=F rfl;have V:v=al:=by rw[am] at x;exact (c8 x).symm
 subst V;have ap:bj (λr=>B r/\r<w.heap.size) R w xs a:=ak.mono ad (λr e h=>⟨h,e⟩) λ_ _ h=>h;refine n0 (pl:=_) (l:=aS) aE.p rfl cN.u cN.i ao.i rfl M x an I ap (λr e X=>⟨λaq=>(q r e aq.1).1 2 X.1,W 2 r X⟩) ⟨λh=>S 2 h.1,λh=>by have:=(q gs aj h.1).2;omega,λh=>by have:=s gs h;omega⟩ Ω Ω λN C Y au av=>?_;refine af _ _ C (Y.mono λr _ h=>h.elim (λh=>by have:=P r h.1;omega) λh=>Ω) au (O.jT Y (λr e=>?_) av (λj r J e=>?_) λr e=>?_) (λj r e=>?_) (λr L=>⟨(f r L).1,?_⟩) λj J=>?_
 .rcases e with e|rfl
  .exact .inl e
  .exact .inr ⟨λj h=>S j h.1,λh=>by have:=s r h;omega⟩
 .rcases e with e|e|e
  .exact F 2 j r (S3 J) e
  .exact λh=>(q r e.2 e.1).1 j h.1
  .exact λh=>by have:=h.2;omega
 .rcases e with e|e|e
  .exact W 2 r e
  .exact λh=>by have:=(q r e.2 e.1).2;have:=s r h;omega
  .exact λh=>by have:=s r h;omega
 .unfold fc at e;split at e
  .rcases e with e|e|e
   .exact .inl (P r e.1)
   .exact .inl (q r e.2 e.1).2
   .exact .inl Ω
  .exact z j r e.1
 .unfold fc;rw[if_neg Ω];exact⟨(f r L).2,by have:=(f r L).1;omega⟩
 .rw[Y0 (S3 J)]
theorem bu.OR {a:hB} {ac:r9} (h:bu true A R w cs k sizes zero D G aS H E) (M:ab w gs aE cs) (x:cs[6]? =σ v) (z:∀j r,A j r->gs<r\/Z r) (f:∀r,Z r->r<gs/\A 4 r) (s:∀r,R r->r<gs) (I:bX w 4 y 1 xs) (ad:bj B R w xs a) (q:∀r,r<w.heap.size->B r->(∀j,¬A j r)/\gs<r) (av:H.length<=1000)
  (af:∀aK bt w',ae (λr=>gs<=r) w w'->ab w' gs aE bt->bu true aK R w' bt k sizes zero D G aS (H++[a]) E->(∀j r,aK j r->gs<r\/Z r)->(∀r,Z r->r<gs/\aK 4 r)->(∀j,j≠6->bt[j]? =cs[j]?)->K w'):
  ax x7 (b8 #[dP,dP] ac #[v,y]) w λN U=>aa x7 (u6 aE (Γ gs) 6) U λag=>ax x7 (o8 dP ag N) U λ_ C=>K C:=by
 have O:=h.old;have ah:∀i j r,i≠j->A i r->¬A j r:=by obtain⟨_,_,_,_,_,_,_,_,_,_,_,_,_,ai⟩:=id h;exact (ai rfl).1
 have P:∀r,A 3 r->gs<r:=λr h=>(z 3 r h).resolve_right λQ=>ah 3 4 r Ω h (f r Q).2;have S:∀j,¬A j gs:=λj h=>(z j gs h).elim (λh=>Ω) λh=>by have:=(f gs h).1;omega
 have aj:=M.lt;obtain⟨szv,aw,ay,az,al,V,am,h1,Q,aA,aB,an,aC,F⟩:=id O;obtain⟨F,W⟩:=F rfl;have V:v=al:=by rw[am] at x;exact (c8 x).symm
 subst V;have ao:bj (λr=>B r/\r<w.heap.size) R w xs a:=ak.mono ad (λr e h=>⟨h,e⟩) λ_ _ h=>h;refine n0 (pl:=_) (l:=H) aE.p rfl dP.u dP.i db.i rfl M x an I ao (λr e X=>⟨λap=>(q r e ap.1).1 3 X.1,W 3 r X⟩) ⟨λh=>S 3 h.1,λh=>by have:=(q gs aj h.1).2;omega,λh=>by have:=s gs h;omega⟩ Ω Ω λN C Y aq au=>?_;refine af _ _ C (Y.mono λr _ h=>h.elim (λh=>by have:=P r h.1;omega) λh=>Ω) aq (O.jU Y (λr e=>?_) au (λj r J e=>?_) λr e=>?_) (λj r e=>?_) (λr L=>⟨(f r L).1,?_⟩) λj J=>?_
 .rcases e with e|rfl
  .exact .inl e
  .exact .inr ⟨λj h=>S j h.1,λh=>by have:=s r h;omega⟩
 .rcases e with e|e|e
  .exact F 3 j r (S3 J) e
  .exact λh=>(q r e.2 e.1).1 j h.1
  .exact λh=>by have:=h.2;omega
 .rcases e with e|e|e
  .exact W 3 r e
  .exact λh=>by have:=(q r e.2 e.1).2;have:=s r h;omega
  .exact λh=>by have:=s r h;omega
 .unfold fc at e;split at e
  .rcases e with e|e|e
   .exact .inl (P r e.1)
   .exact .inl (q r e.2 e.1).2
   .exact .inl Ω
  .exact z j r e.1
 .unfold fc;rw[if_neg Ω];exact⟨(f r L).2,by have:=(f r L).1;omega⟩
 .rw[Y0 (S3 J)]
end
def ln (w:x3) (g:Nat) (k:Int) (sizes:Λ) (s:au):Prop:=∃szv a e f h j,ab w g aE [Δ k,szv,Δ s.zero,a,e,f,h,j]/\aH .i64 w szv sizes/\Seen dg w [szv] sizes/\
 Seen dg w [a] (s.vars.map ay)/\Seen dg w [e] (s.vars.map λx=>decide (x.gone≠0))/\Seen dg w [f] (s.vars.map (·.un))/\Seen dg w [h] (s.funs.map gu)/\Seen dg w [j] (s.ce.map l5)
section
variable {w w':x3} {g:Nat} {v:x1} {k:Int} {sizes:Λ} {s:au}
theorem ln.ext (h:ln w g k sizes s) (a:Ext w w'):ln w' g k sizes s:=by
 obtain⟨szv,e,f,j,p,q,r,h1,x,y,z,A,B,C⟩:=h;exact⟨szv,e,f,j,p,q,r.ext a,h1.ext a,bc x a,bc y a,bc z a,bc A a,bc B a,bc C a⟩
theorem hC.box (h:hC w v k sizes s) (f:Ext w w') (j:ab w' g aE v.cells.toList):ln w' g k sizes s:=by
 obtain⟨cs,rfl,szv,z,B,C,E,F,rfl,h1,p,q,r,x,y,_⟩:=h;obtain⟨_,_,_,G⟩:=ds (cU h1);have c:∀ {α:Type} [ak α] {v:x1} {l:List α} {A:ag},ak.rep false A dg w [v] l-> ∃a n c,v= .slice a n c:=λh=>by
  obtain⟨_,_,_,_,_,⟨_,b,o,base,cap,e,_⟩,_⟩:=hQ h;exact⟨_,_,_,e⟩
 obtain⟨_,_,_,H⟩:=c p;obtain⟨_,_,_,I⟩:=c q;obtain⟨_,_,_,J⟩:=c r;obtain⟨_,_,_,K⟩:=c x;obtain⟨_,_,_,L⟩:=c y;refine⟨szv,z,B,C,E,F,?_,(cU h1).ext f,bc h1 f,bc p f,bc q f,bc r f,bc x f,bc y f⟩;rw[G,H,I,J,K,L] at j ⊢;exact j
theorem ln.load {K:x1->Prop} (h:ln w g k sizes s) (a:∀u,hC w u k sizes s->K u):aa x7 (u5 aE (Γ g)) w K:=by
 obtain⟨szv,e,f,j,q,r,x,h1,y,z,A,B,C,E⟩:=h;rw[bD aE.p aE.i rfl x.range];exact a _ ⟨_,rfl,szv,e,f,j,q,r,rfl,y,z,A,B,C,E,λh=>by cases h⟩
theorem DY {i:Int} (h:hC w v k sizes s):ai x7 F8 [v,Δ i] w λr w'=>r= .bool (decide (0<=i/\i<sizes.length))/\Ext w w':=by
 refine aw func22 ?_;refine bm λg1 J x a e=>?_;obtain⟨szv,y,z,A,B,C,e,q,_⟩:=h.box a e;refine aU (λv U=>v= .bool (decide (0<=i/\i<sizes.length))/\Ext w U) (λ_ _ h=>h) λav f=>?_;rw[cY,aj];refine⟨λj=>?_,λj=>f _ _ ⟨by rw[decide_eq_false];omega,a⟩⟩;rw[aA aE.p 1 e rfl,aX am.u q,aR];refine f _ _ ⟨?_,a⟩;congr 1;exact decide_eq_decide.2 ⟨λh=>⟨j,h⟩,λh=>h.2⟩
theorem mS {S R:ag} {f:b0} (h:ak.rep (α:=hB) m S R w cs (gu f)):∃aF szv aZ,cs=[aF,szv,aZ,.bool (decide (f.live≠0))]/\Seen dg w [aF] f.sc/\Seen dg w [szv] f.ad/\Seen dg w [aZ] f.cs:=by
 obtain⟨C,p,A,B,rfl,_,_,_,⟨q,E,aK,F,rfl,_,_,_,h1,r,s,G,ew,rfl,_,_,_,a,e⟩,j⟩:=h;have one:∀ {α:Type} [ak α] {m:Bool} {S R:ag} {c:List x1} {l:List α},ak.rep m S R w c l-> ∃v,c=[v]:=λh=>by obtain⟨v,x,_⟩:=h;exact⟨v,x⟩
 have h1:Seen _ w q f.sc:=h1;have a:Seen _ w r f.ad:=a;have j:p=[.bool (decide (f.live≠0))]:=j;have e:ak.rep m ew R w s f.cs:=e;obtain⟨y,rfl⟩:=one h1;obtain⟨z,rfl⟩:=one a;obtain⟨v3,rfl⟩:=one e;subst j;exact⟨y,z,v3,rfl,gU h1,gU a,gU e⟩
theorem OS {j:Int} (h:hC w v k sizes s):ai x7 Hn [v,Δ j] w λr w'=>r= .bool (decide (0<=j)&&gx s j.toNat)/\Ext w w':=by
 refine aw func130 ?_;refine bm λg1 J C a e=>?_;obtain⟨szv,E,G,H,I,K,e,L,_,_,_,_,y,_⟩:=h.box a e;refine aU (λv U=>v= .bool (decide (0<=j)&&gx s j.toNat)/\Ext w U) (λ_ _ h=>h) λav q=>?_;rw[cY,aj];refine⟨λx=>?_,λx=>q _ _ ⟨by rw[decide_eq_false x];rfl,a⟩⟩;rw[aA aE.p 6 e rfl,fA dP.u y,aR,aj,u7];refine⟨λM=>?_,λN=>q _ _ ⟨by unfold gx;rw[Z3 Ω,Bool.and_false],a⟩⟩;obtain⟨f,z⟩:=aI (l:=s.funs) (i:=j.toNat) Ω;rw[aA aE.p 6 e rfl];refine ia (i:=j.toNat) Ω dP.u db.i y (by rw[x8,z];rfl) λb o cs A B=>?_;obtain⟨O,P,v3,rfl,_⟩:=mS B;rw[aQ db.p rfl,aB (v:=.bool (decide (f.live≠0))) Ψ (A 3 _ rfl)];exact q _ _ ⟨by unfold gx;rw[z,decide_eq_true x,U7],a⟩
end
end Go.Proofs.YtjjhhcfgfdepdaaGreatDoor
namespace Go.Vc
open Go Go.RowKit
section
variable {P:W3} {w:x3} {α:Type} [ak α] {S R:ag}
theorem q0 {t:r9} {b:Nat} (f:P.underlying t=σ (.slice e)) (hi:aN P e (ak.n α) b z)
  (j:∀v w',Ext w w'->bj (λr=>w.heap.size<=r) R w' [v] ([]:List α)->K v w'):ax P (Y1 t 0 #[]) w K:=
 jj f hi Ω (cs:=#[]) (by simp[Instr.fill]) λg w' x p q=>j _ w' p (by
  have hm:bQ w' g e (ak.n α) (.slice (σ ⟨g,0,ν⟩) 0 0) 0 []:=bQ.full (by simpa using q) Ξ (by simp[maxLen]);exact⟨_,rfl,[],g,λ_ _=>False,⟨λ_ _ h=>h.elim,λ_ _ h=>h,λ_ _ _ _ _ h=>h.elim⟩,⟨rfl,λi c a s=>by simp at s⟩,nw hm (.inr (.inl Ω)),λ_=>⟨.inr Ω,e,hm⟩⟩)
theorem q1 {t p:r9} {b:Nat} {v x:x1} {S':ag} {l':List α} (j:P.underlying t=σ (.slice e)) (hi:aN P e (ak.n α) b z) (q:z.cells.size=ak.n α)
  (h:bj S R w [v] ([]:List α)) (s:ak.rep m S' R w [x] l') (y:∀ {F:ag} {c:List x1} {a:α},ak.rep m F R w c a->bj (λ_=>False) R w c a)
  (A:∀r,r<w.heap.size->S r->¬R r) (B:l'.length*b<=140737488355328) (C:l'.length<=9223372036854775807)
  (E:∀f w',bj (λr=>S r\/w.heap.size<=r) R w' [f] l'->ae S w w'->K f w'):ax P (b8 #[t,t] p #[v,x]) w K:=by
 obtain⟨vs,g,F,N,he,I,_⟩:=hQ s;refine zE (l:=[]) (l':=l') (us:=vs) (G:=λ_ _=>False) j j hi q h I.sl ⟨he.1,λi c a H J=>y (he.2 i c a H J)⟩ (λ_ _ _ _ h=>h.elim) (λr L h=>⟨λ_ h=>h,A r L h⟩) (by simpa using B) (by simpa using C) λf w' h1 M=>E f w' (ak.mono h1 (λr _ h=>?_) λ_ _ h=>h) M;rcases h with h|⟨_,h⟩|h
 .exact .inl h
 .exact h.elim
 .exact .inr h
end
end Go.Vc
namespace Go.Proofs.YtjjhhcfgfdepdaaGreatDoor
open Go Go.Vc Go.RowKit Go.Proofs Go.Proofs.Tryz
set_option maxRecDepth 100000
theorem pk {α:Type} [ak α] {S R:ag} {v:x1} {l:List α} (h:ak.rep m S R w [v] l):∃a n c,v= .slice a n c:=by
 obtain⟨_,_,_,_,_,⟨_,b,o,base,cap,e,_⟩,_⟩:=hQ h;exact⟨_,_,_,e⟩
theorem OT {b9:Nat->ag} {R:ag} {s:au} (h:gv true b9 R w cs k sizes s) (E:∀r,R r->r<w.heap.size) (aL:bq k sizes s) (eR:s.funs.length<=1000) (he:s.ce.length<=1000):
  ai x7 pL [.agg cs.toArray] w λv w'=>Ext w w'/\ ∃A bt,v= .agg bt.toArray/\gv true A R w' bt k sizes s/\ ∀q r,A q r->w.heap.size<=r:=by
 have eS:=aL.fb.2.1;have eU:=aL.vars;obtain⟨szv,aa,ac,af,aj,I,rfl,ca,bp,cb,cc,br,bw,c7⟩:=bu.old h;refine aw func25 ?_;refine bm λg1 J eV cg N=>?_;have N:ab J g1 aE [Δ k,szv,Δ s.zero,aa,ac,af,aj,I]:=by
  obtain⟨_,_,_,c8⟩:=pk ca;obtain⟨_,_,_,c9⟩:=pk bp;obtain⟨_,_,_,da⟩:=pk cb;obtain⟨_,_,_,dc⟩:=pk cc;obtain⟨_,_,_,dd⟩:=pk br;obtain⟨_,_,_,de⟩:=pk bw;rw[c8,c9,da,dc,dd,de] at N ⊢;exact N
 have df:∀u∈([Δ k,szv,Δ s.zero,aa,ac,af,aj,I]:List x1),u.oneCell'=true:=(bu.len h).2;refine bB aE.i λgt U eW bx ci=>?_;rw[bD aE.p aE.i rfl (N.ext bx).range];refine bB aE.i λgs eX eY bz dg=>?_;refine b3 (vs:=[Δ k,szv,Δ s.zero,aa,ac,af,aj,I]) aE.i rfl rfl df dg λO cj eZ ck=>?_;have e0:=cg.size;have e1:=bx.size;have z3:=bz.size;have e2:=N.lt;have e3:=ci.lt;have bA:Ext J O:=(bx.trans bz).put cj Ω;have dh:=(ci.ext bz).V cj λhe=>by have he:gt=gs:=he;omega
 have cl:=cg.trans bA;have bC:∀r,R r->r<gs:=λr B=>by have:=E r B;omega
 refine q0 (α:=Bool) (R:=R) hn.u eB.i λv5 P an di=>?_;have aM:=bA.trans an;have z4:=bA.size;have z5:=an.size;rw[aA aE.p 4 (N.ext aM) rfl];refine q1 (α:=Bool) hn.u eB.i rfl di (bc (bc cb cl) an) (λh=>h) (λr B y H=>by have:=E r H;omega) Θ Θ λbE aY bF cm=>?_;have aW:∀ {K L:x3} {b:Nat} {e:r9} {c:List x1},ae (λr=>gs<=r) K L->b<gs->ab K b e c->ab L b e c:=λbG e4 h=>h.V bG λy=>by have y:gs<=_:=y;omega
 have aN:∀ {K L:x3},Ext w K->ae (λr=>gs<=r) K L->Ext w L:=λdj bG=>dj.then bG λr B h=>by have h:gs<=r:=h;omega
 have e5:=ck.lt;have bI:ae (λr=>gs<=r) P aY:=cm.mono λr _ h=>by have h:O.heap.size<=r:=h;omega
 have dk:ab aY gs aE [Δ k,szv,Δ s.zero,aa,ac,af,aj,I]:=(ck.ext an).V cm λh=>by have h:O.heap.size<=gs:=h;omega
 rw[aQ aE.p rfl];refine bo (g:=gs) (o:=3) cK.i Ψ rfl dk Ξ λe7 dl e8 dm=>?_;rw[aQ aE.p rfl];refine bo (g:=gs) (o:=4) hn.i (kT bF) (e6 bF) dm Ξ λe9 dn fa dp=>?_;rw[aQ aE.p rfl];refine bo (g:=gs) (o:=5) cN.i Ψ rfl dp Ξ λfd dq fe dr=>?_;rw[aQ aE.p rfl];refine bo (g:=gs) (o:=6) dP.i Ψ rfl dr Ξ λaZ ds ff bJ=>?_;have bJ:ab aZ gs aE [Δ k,szv,Δ s.zero,.slice ν 0 0,bE,.slice ν 0 0,.slice ν 0 0,I]:=bJ;have bK:∀ {K L:x3},ae (λr=>r=gs) K L->ae (λr=>gs<=r) K L:=λh=>h.mono λr _ h=>by have h:r=gs:=h;omega
 have a1:ae (λr=>r=gs) aY aZ:=((dl.trans dn).trans dq).trans ds;have a2:Ext w aZ:=aN (aN (cl.trans an) bI) (bK a1);have cn:=aW (bK a1) Ω (aW bI Ω (N.ext aM));have dt:=aW (bK a1) Ω (aW bI Ω (dh.ext an));obtain⟨fg,du⟩:=c7 rfl;let Z:ag:=λr=>b9 4 r/\r<w.heap.size;have cp:∀r,Z r->r<gs:=λr h=>by have:=h.2;omega
 let Q:Nat->ag:=λj r=>if j=1 then O.heap.size<=r else if j=4 then Z r else False;have dv:bu true Q R aZ [Δ k,szv,Δ s.zero,.slice ν 0 0,bE,.slice ν 0 0,.slice ν 0 0,I] k sizes s.zero [] (s.vars.map λx=>decide (x.gone≠0)) [] [] (s.ce.map l5):=by
  refine⟨_,_,_,_,_,_,rfl,bc ca a2,gh,?_,gh,gh,bc bw a2,λ_=>⟨λi j r fh h1 y=>?_,λi r h1 y=>?_⟩⟩
  .have dw:bj (λr=>O.heap.size<=r) R aY [bE] (s.vars.map λx=>decide (x.gone≠0)):=ak.mono bF (λr _ h=>by
    rcases h with h|h
    .exact h
    .show O.heap.size<=r;omega) λ_ _ h=>h
   refine ak.V dw a1 λr B h1 y=>?_;have y:r=gs:=y;subst y;rcases h1 with h1|h1
   .have h1:O.heap.size<=r:=h1;omega
   .have:=E r h1;omega
  .simp only[Q] at h1 y;split at h1<;>split at y
   .omega
   .split at y
    .have:=y.2;omega
    .exact y
   .split at h1
    .have:=h1.2;omega
    .exact h1
   .split at h1<;>split at y
    .omega
    .exact y
    .exact h1
    .exact h1
  .simp only[Q] at h1;have:=E r y;split at h1
   .omega
   .split at h1
    .exact du 4 r h1 y
    .exact h1
 have dx:∀j r,Q j r->gs<r\/Z r:=λj r h=>by
  simp only[Q] at h;split at h
  .exact .inl Ω
  .split at h
   .exact .inr h
   .exact h.elim
 have dy:∀r,Z r->r<gs/\Q 4 r:=λr h=>⟨cp r h,h⟩;have dz:=bc bp a2;rw[aA aE.p 3 cn rfl,fA cK.u dz,u7];refine ch.range s.vars.length (λi P=>Ext w P/\ab P g1 aE [Δ k,szv,Δ s.zero,aa,ac,af,aj,I]/\ab P gt aE z12/\ ∃A cs,ab P gs aE cs/\(∀q r,A q r->gs<r\/Z r)/\(∀r,Z r->r<gs/\A 4 r)/\
  bu true A R P cs k sizes s.zero ((s.vars.take i).map ay) (s.vars.map λx:bi=>decide (x.gone≠0)) ((s.vars.take i).map λx:bi=>x.un) [] (s.ce.map l5)) Ω ⟨a2,cn,dt,Q,_,bJ,dx,dy,dv⟩ ?_ ?_
 .rintro i dA dC hi ⟨a6,a7,bL,A,cs,ap,bM,aO,aR⟩ dD;obtain⟨x,a8⟩:=aI (l:=s.vars) hi;obtain⟨z,cq⟩:=aI (l:=sizes) (i:=i) Ω;have fi:=(aL.var i x z a8 cq).1;have fj:=aL.fb.2.2 z (x5 cq);have fk:(ay x).length<=32:=by
   unfold ay;refine Y5 (List.length_filter_le _ _) ?_;rw[u7,List.length_range];omega
  have dE:=ap.lt;refine bH Ω ?_;intro aq S _ _;have bN:=a6.trans S;have fm:=S.size;have cr:=a7.ext S;obtain⟨d0,ct⟩:=aR.at 3 Ω;rw[aA aE.p 3 (ap.ext S) ct,aA aE.p 3 cr rfl];refine ia (α:=Λ) (a:=ay x) rfl cK.u am.i (bc bp bN) (by rw[x8,a8];rfl) λfo fp dF dG cu=>?_;obtain⟨cw,rfl⟩:∃u,dF=[u]:=by obtain⟨u,hu,_⟩:=cu;exact⟨u,hu⟩
  rw[aB (v:=cw) Ψ (by have:=dG 0 cw rfl;simpa using this)];refine q0 (α:=Int) (R:=R) am.u ah.i λfq fs ba dH=>?_;refine⟨.inl ba,?_⟩;refine q1 (α:=Int) am.u ah.i rfl dH (bc cu ba) (λh=>h) (λr B y H=>by have:=E r H;have:=bN.size;omega) Ω Ω λcz cA cB cC=>?_;have ft:=ba.size;have fu:=cC.size;have cD:Ext aq cA:=ba.then cC λr B h=>by have h:aq.heap.size<=r:=h;omega
  refine⟨.inl cD,?_⟩;have cE:bj (λr=>aq.heap.size<=r) R cA [cz] (ay x):=ak.mono cB (λr _ h=>by
   rcases h with h|h
   .exact h
   .show aq.heap.size<=r;omega) λ_ _ h=>h
  refine iH cK.u am.i Φ (a:=ay x) (cs:=[cz]) (kT cB) cE λfv fw aM _ dI=>?_;have av:=cD.trans aM;refine⟨.inl av,?_⟩;have dJ:=aR.old.ext (S.trans av);refine bu.OP dJ (ap.ext (S.trans av)) ct (λq r h=>bM q r h.1) (λr h=>⟨(aO r h).1,(aO r h).2,by have:=(aO r h).1;omega⟩) bC dI (bc cE aM) (λr B h=>⟨λj y=>by have h:aq.heap.size<=r:=h;omega,by have h:aq.heap.size<=r:=h;omega⟩) Θ λfx fy dK bO bP cF dL bQ _=>?_;have dM:Ext w dK:=aN (bN.trans av) bO;have dN:=aW bO Ω (cr.ext av);have dO:=aW bO Ω ((bL.ext S).ext av);have fB:=bP.lt;intro ax W _ _;have bR:=dM.trans W;have fD:=W.size;have cG:=dN.ext W;obtain⟨fE,cH⟩:=cF.at 5 Ω;rw[aA aE.p 5 (bP.ext W) cH,aA aE.p 5 cG rfl];refine ia (α:=Λ) (a:=x.un) rfl cN.u ao.i (bc cc bR) (by rw[x8,a8];rfl) λfF fG bb dQ cI=>?_;obtain⟨cJ,rfl⟩:∃u,bb=[u]:=by obtain⟨u,hu,_⟩:=cI;exact⟨u,hu⟩
  rw[aB (v:=cJ) Ψ (by have:=dQ 0 cJ rfl;simpa using this)];refine q0 (α:=Int) (R:=R) ao.u al.i λfH fI bd dR=>?_;refine⟨.inl bd,?_⟩;refine q1 (α:=Int) ao.u al.i rfl dR (bc cI bd) (λh=>h) (λr B y H=>by have:=E r H;have:=bR.size;omega) Ω Ω λcL cM cO cP=>?_;have fJ:=bd.size;have fK:=cP.size;have cQ:Ext ax cM:=bd.then cP λr B h=>by have h:ax.heap.size<=r:=h;omega
  refine⟨.inl cQ,?_⟩;have cR:bj (λr=>ax.heap.size<=r) R cM [cL] x.un:=ak.mono cO (λr _ h=>by
   rcases h with h|h
   .exact h
   .show ax.heap.size<=r;omega) λ_ _ h=>h
  refine iH cN.u ao.i Φ (a:=x.un) (cs:=[cL]) (kT cO) cR λfL fN cS _ dS=>?_;have az:=cQ.trans cS;refine⟨.inl az,?_⟩;have dT:=cF.old.ext (W.trans az);refine bu.OQ dT (bP.ext (W.trans az)) cH (λq r h=>dL q r h.1) (λr h=>⟨(bQ r h).1,(bQ r h).2,by have:=(bQ r h).1;omega⟩) bC dS (bc cR cS) (λr B h=>⟨λj y=>by have h:ax.heap.size<=r:=h;omega,by have h:ax.heap.size<=r:=h;omega⟩) Θ λdU dV fO bS dW dX dY dZ _=>?_;rw[aP];refine dD _ ⟨aN (bR.trans az) bS,aW bS Ω (cG.ext az),aW bS Ω ((dO.ext W).ext az),dU,dV,dW,dY,dZ,?_⟩;rw[u9,a8,o7,j6,j6];exact dX
 rintro dA dC ⟨a6,a7,bL,A,cs,ap,bM,aO,aR⟩;rw[o5] at aR;refine cd Ω ?_;have ea:=bc br a6;have dE:=ap.lt;rw[aA aE.p 6 a7 rfl,fA dP.u ea,u7];refine ch.range s.funs.length (λj C=>Ext w C/\ab C g1 aE [Δ k,szv,Δ s.zero,aa,ac,af,aj,I]/\ab C gt aE z12/\ ∃A cs,ab C gs aE cs/\(∀q r,A q r->gs<r\/Z r)/\(∀r,Z r->r<gs/\A 4 r)/\
  bu true A R C cs k sizes s.zero (s.vars.map ay) (s.vars.map λx:bi=>decide (x.gone≠0)) (s.vars.map λx:bi=>x.un) ((s.funs.take j).map gu) (s.ce.map l5)) Ω ⟨a6,a7,bL,A,cs,ap,bM,aO,aR⟩ ?_ ?_
 .rintro j C eb cT ⟨M,bT,be,aS,bb,aC,bf,aT,X⟩ ec;obtain⟨f,bU⟩:∃f,s.funs[j]? =σ f:=⟨_,x6 cT⟩;obtain⟨_,fP,fQ⟩:=wY aL (x5 bU);have ed:=aC.lt;refine bH Ω ?_;refine kj db.p rfl dP.u db.i (bc br M) (by rw[x8,bU];rfl) λfR bV=>?_;have ee:=ak.one bV;have fS:=bV;obtain⟨cU,cV,eh,ew,rfl,_,_,_,⟨bg,cW,ef,eg,rfl,_,_,_,aD,cX,cY,fU,ei,rfl,_,_,_,aF,aG⟩,bW⟩:=bV;have aD:Seen R C bg f.sc:=aD;have aF:Seen R C cX f.ad:=aF;have aG:ak.rep true ei R C cY f.cs:=aG;have bW:cV=[.bool (decide (f.live≠0))]:=bW;obtain⟨aU,rfl⟩:∃u,bg=[u]:=by obtain⟨u,hu,_⟩:=aD;exact⟨u,hu⟩
  obtain⟨aH,rfl⟩:∃u,cX=[u]:=by obtain⟨u,hu,_⟩:=aF;exact⟨u,hu⟩
  obtain⟨v3,rfl⟩:∃u,cY=[u]:=by obtain⟨u,hu,_⟩:=aG;exact⟨u,hu⟩
  subst bW;refine bB db.i λaJ fV fW ej ek=>?_;refine b3 (vs:=[aU,aH,v3,.bool (decide (f.live≠0))]) db.i rfl rfl ee ek λG em fX bh=>?_;have bX:Ext C G:=ej.put em Ω;refine q0 (α:=Int) (R:=R) ao.u al.i λfY fZ bk en=>?_;have cZ:=bX.trans bk;rw[aQ db.p rfl,aQ aV.p rfl,aB (v:=v3) Ψ ((bh.ext bk).cell (o:=0+0+2) rfl)];refine q1 (α:=Int) ao.u al.i rfl en (bc aG cZ) (λh=>h) (λr B y H=>by have:=E r H;have:=(M.trans bX).size;omega) Ω Ω λaK gb bY bZ=>?_;have gc:=bX.size;have gd:=bk.size;have gf:=bZ.size;have eo:=(bh.ext bk).V bZ λh=>by have h:G.heap.size<=aJ:=h;have:=bh.lt;omega
  rw[aQ db.p rfl,aQ aV.p rfl];refine bo (g:=aJ) (o:=2) ao.i (kT bY) (e6 bY) eo Ξ λbl c0 gg b0=>?_;have b0:ab bl aJ db [aU,aH,aK,.bool (decide (f.live≠0))]:=b0;have gi:C.heap.size<=aJ:=Ω
  have gj:=bh.lt;have bn:Ext C bl:=(cZ.then bZ λr B h=>by have h:G.heap.size<=r:=h;omega).then c0 λr B h=>by have h:r=aJ:=h;omega
  have ep:bj (λr=>G.heap.size<=r) R bl [aK] f.cs:=ak.mono (ak.V bY c0 λr B h y=>by
   have y:r=aJ:=y;rcases h with h|h
   .rcases h with h|h
    .have h:G.heap.size<=r:=h;omega
    .omega
   .have:=E r h;have:=M.size;omega) (λr _ h=>by
    rcases h with h|h
    .exact h
    .show G.heap.size<=r;omega) λ_ _ h=>h
  have own:bj (α:=hB) (λr=>G.heap.size<=r) R bl [aU,aH,aK,.bool (decide (f.live≠0))] (gu f):=
   ⟨[aU,aH,aK],[.bool (decide (f.live≠0))],λr=>G.heap.size<=r,λ_=>False,rfl,λ_ h=>h,λ_ h=>h.elim,λ_ _ _ h=>h,⟨[aU],[aH,aK],λ_=>False,λr=>G.heap.size<=r,rfl,λ_ h=>h.elim,λ_ h=>h,λ_ _ h=>h.elim,bc aD bn,[aH],[aK],λ_=>False,λr=>G.heap.size<=r,rfl,λ_ h=>h.elim,λ_ h=>h,λ_ _ h=>h.elim,bc aF bn,ep⟩,rfl⟩
  obtain⟨f0,c1⟩:=X.at 6 Ω;rw[aA aE.p 6 (aC.ext bn) c1,bD db.p db.i rfl b0.range];refine iH dP.u db.i Φ rfl own λgk gl c2 _ er=>?_;have aX:=bn.trans c2;have es:=X.old.ext aX;refine bu.OR es (aC.ext aX) c1 (λq r h=>bf q r h.1) (λr h=>⟨(aT r h).1,(aT r h).2,by have:=(aT r h).1;omega⟩) bC er (bc own c2) (λr B h=>⟨λj y=>by have h:G.heap.size<=r:=h;omega,by have h:G.heap.size<=r:=h;omega⟩) Θ λet eu gm b1 ev ey ez eA _=>?_;rw[aP];refine ec _ ⟨aN (M.trans aX) b1,aW b1 Ω (bT.ext aX),aW b1 Ω (be.ext aX),et,eu,ev,ez,eA,?_⟩;rw[u9,bU,o7,j6];exact ey
 rintro C eb ⟨M,bT,be,aS,bb,aC,bf,aT,X⟩;rw[o5] at X;refine cd Ω ?_;have ed:=aC.lt;have gn:=M.size;refine q0 (α:=jr) (R:=R) jz.u fM.i λgp eC Y eD=>?_;have gq:=Y.size;rw[aA aE.p 7 (bT.ext Y) rfl];refine q1 (α:=jr) jz.u fM.i rfl eD (bc bw (M.trans Y)) (λh=>?_) (λr B y H=>by have:=E r H;omega) Θ Θ λb2 gw b4 b5=>?_
 .obtain⟨cU,cV,eh,ew,rfl,_,_,_,aD,bg,cW,ef,eg,rfl,_,_,_,aF,aG⟩:=h;exact⟨cU,_,λ_=>False,λ_=>False,rfl,λ_ h=>h,λ_ h=>h,λ_ _ h=>h.elim,aD,bg,cW,λ_=>False,λ_=>False,rfl,λ_ h=>h,λ_ h=>h,λ_ _ h=>h.elim,aF,aG⟩
 have gx:=b5.size;have eE:=(aC.ext Y).V b5 λh=>by have h:C.heap.size<=gs:=h;omega
 rw[aQ aE.p rfl];refine bo (g:=gs) (o:=7) jz.i (kT b4) (e6 b4) eE (by rw[(bu.len X).1];omega) λb6 c3 gA eF=>?_;have b7:ae (λr=>C.heap.size<=r\/r=gs) eC b6:=(b5.mono λr _ h=>.inl h).trans (c3.mono λr _ h=>.inr h);have eH:bj (λr=>C.heap.size<=r) R b6 [b2] (s.ce.map l5):=ak.mono (ak.V b4 c3 λr B h y=>by
  have y:r=gs:=y;rcases h with h|h
  .rcases h with h|h
   .have h:C.heap.size<=r:=h;omega
   .omega
  .have:=E r h;omega) (λr _ h=>by
   rcases h with h|h
   .exact h
   .show C.heap.size<=r;omega) λ_ _ h=>h
 have eI:=(X.old).ext Y;have eJ:∀j,¬aS j gs:=λj h=>(bf j gs h).elim (λh=>Ω) λh=>by have:=cp gs h;omega
 have eK:∀i j r,i≠j->aS i r->¬aS j r:=by obtain⟨_,_,_,_,_,_,_,_,_,_,_,_,_,eL⟩:=id X;exact (eL rfl).1
 have c4:=eI.Od (x:=b2) b7 (λr B=>?_) eH (λj r cT B y=>by have B:C.heap.size<=r:=B;have:=y.2;omega) (λr B y=>by have B:C.heap.size<=r:=B;have:=E r y;omega)
 rotate_left
 .refine .inr ⟨λj y=>?_,λy=>?_⟩
  .rcases B with B|rfl
   .have:=y.2;omega
   .exact eJ j y.1
  .have:=E r y;rcases B with B|B<;>omega
 obtain⟨b8,eM⟩:=c4.len;have eN:ab b6 gt aE z12:=(be.ext Y).V b7 λh=>by
  rcases h with h|h
  .have:=be.lt;omega
  .omega
 rw[bD aE.p aE.i b8 eF.range];refine b3 (vs:=bb.set 7 b2) aE.i b8 rfl eM eN λgB c5 gC eO=>?_;rw[fz aE.p aE.i b8 eO.range];have c6:∀q r,fc (λi r=>aS i r/\r<C.heap.size) 4 (λr=>C.heap.size<=r) q r->gs<r:=λq r h=>by
  unfold fc at h;split at h
  .have h:C.heap.size<=r:=h;omega
  .rename_i eP;exact (bf q r h.1).resolve_right λy=>eK q 4 r eP h.1 (aT r y).2
 have eQ:=c4.V c5 λr B h he=>by
  have he:r=gt:=he;rcases h with⟨q,h⟩|h
  .have:=c6 q r h;omega
  .have:=E r h;omega
 refine⟨((M.trans Y).then b7 λr B h=>?_).then c5 λr B h=>by have h:r=gt:=h;omega,_,_,rfl,eQ,λq r h=>by have:=c6 q r h;omega⟩;rcases h with h|h<;>omega
theorem DZ {T:Nat->Prop} (h:ae S w w') (k:ae T w w'):ae (λr=>S r/\T r) w w':=
 ⟨h.size,λr o a I f=>by
  by_cases e:S r
  .exact k.aW r o a I λj=>f ⟨e,j⟩
  .exact h.aW r o a I e⟩
theorem tB {A R:ag} {n:aT} {s:au} {t:aC} (h:bV w ac af A R n s t):∀r,A r\/R r->r<w.heap.size:=λr a=>by
 obtain⟨j,p,q,x,⟨_,_,e,f⟩,_⟩:=h.1;exact a.elim (f r) (e r)
structure ck (w:x3) (ac af an:Nat) (A R:ag) (A9:Nat->ag) (aG:ag) (n:aT) (s u:au) (t:aC) (h:List aC) (cs:List x1):Prop where
 eV:bV w ac af A R n s t
 iZ:er t h
 box:ab w an aE cs
 doc:gv true A9 aG w cs n.k n.sizes u
 apart:∀q r,A9 q r->¬A r/\¬R r/\r≠an
 read:∀r,aG r->¬eQ w r/\r<w.heap.size/\r≠an
 out:¬A an/\¬R an
section
variable {w w':x3} {ac af an:Nat} {A R:ag} {A9:Nat->ag} {aG:ag} {n:aT} {s u:au} {t:aC} {h:List aC} {cs:List x1}
theorem ck.ext (p:ck w ac af an A R A9 aG n s u t h cs) (a:Ext w w'):ck w' ac af an A R A9 aG n s u t h cs:=
 ⟨p.eV.ext a,p.iZ,p.box.ext a,p.doc.ext a,p.apart,λr e=>⟨λh=>(p.read r e).1 (mK (λo f I _=>a.aW r o f I) h),by have:=(p.read r e).2.1;have:=a.size;omega,(p.read r e).2.2⟩,p.out⟩
theorem ck.prog {aK R':ag} {s':au} {br:aC} {h':List aC} (p:ck w ac af an A R A9 aG n s u t h cs) (x:ae (eQ w) w w') (f:Grow A w aK w') (C:bV w' ac af aK R' n s' br) (j:er br h') (y:∀r,R' r->R r\/B<=r) (E:∀q r,A9 q r->r<w.heap.size->r<B) (J:an<B):
  ck w' ac af an aK R' (λq r=>A9 q r/\r<w.heap.size) aG n s' u br h' cs:=by
 have K:=p.box.lt;have z:=x.size;refine⟨C,j,p.box.V f.1 p.out.1,bu.V p.doc.old (DZ x f.1) λr e h j=>?_,λq r h=>⟨λa=>?_,λe=>(y r e).elim (p.apart q r h.1).2.1 λF=>by have:=E q r h.1 h.2;omega,(p.apart q r h.1).2.2⟩,λr e=>⟨λh=>?_,by have:=(p.read r e).2.1;omega,(p.read r e).2.2⟩,λa=>?_,λe=>(y an e).elim p.out.2 λF=>Ω⟩
 .rcases h with⟨q,h⟩|h
  .exact (p.apart q r h.1).1 j.2
  .exact (p.read r h).1 j.1
 .rcases f.2.1 r a with a|a
  .exact (p.apart q r h.1).1 a
  .have:=h.2;omega
 .exact (p.read r e).1 (mK (λo G I H=>x.aW r o G I H) h)
 .rcases f.2.1 an a with a|a
  .exact p.out.1 a
  .omega
theorem ck.OU {S:ag} {cJ:Nat->ag} {u':au} {bt:List x1} (p:ck w ac af an A R A9 aG n s u t h cs) (f:ae S w w') (y:∀r,r<w.heap.size->S r->(∃q,A9 q r)\/r=an) (B:ab w' an aE bt) (C:gv true cJ aG w' bt n.k n.sizes u') (E:∀q r,cJ q r->(∃j,A9 j r)\/(¬A r/\¬R r/\r≠an)):
  ck w' ac af an A R cJ aG n s u' t h bt:=by
 have J:=p.box.lt;have z:=f.size;have F:∀q r,A9 q r->¬aG r:=by obtain⟨_,_,_,_,_,_,_,_,_,_,_,_,_,G⟩:=p.doc;exact (G rfl).2
 refine⟨⟨p.eV.1.V f λr e h I=>?_,p.eV.2⟩,p.iZ,B,C,λq r h=>?_,λr e=>⟨λh=>(p.read r e).1 (mK (λo H I _=>f.aW r o H I λa=>?_) h),by have:=(p.read r e).2.1;omega,(p.read r e).2.2⟩,p.out⟩
 .rcases y r e I with⟨q,a⟩|a
  .exact h.elim (p.apart q r a).1 (p.apart q r a).2.1
  .subst a;exact h.elim p.out.1 p.out.2
 .rcases E q r h with⟨j,a⟩|a
  .exact p.apart j r a
  .exact a
 .rcases y r (p.read r e).2.1 a with⟨q,x⟩|x
  .exact F q r x e
  .exact (p.read r e).2.2 x
theorem ck.OV {S:ag} {cJ:Nat->ag} {u':au} {bt:List x1} (p:ck w ac af an A R A9 aG n s u t h cs) (e:∀r,A r\/R r->r<B) (E:an<B) (f:ae S w w') (j:∀r,r<w.heap.size->S r->(∃q,A9 q r)\/r=an) (x:ab w' an aE bt) (y:gv true cJ aG w' bt n.k n.sizes u') (z:∀q r,cJ q r->(∃C,A9 C r)\/B<=r):
  ck w' ac af an A R cJ aG n s u' t h bt:=
 p.OU f j x y λq r h=>(z q r h).imp id λF=>⟨λa=>by have:=e r (.inl a);omega,λa=>by have:=e r (.inr a);omega,Ω⟩
theorem ck.D0 {S:ag} {cJ:Nat->ag} {u':au} {bt:List x1} (p:ck w ac af an A R A9 aG n s u t h cs) (a:ae S w w') (e:∀r,r<w.heap.size->S r->(∃q,A9 q r)\/r=an) (f:ab w' an aE bt) (j:gv true cJ aG w' bt n.k n.sizes u') (x:∀q r,cJ q r->(∃y,A9 y r)\/w.heap.size<=r):
  ck w' ac af an A R cJ aG n s u' t h bt:=p.OV (tB p.eV) p.box.lt a e f j x
theorem ck.look (p:ck w ac af an A R A9 aG n s u t h cs):ln w an n.k n.sizes u:=by
 refine hC.box p.doc.Dw (Ext.refl _) ?_;have:=p.box;exact this
theorem ck.pm (p:ck w ac af an A R A9 aG n s u t h cs):∃szv a e f j q,cs=[Δ n.k,szv,Δ u.zero,a,e,f,j,q]/\aH .i64 w szv n.sizes:=by
 obtain⟨szv,a,e,f,j,q,h1,r,_⟩:=p.doc;exact⟨szv,a,e,f,j,q,h1,cU r⟩
end
end Go.Proofs.YtjjhhcfgfdepdaaGreatDoor
namespace Go.Vc
open Go Go.RowKit
section
variable {P:W3} {w:x3} {α:Type} [ak α] {S R:ag}
theorem tC {v:x1} {l:List α} {i:Nat} {a:α} (h:bj S R w [v] l) (H:l[i]? =σ a) (Z:∀r,r<w.heap.size->S r->¬R r):∃g cap c F,v= .slice (σ ⟨g,0,ν⟩) l.length cap/\w.rangeAt g (i*ak.n α) c/\bj F R w c a/\(∀r,F r->S r)/\
  ∀ {w':x3} {a':α} {T z:ag},ae T w w'->(∀r,r<w.heap.size->T r->F r)->bj z R w' c a'->(∀r,z r->F r\/w.heap.size<=r)->bj (λr=>S r\/w.heap.size<=r) R w' [v] (l.set i a'):=by
 have ao:=(x4.1 H).1;obtain⟨vs,g,F,s,he,I,hm⟩:=hQ h;obtain⟨aa,J,K⟩:=hm rfl;obtain⟨ap,⟨rfl,aq⟩|⟨cap,full,rfl,L,au,av,aw,ax⟩⟩:=id K
 .omega
 have ab:vs.length=l.length:=he.1;have M:S g:=aa.resolve_left Ξ;obtain⟨c,B⟩:∃c,vs[i]? =σ c:=⟨_,x6 Ω⟩;have ac:=he.2 i c a B H;refine⟨g,cap,c,F i,rfl,?_,ac,λr p=>s.sub i r p,λ{w' a' T z} N O P C=>?_⟩
 .obtain⟨_,ay,o',az,aA,ad,_,_,af,_,ah⟩:=I;cases ad;cases af Ω;intro j u ai;have Q:=ah (i*ak.n α+j) u (by rw[<-List.flatMap_id];exact oY (f:=id) (k:=ak.n α) (λx aj=>he.len x aj) B ai);rw[X5] at Q;exact Q
 have al:¬T g:=λh=>s.top rfl i (O g L.lt h);have aB:=ak.len P;have aC:vs.set i c=vs:=by
  refine Y2 λq=>?_;rw[X1];by_cases U:i=q
  .subst U;rw[if_pos rfl,if_pos Ω,B]
  .rw[if_neg U]
 have W:bQ w' g J (ak.n α) (.slice (σ ⟨g,0,ν⟩) l.length cap) (l.set i a').length vs.flatten:=by
  rw[Z2];exact K.V N λ_=>al
 refine⟨_,rfl,vs,g,λj r=>if j=i then z r else F j r/\r<w.heap.size,⟨λj r p=>?_,λ_ j p=>?_,λ_ j q r am h1 y=>?_⟩,⟨by simp[ab],λj X Y G E=>?_⟩,?_,λ_=>⟨.inr (.inl M),J,W⟩⟩
 .split at p
  .exact (C r p).imp (s.sub i r) id
  .exact .inl (s.sub j r p.1)
 .split at p
  .rcases C g p with h|h
   .exact s.top rfl i h
   .have:=L.lt;omega
  .exact s.top rfl j p.1
 .split at h1<;>split at y
  .omega
  .rcases C r h1 with h|h
   .rename_i e _;exact s.gJ rfl i q r Ω h y.1
   .have:=y.2;omega
  .rcases C r y with h|h
   .exact s.gJ rfl j i r Ω h1.1 h
   .have:=h1.2;omega
  .exact s.gJ rfl j q r am h1.1 y.1
 .by_cases A:j=i
  .subst A;rw[B] at G;rw[j4 Ω] at E;cases G;cases E;exact ak.mono P (λr _ h=>by simpa using h) λ_ _ h=>h
  .rw[Y0 (S3 A)] at E;have an:bj (λr=>if j=i then z r else F j r/\r<w.heap.size) R w X Y:=ak.mono (he.2 j X Y G E) (λr p h=>by rw[if_neg A];exact⟨h,p⟩) λ_ _ h=>h;refine ak.V an N λr p h1 y=>?_;have y:=O r p y;rcases h1 with h1|h1
   .simp only[if_neg A] at h1;exact s.gJ rfl j i r A h1.1 y
   .exact Z r p (s.sub i r y) h1
 .have:=nw (S:=λr=>(S r\/w.heap.size<=r)\/R r) W (.inr (.inl (.inl M)));exact this
theorem OW {v:x1} {l:List α} {i:Nat} {a:α} (h:bj S R w [v] l) (N:l[i]? =σ a) (O:∀r,r<w.heap.size->S r->¬R r):∃g cap full z c F,v= .slice (σ ⟨g,0,ν⟩) l.length cap/\ab w g z full/\S g/\i*ak.n α+ak.n α<=full.length/\(∀ (q:Nat) x,c[q]? =σ x->full[i*ak.n α+q]? =σ x)/\bj F R w c a/\(∀r,F r->S r)/\¬F g/\
  ∀ {w':x3} {a':α} {A:List x1} {T C:ag},ae T w w'->(∀r,r<w.heap.size->T r->F r\/r=g)->ab w' g z (over full (i*ak.n α) A)->bj C R w' A a'->(∀r,C r->F r\/w.heap.size<=r)->bj (λr=>S r\/w.heap.size<=r) R w' [v] (l.set i a'):=by
 have af:=(x4.1 N).1;obtain⟨vs,g,F,y,he,I,hm⟩:=hQ h;obtain⟨ah,z,ai⟩:=hm rfl;obtain⟨ay,⟨rfl,az⟩|⟨cap,full,rfl,P,Q,aj,U,W⟩⟩:=id ai
 .omega
 have X:vs.length=l.length:=he.1;have G:S g:=ah.resolve_left Ξ;obtain⟨c,K⟩:∃c,vs[i]? =σ c:=⟨_,x6 Ω⟩;have al:=he.2 i c a K N;have am:(i+1)*ak.n α<=l.length*ak.n α:=Y9 _ af;have an:l.length*ak.n α<=full.length:=by rw[U];exact Y9 _ Q
 rw[V9,Nat.one_mul] at am;refine⟨g,cap,full,z,c,F i,rfl,P,G,Ω,λq x Y=>?_,al,λr s=>y.sub i r s,y.top rfl i,λ{w' a' A T C} ao ap aq Z H=>?_⟩
 .have L:=oY (f:=id) (k:=ak.n α) (λx au=>he.len x au) K Y;rw[List.flatMap_id,<-W] at L;have aA:=(x4.1 Y).1;have M:=he.len c (x5 K);rw[Y8 Ω] at L;exact L
 have M:=ak.len Z;have av:∀c∈vs.set i A,c.length=ak.n α:=λc B=>by
  rcases X6 B with p|rfl
  .exact he.len c p
  .exact M
 have aa:bQ w' g z (ak.n α) (.slice (σ ⟨g,0,ν⟩) l.length cap) (l.set i a').length (vs.set i A).flatten:=by
  refine⟨by rw[ki av,Z2,Z2,X],.inr ⟨cap,_,by rw[Z2],aq,by rw[Z2];exact Q,aj,by rw[mr,U],?_⟩⟩;rw[Z2,sI Ω an,W,Du he.len M Ω]
 refine⟨_,rfl,vs.set i A,g,λj r=>if j=i then C r else F j r/\r<w.heap.size,⟨λj r s=>?_,λ_ j s=>?_,λ_ j q r aw h1 p=>?_⟩,⟨by simp[X],λj ac ad B J=>?_⟩,?_,λ_=>⟨.inr (.inl G),z,aa⟩⟩
 .split at s
  .exact (H r s).imp (y.sub i r) id
  .exact .inl (y.sub j r s.1)
 .split at s
  .rcases H g s with h|h
   .exact y.top rfl i h
   .have:=P.lt;omega
  .exact y.top rfl j s.1
 .split at h1<;>split at p
  .omega
  .rcases H r h1 with h|h
   .rename_i e _;exact y.gJ rfl i q r Ω h p.1
   .have:=p.2;omega
  .rcases H r p with h|h
   .exact y.gJ rfl j i r Ω h1.1 h
   .have:=h1.2;omega
  .exact y.gJ rfl j q r aw h1.1 p.1
 .by_cases E:j=i
  .subst E;rw[j4 Ω] at B;rw[j4 Ω] at J;cases B;cases J;exact ak.mono Z (λr _ h=>by simpa using h) λ_ _ h=>h
  .rw[Y0 (S3 E)] at B J;have ax:bj (λr=>if j=i then C r else F j r/\r<w.heap.size) R w ac ad:=ak.mono (he.2 j ac ad B J) (λr s h=>by rw[if_neg E];exact⟨h,s⟩) λ_ _ h=>h;refine ak.V ax ao λr s h1 p=>?_;have p:=ap r s p;rcases h1 with h1|h1
   .simp only[if_neg E] at h1;rcases p with p|rfl
    .exact y.gJ rfl j i r E h1.1 p
    .exact y.top rfl j h1.1
   .rcases p with p|rfl
    .exact O r s (y.sub i r p) h1
    .exact O r s G h1
 .have:=nw (S:=λr=>(S r\/w.heap.size<=r)\/R r) aa (.inr (.inl (.inl G)));exact this
end
end Go.Vc
namespace Go.Proofs.YtjjhhcfgfdepdaaGreatDoor
open Go Go.Vc Go.RowKit Go.Proofs Go.Proofs.Tryz
set_option maxRecDepth 100000
section
variable {w0 w:x3} {ac af an ga:Nat} {A R:ag} {A9 cJ:Nat->ag} {aG:ag} {n:aT} {s u:au} {t:aC} {h:List aC} {cs bt:List x1} {aM aF lp:x1} {Q:x1->x3->Prop}
theorem ck.olds (p:ck w0 ac af an A R A9 aG n s u t h cs):ck w0 ac af an A R (λq r=>A9 q r/\r<w0.heap.size) aG n s u t h cs:=
 ⟨p.eV,p.iZ,p.box,p.doc.old,λq r a=>p.apart q r a.1,p.read,p.out⟩
end
theorem tD {α β:Type} {l:List α} {i:Nat} {a b:α} {f:α->β} (h:l[i]? =σ a) (j:f b=f a):(l.set i b).map f=l.map f:=by
 rw[U3,j];refine Y2 λq=>?_;rw[X1];by_cases e:i=q
 .subst e;rw[if_pos rfl,x8,h,if_pos (by rw[u7];exact (x4.1 h).1)];rfl
 .rw[if_neg e]
theorem xd {T:Nat->Prop} (h:ae T w w'):ae (λr=>T r/\r<w.heap.size) w w':=⟨h.size,λr o a I e=>h.aW r o a I λf=>e ⟨f,(j0.1 a).1⟩⟩
section
variable {w0 w w':x3} {ac af an ga:Nat} {A R:ag} {A9:Nat->ag} {aG:ag} {n:aT} {s u u':au} {t:aC} {h:List aC} {cs:List x1} {aM aF lp v:x1} {Q:x1->x3->Prop}
theorem bu.qb {zero:Int} {D:List (Λ)} {G:List Bool} {aS:List (Λ)} {H:List hB} {E:List jr} {i:Nat} (a:cs[i]? =σ v) (h:bu m A9 aG w (cs.set i v) k sizes zero D G aS H E):bu m A9 aG w cs k sizes zero D G aS H E:=by
 have:cs.set i v=cs:=by
  refine Y2 λq=>?_;rw[X1];by_cases e:i=q
  .subst e;have:=(x4.1 a).1;rw[if_pos rfl,if_pos this,a]
  .rw[if_neg e]
 rw[this] at h;exact h
theorem ck.row {T:ag} {cJ:Nat->ag} {q:Nat} (p:ck w ac af an A R A9 aG n s u t h cs) (a:ae T w w') (e:∀r,r<w.heap.size->T r->A9 q r) (f:gv true cJ aG w' cs n.k n.sizes u') (j:∀q r,cJ q r->(∃x,A9 x r)\/w.heap.size<=r):
  ck w' ac af an A R cJ aG n s u' t h cs:=
 p.D0 a (λr y h=>.inl ⟨q,e r y h⟩) (p.box.V a λh=>(p.apart q an (e an p.box.lt h)).2.2 rfl) f j
theorem xe {q:Nat} {B:ag} (a:∀r,B r->A9 q r\/w.heap.size<=r):∀j r,fc A9 q B j r->(∃e,A9 e r)\/w.heap.size<=r:=λj r h=>by
 unfold fc at h;split at h
 .exact (a r h).imp (λh=>⟨q,h⟩) id
 .exact .inl ⟨j,h⟩
end
theorem OX {full c:List x1} {o q:Nat} {x:x1} (f:∀ (k:Nat) y,c[k]? =σ y->full[o+k]? =σ y) (h:o+c.length<=full.length) (j:q<c.length):full.set (o+q) x=over full o (c.set q x):=by
 refine Y2 λk=>?_;rw[oD _ _ _ (by rw[Z2];exact h),X1,Z2];by_cases h1:o<=k/\k<o+c.length
 .rw[if_pos h1,X1];by_cases a:o+q=k
  .rw[if_pos a,if_pos Ω,if_pos Ω,if_pos Ω]
  .rw[if_neg a,if_neg Ω];have e:k-o<c.length:=Ω
   have:=f (k-o) c[k-o] (x6 e);rw[x6 e,<-this];congr 1;omega
 .rw[if_neg h1,if_neg Ω]
section
variable {w0 w w':x3} {ac af an ga:Nat} {A R:ag} {A9:Nat->ag} {aG:ag} {n:aT} {s u u':au} {t:aC} {h:List aC} {cs:List x1} {aM aF lp v:x1} {Q:x1->x3->Prop}
theorem ck.gJ (p:ck w ac af an A R A9 aG n s u t h cs):(∀i j r,i≠j->A9 i r->¬A9 j r)/\ ∀i r,A9 i r->¬aG r:=by
 obtain⟨_,_,_,_,_,_,_,_,_,_,_,_,_,a⟩:=p.doc;exact a rfl
theorem ck.OY {T:ag} (p:ck w ac af an A R A9 aG n s u t h cs) (y:∀q r,A9 q r->r<w.heap.size) (z:cs[6]? =σ v) (e:ae T w w') (f:∀r,r<w.heap.size->T r->A9 3 r) (C:bj (λr=>A9 3 r\/w.heap.size<=r) aG w' [v] (u'.funs.map gu))
  (E:u'.zero=u.zero) (F:u'.vars=u.vars) (G:u'.ce=u.ce):∃cJ,ck w' ac af an A R cJ aG n s u' t h cs/\ ∀q r,cJ q r->(∃H,A9 H r)\/w.heap.size<=r:=by
 have I:=bu.jU p.doc (xd e) (λr a=>.inl (f r a.2 a.1)) C (λj r J a=>?_) (λr a=>?_)
 .have x:=xe (w:=w) (A9:=A9) (q:=3) (B:=λr=>A9 3 r\/w.heap.size<=r) λr h=>h;refine⟨_,p.row e f ?_ x,x⟩;have:=bu.qb z I;unfold gv;rw[E,F,G];exact this
 .rcases a with a|a
  .exact p.gJ.1 3 j r (S3 J) a
  .exact λh=>by have:=y j r h;omega
 .rcases a with a|a
  .exact p.gJ.2 3 r a
  .exact λh=>by have:=(p.read r h).2.1;omega
end
theorem OZ {m:Int} {w:Int} (a:0<=v) (hw:0<=w):dropped (((m.toNat ||| 2 ^ v.toNat:Nat):Int)) w=(dropped m w||decide (w=v)):=by
 unfold dropped;rw[r8,Nat.testBit_or,Nat.testBit_two_pow];congr 1;exact decide_eq_decide.2 ⟨λh=>Ω,λh=>Ω⟩
theorem D1 {x:bi} (a:0<=v):ay {x with mask:=((x.mask.toNat ||| 2 ^ v.toNat:Nat):Int)}=(ay x).filter λy=>!decide (y=v):=by
 unfold ay;rw[List.filter_filter];refine List.filter_congr λy e=>?_;obtain⟨q,_,rfl⟩:=n9.1 e;rw[OZ a Ω];cases dropped x.mask (q:Int)<;>simp
section
variable {w0 w w':x3} {ac af an ga:Nat} {A R:ag} {A9:Nat->ag} {aG:ag} {n:aT} {s u u':au} {t:aC} {h:List aC} {cs:List x1} {aM aF lp v:x1} {Q:x1->x3->Prop}
theorem ck.pn {T:ag} (p:ck w ac af an A R A9 aG n s u t h cs) (z:∀q r,A9 q r->r<w.heap.size) (C:cs[3]? =σ v) (e:ae T w w') (f:∀r,r<w.heap.size->T r->A9 0 r) (E:bj (λr=>A9 0 r\/w.heap.size<=r) aG w' [v] (u'.vars.map ay))
  (F:u'.zero=u.zero) (G:u'.vars.map (·.un)=u.vars.map (·.un)) (H:(u'.vars.map λx=>decide (x.gone≠0))=u.vars.map λx=>decide (x.gone≠0)) (I:u'.funs=u.funs) (J:u'.ce=u.ce):
  ∃cJ,ck w' ac af an A R cJ aG n s u' t h cs/\ ∀q r,cJ q r->(∃K,A9 K r)\/w.heap.size<=r:=by
 have L:=bu.wR p.doc (xd e) (λr a=>.inl (f r a.2 a.1)) E (λj r M a=>?_) (λr a=>?_)
 .have y:=xe (w:=w) (A9:=A9) (q:=0) (B:=λr=>A9 0 r\/w.heap.size<=r) λr h=>h;refine⟨_,p.row e f ?_ y,y⟩;have:=bu.qb C L;unfold gv;rw[F,G,H,I,J];exact this
 .rcases a with a|a
  .exact p.gJ.1 0 j r (S3 M) a
  .exact λh=>by have:=z j r h;omega
 .rcases a with a|a
  .exact p.gJ.2 0 r a
  .exact λh=>by have:=(p.read r h).2.1;omega
end
section
variable {w0 w w':x3} {ac af an ga:Nat} {A R:ag} {A9:Nat->ag} {aG:ag} {n:aT} {s u u':au} {t:aC} {h:List aC} {cs:List x1} {aM aF lp v:x1} {Q:x1->x3->Prop}
theorem O0 {F:ag} {c:List x1} {f:b0} (h:bj (α:=hB) F R w c (gu f)) (y:∀r,F r->¬R r):∃aF szv aZ e,c=[aF,szv,aZ,.bool (decide (f.live≠0))]/\bj e R w [aZ] f.cs/\(∀r,e r->F r)/\
  ∀ {w':x3} {bt:Λ},ae e w w'->bj e R w' [aZ] bt->bj (α:=hB) F R w' c (gu {f with cs:=bt}):=by
 obtain⟨aa,L,A,B,rfl,z,M,N,h1,p⟩:=h;obtain⟨O,ab,aK,P,rfl,Q,C,E,G,S⟩:=h1;obtain⟨T,U,W,ew,rfl,X,q,H,I,J⟩:=S;have p:L=[.bool (decide (f.live≠0))]:=p;subst p;obtain⟨s,rfl⟩:=W8.1 (show O.length=1 from ak.len G);obtain⟨j,rfl⟩:=W8.1 (show T.length=1 from ak.len I);obtain⟨v3,rfl⟩:=W8.1 (show U.length=1 from ak.len J);have x:∀r,ew r->F r:=λr h=>z r (C r (q r h));refine⟨s,j,v3,ew,rfl,J,x,λ{w' bt} K Y=>?_⟩;refine⟨[s,j,v3],[.bool (decide (f.live≠0))],A,B,rfl,z,M,N,⟨[s],[j,v3],aK,P,rfl,Q,C,E,ak.V G K λr Z a he=>?_,[j],[v3],W,ew,rfl,X,q,H,ak.V I K λr Z a he=>?_,Y⟩,rfl⟩
 .exact a.elim (λa=>E rfl r a (q r he)) (y r (x r he))
 .exact a.elim (λa=>H rfl r a he) (y r (x r he))
end
theorem dD.vars {s:au} {i:Nat} {x y:bi} (h:dD s) (r:s.vars[i]? =σ x) (w:y.gone=x.gone):dD {s with vars:=s.vars.set i y}:=λf j p v q z a=>by
 have a:(s.vars.set i y)[v.toNat]? =σ z:=a;rw[X1] at a;split at a
 .rename_i e;split at a
  .cases a;subst e;rw[w];exact h f j p v q x r
  .cases a
 .exact h f j p v q z a
theorem dD.funs {s:au} {f g:b0} (h:dD s) (r:s.funs[j]? =σ f) (I:g.sc=f.sc) (w:g.live≠0->f.live≠0):dD {s with funs:=s.funs.set j g}:=λx a e v p z q=>by
 rcases X6 a with a|rfl
 .exact h x a e v p z q
 .exact h f (x5 r) (w e) v (by rw[<-I];exact p) z q
structure fJ where
 kind:Nat
 i:Int
 pos:Int
 v:Int
 c:Int
def ek (s:au) (i v:Int):Option bi:=if 0<=i then match s.vars[i.toNat]? with
 |some x=>if x.gone=0/\v∈ay x then σ x else ν
 |none=>ν else ν
def dk (s:au) (j pos v:Int):Option (b0×Int×bi):=if 0<=j/\0<=pos then match s.funs[j.toNat]? with
 |some f=>if f.live≠0 then match f.sc[pos.toNat]? with
  |some u=>(ek s u v).map λx=>(f,u,x)
  |none=>ν
  else ν
 |none=>ν else ν
def iv (k:Int) (s:au) (f:b0) (pos:Nat) (v:Int):Int:=((bW s f.sc pos v).map (a7 f.ad f.cs)).foldl min k
def da (k c most:Int):Int:=if ¬(0<=c/\c<=k) then 3 else if most<c then 7 else 0
def gB (x:bi):Int:=match (ay x).map λv=>x.un.getD v.toNat 0 with
 |[]=>-1
 |c::l=>l.foldl min c
def fV (s:au) (i:Nat) (v:Int):Λ->au
 |[]=>s
 |w::L=>fV (if w≠v then e5 s i w.toNat else s) i v L
def bp (k:Int) (s:au) (a:fJ):au×Int:=
 if a.kind=0 then match dk s a.i a.pos a.v with
  |none=>(s,1)
  |some (f,u,x)=>if da k a.c (iv k s f a.pos.toNat a.v)≠0 then (s,da k a.c (iv k s f a.pos.toNat a.v)) else (eu s a.i.toNat f a.pos.toNat u.toNat x a.v (λg=>cH k g a.c) λg=>cr k g a.c,0)
 else if a.kind=1 then match dk s a.i a.pos a.v with
  |none=>(s,1)
  |some (f,u,x)=>if da k a.c (x.un.getD a.v.toNat 0)≠0 then (s,da k a.c (x.un.getD a.v.toNat 0)) else (eu s a.i.toNat f a.pos.toNat u.toNat x a.v (λg=>cr k g a.c) λg=>cH k g a.c,0)
 else if a.kind=2 then match (if 0<=a.i then s.vars[a.i.toNat]? else ν) with
  |none=>(s,1)
  |some x=>if x.gone≠0 then (s,1) else if da k a.c (gB x)≠0 then (s,da k a.c (gB x)) else (fo s a.i.toNat x (λg=>cH k g a.c) λg=>cr k g a.c,0)
 else if a.kind=3 then match (if 0<=a.i then s.vars[a.i.toNat]? else ν) with
  |none=>(s,1)
  |some x=>if x.gone≠0 then (s,1) else if da k a.c (if ay x=[] then-1 else s.zero)≠0 then (s,da k a.c (if ay x=[] then-1 else s.zero)) else (fo s a.i.toNat x (λg=>cr k g a.c) λg=>cH k g a.c,0)
 else if a.kind=4 then match ek s a.i a.v with
  |none=>(s,1)
  |some x=>if cr k s.zero (x.un.getD a.v.toNat 0)<k then (s,7) else (e5 s a.i.toNat a.v.toNat,0)
 else match ek s a.i a.v with
  |none=>(s,1)
  |some x=>(fV s a.i.toNat a.v (ay x),0)
theorem mT:∀ (l:Λ) (z c:Int),c<=l.foldl min z↔c<=z/\ ∀x∈l,c<=x
 |[],z,c=>Ξ
 |a::l,z,c=>by
  rw[List.foldl_cons,mT l (min z a) c];rw[List.forall_mem_cons];exact⟨λ⟨h1,e⟩=>⟨Ω,Ω,e⟩,λ⟨h1,e,f⟩=>⟨Ω,f⟩⟩
theorem jW {most:Int} (h:¬da k c most≠0):(0<=c/\c<=k)/\c<=most:=by
 unfold da at h;split at h
 .exact absurd Φ h
 .rename_i h1;split at h
  .exact absurd Φ h
  .exact⟨Y3.1 h1,Ω⟩
theorem hE {s:au} {i:Int} {x:bi} (h:ek s i v=σ x):0<=i/\s.vars[i.toNat]? =σ x/\x.gone=0/\v∈ay x:=by
 unfold ek at h;split at h
 .rename_i e;split at h
  .rename_i y f;split at h
   .rename_i a;cases h;exact⟨e,f,a.1,a.2⟩
   .cases h
  .cases h
 .cases h
theorem iw {s:au} {j pos u:Int} {f:b0} {x:bi} (h:dk s j pos v=σ (f,u,x)):0<=j/\0<=pos/\s.funs[j.toNat]? =σ f/\f.live≠0/\f.sc[pos.toNat]? =σ u/\ek s u v=σ x:=by
 unfold dk at h;split at h
 .rename_i e;split at h
  .rename_i g p;split at h
   .rename_i q;split at h
    .rename_i w hw;cases a:ek s w v with
     |none=>rw[a] at h;cases h
     |some y=>
      rw[a] at h;cases h;exact⟨e.1,e.2,p,q,hw,a⟩
    .cases h
   .cases h
  .cases h
 .cases h
section
variable {k:Int} {sizes a:Λ} {s:au}
theorem mU {g:Int} (a:0<=g/\g<=k) (e:0<=c/\c<=g):0<=cH k g c/\cH k g c<=k:=by
 unfold cH;split<;>omega
theorem mV {g:Int} (a:0<=g/\g<=k) (e:0<=c):0<=cr k g c/\cr k g c<=k:=by
 unfold cr;omega
theorem gC {u:Nat} {v:Nat} {x:bi} (a:bq k sizes s) (e:s.vars[u]? =σ x):0<=x.un.getD v 0/\x.un.getD v 0<=k:=by
 have hk:=a.fU;have f:=(x4.1 e).1;have h:=a.vars;exact DP Ω (a.var u x _ e (x6 Ω)).2.1
theorem kB {f:b0} (a:bq k sizes s) (e:f∈s.funs):0<=a7 f.ad f.cs t/\a7 f.ad f.cs t<=k:=(s9 a.fU λc h=>⟨a.fU,(a.funs f e).1.im c h⟩).2
theorem tE {x:bi} (h:v∈ay x) (a:c<=gB x):c<=x.un.getD v.toNat 0:=by
 unfold gB at a;have hm:x.un.getD v.toNat 0∈(ay x).map λv=>x.un.getD v.toNat 0:=n9.2 ⟨v,h,rfl⟩;generalize (ay x).map (λv=>x.un.getD v.toNat 0)=l at a hm;cases l with
 |nil=>cases hm
 |cons b l=>
  have h1:=(mT l b c).1 a;rcases W6.1 hm with e|e
  .rw[e];exact h1.1
  .exact h1.2 _ e
theorem q2 {i:Nat} {v:Int} {x:bi}:∀ (L:Λ) (s:au),bq k sizes s->s.vars[i]? =σ x->(∀w∈L,0<=w/\w<x.un.length)->bq k sizes (fV s i v L)/\(dD s->dD (fV s i v L))/\
  ∀be,lb s a->x.gone=0->a[i]? =σ be->hb k (fV s i v L) a=if be∈L/\be≠v then k else hb k s a
 |[],s,z,j,_=>⟨z,id,λbe _ _ _=>by rw[if_neg Ξ];rfl⟩
 |w::L,s,z,j,C=>by
  unfold fV;by_cases hw:w≠v
  .rw[if_pos hw];have G:=C w (.head _);have J:=xc z j G;have H:=(x4.1 j).1;have K:(e5 s i w.toNat).vars[i]? =σ {x with mask:=((x.mask.toNat ||| 2 ^ w.toNat:Nat):Int)}:=by rw[mR j];exact j4 H
   obtain⟨h1,E,F⟩:=q2 L (e5 s i w.toNat) J K λu hu=>C u (.tail _ hu);refine⟨h1,λM=>E ?_,λbe p A B=>?_⟩
   .rw[mR j];exact dD.vars M j rfl
   .have N:lb (e5 s i w.toNat) a:=by
     rw[mR j];refine⟨by show a.length=(s.vars.set _ _).length;rw[Z2];exact p.1,λq y b r I=>?_⟩;have r:(s.vars.set i {x with mask:=((x.mask.toNat ||| 2 ^ w.toNat:Nat):Int)})[q]? =σ y:=r;by_cases e:i=q
     .subst e;rw[j4 H] at r;cases r;exact p.2 i x b j I
     .rw[Y0 e] at r;exact p.2 q y b r I
    rw[F be N A B,DX z p j A G B];by_cases e:be=w
    .subst e;rw[if_pos rfl,if_pos (show be∈be::L/\be≠v from⟨.head _,hw⟩)];split<;>rfl
    .rw[if_neg e];by_cases f:be∈L/\be≠v
     .rw[if_pos f,if_pos ⟨.tail _ f.1,f.2⟩]
     .rw[if_neg f,if_neg λh=>f ⟨(W6.1 h.1).resolve_left e,h.2⟩]
  .rw[if_neg hw];obtain⟨h1,E,F⟩:=q2 L s z j λu hu=>C u (.tail _ hu);refine⟨h1,E,λbe p A B=>?_⟩;rw[F be p A B];have hw:=Y3.1 hw;by_cases f:be∈L/\be≠v
   .rw[if_pos f,if_pos ⟨.tail _ f.1,f.2⟩]
   .rw[if_neg f,if_neg λh=>f ⟨(W6.1 h.1).resolve_left λe=>h.2 (e.trans hw),h.2⟩]
theorem dD.zero (h:dD s):dD {s with zero:=c}:=h
theorem D3 {u:Nat} {f:b0} {x:bi} {tup un:Int->Int} (h:dD s) (a:s.funs[j]? =σ f) (e:s.vars[u]? =σ x):dD (eu s j f pos u x v tup un):=
 dD.vars (s:=dE s j f (c6 tup (bW s f.sc pos v) f.ad f.cs)) (dD.funs h a rfl id) e rfl
theorem D4 {u:Nat} {x:bi} {g z:Int->Int} (h:dD s) (a:s.vars[u]? =σ x):dD (fo s u x g z):=dD.zero (dD.vars h a rfl)
def po (k:Int) (s:au) (m:fJ) (s':au) (e:Int) (a:Λ):Prop:=hb k s' a=if 5<=m.kind/\e=0/\a[m.i.toNat]? ≠σ m.v then k else hb k s a
theorem O1 {m:fJ} (p:bq k sizes s) (G:dD s):bq k sizes (bp k s m).1/\dD (bp k s m).1/\ ∀a,lb s a->po k s m (bp k s m).1 (bp k s m).2 a:=by
 have hk:=p.fU;have C:∀e:Int,e≠0->bq k sizes s/\dD s/\ ∀a,lb s a->po k s m s e a:=λe he=>⟨p,G,λa _=>by unfold po;rw[if_neg λh=>he h.2.1]⟩;have low:∀ {s':au} {e:Int},m.kind<5->bq k sizes s'->dD s'->(∀a,lb s a->hb k s' a=hb k s a)->bq k sizes s'/\dD s'/\ ∀a,lb s a->po k s m s' e a:=λhm h1 L U=>⟨h1,L,λa y=>by unfold po;rw[if_neg λh=>Ω];exact U a y⟩;unfold bp;split
 .rename_i Q;cases z:dk s m.i m.pos m.v with
  |none=>exact C 1 Φ
  |some q=>
   obtain⟨f,u,x⟩:=q;simp only;split
   .rename_i he;exact C _ he
   .rename_i he;obtain⟨A,hm⟩:=jW he;simp only;obtain⟨_,_,H,M,hu,B⟩:=iw z;obtain⟨ab,j,F,R⟩:=hE B;have I:=x5 H;have V:∀t∈bW s f.sc m.pos.toNat m.v,m.c<=a7 f.ad f.cs t:=λt E=>((mT _ _ _).1 hm).2 _ (n9.2 ⟨t,E,rfl⟩);have S:f.sc[m.pos.toNat]? =σ ((u.toNat:Nat):Int):=by rw[hu];congr 1;omega
    have E:∀t∈bW s f.sc m.pos.toNat m.v,0<=cH k (a7 f.ad f.cs t) m.c/\cH k (a7 f.ad f.cs t) m.c<=k:=λt E=>mU (kB p I) ⟨A.1,V t E⟩;have N:=mV (k:=k) (gC (v:=m.v.toNat) p j) A.1;refine low Ω (DT p H j E N) (D3 G H j) λa y=>DU p y H M S j R (G f I M) E N λt E r J=>?_;have:=kB (t:=t) p I;exact tw J ⟨V t E,this.2⟩ (gC p j) A.1
 split
 .rename_i _ Q;cases z:dk s m.i m.pos m.v with
  |none=>exact C 1 Φ
  |some q=>
   obtain⟨f,u,x⟩:=q;simp only;split
   .rename_i he;exact C _ he
   .rename_i he;obtain⟨A,hm⟩:=jW he;simp only;obtain⟨_,_,H,M,hu,B⟩:=iw z;obtain⟨ab,j,F,R⟩:=hE B;have I:=x5 H;have S:f.sc[m.pos.toNat]? =σ ((u.toNat:Nat):Int):=by rw[hu];congr 1;omega
    have E:∀t∈bW s f.sc m.pos.toNat m.v,0<=cr k (a7 f.ad f.cs t) m.c/\cr k (a7 f.ad f.cs t) m.c<=k:=λt E=>mV (kB p I) A.1;have N:=mU (k:=k) (gC (v:=m.v.toNat) p j) ⟨A.1,hm⟩;refine low Ω (DT p H j E N) (D3 G H j) λa y=>DU p y H M S j R (G f I M) E N λt E r J=>?_;have h1:=kB (t:=t) p I;have L:=gC (v:=m.v.toNat) p j;have:=tw (k:=k) J ⟨hm,L.2⟩ h1 A.1;omega
 split
 .rename_i _ _ Q;cases z:(if 0<=m.i then s.vars[m.i.toNat]? else ν) with
  |none=>exact C 1 Φ
  |some x=>
   have j:s.vars[m.i.toNat]? =σ x:=by split at z;exact z;cases z
   simp only;split
   .exact C 1 Φ
   split
   .rename_i he;exact C _ he
   .rename_i F he;obtain⟨A,hm⟩:=jW he;simp only;have W:∀v∈ay x,m.c<=x.un.getD v.toNat 0:=λv B=>tE B hm;have O:∀v∈ay x,0<=cH k (x.un.getD v.toNat 0) m.c/\cH k (x.un.getD v.toNat 0) m.c<=k:=λv B=>mU (gC p j) ⟨A.1,W v B⟩;have P:=mV (k:=k) p.zero A.1;refine low Ω (xb p j O P) (D4 G j) λa y=>DW p y j (Y3.1 F) O P λv B r J=>?_;exact tw J ⟨W v B,(gC p j).2⟩ p.zero A.1
 split
 .rename_i _ _ _ Q;cases z:(if 0<=m.i then s.vars[m.i.toNat]? else ν) with
  |none=>exact C 1 Φ
  |some x=>
   have j:s.vars[m.i.toNat]? =σ x:=by split at z;exact z;cases z
   simp only;obtain⟨X,Y⟩:∃X,X=(if ay x=[] then-1 else s.zero):=⟨_,rfl⟩;rw[<-Y];split
   .exact C 1 Φ
   split
   .rename_i he;exact C _ he
   .rename_i F he;obtain⟨A,hm⟩:=jW he;simp only;have Z:m.c<=s.zero:=by
     rw[Y] at hm;split at hm
     .omega
     .exact hm
    have O:∀v∈ay x,0<=cr k (x.un.getD v.toNat 0) m.c/\cr k (x.un.getD v.toNat 0) m.c<=k:=λv B=>mV (gC p j) A.1;have P:=mU (k:=k) p.zero ⟨A.1,Z⟩;refine low Ω (xb p j O P) (D4 G j) λa y=>DW p y j (Y3.1 F) O P λv B r J=>?_;have:=tw (k:=k) J ⟨Z,p.zero.2⟩ (gC (v:=v.toNat) p j) A.1;omega
 split
 .rename_i _ _ _ _ Q;cases z:ek s m.i m.v with
  |none=>exact C 1 Φ
  |some x=>
   obtain⟨_,j,F,B⟩:=hE z;simp only;split
   .exact C 7 Φ
   .rename_i he;have aa:=(gA.1 B).1;simp only;refine low Ω (xc p j aa) (by rw[mR j];exact dD.vars G j rfl) λa y=>?_;have ac:=(x4.1 j).1;have ae:=y.1;obtain⟨be,K⟩:=aI (l:=a) (i:=m.i.toNat) Ω;rw[DX p y j F aa K];split
    .rename_i e;subst e;rw[n5 p];split
     .have af:(s.vars.zip a)[m.i.toNat]? =σ (x,m.v):=List.getElem?_zip_eq_some.2 ⟨j,K⟩;have h1:=qY (tx (a:=a) p) (i:=m.i.toNat) (x:=dy (x,m.v)) (by rw[x8,af];rfl);have L:=qX _ (qZ (a:=a) p);have ah:dy (x,m.v)=x.un.getD m.v.toNat 0:=by unfold dy;rw[if_neg (by simp[F])]
      unfold cr at he;omega
     .rfl
    .rfl
 .rename_i h1 L U ai aj;cases z:ek s m.i m.v with
  |none=>exact C 1 Φ
  |some x=>
   obtain⟨_,j,F,B⟩:=hE z;simp only;have T:∀w∈ay x,0<=w/\w<x.un.length:=λw hw=>(gA.1 hw).1;refine⟨(q2 (a:=[]) (ay x) s p j T).1,(q2 (a:=[]) (ay x) s p j T).2.1 G,λa y=>?_⟩;have ac:=(x4.1 j).1;have ae:=y.1;obtain⟨be,K⟩:=aI (l:=a) (i:=m.i.toNat) Ω;unfold po;rw[(q2 (ay x) s p j T).2.2 be y F K,K];by_cases e:be=m.v
   .rw[if_neg λh=>h.2 e,if_neg λh=>h.2.2 (by rw[e])]
   .rw[if_pos (c:=5<=m.kind/\_) ⟨Ω,rfl,λh=>e (c8 h)⟩];split
    .rfl
    .rename_i ag;exact OO y j F K λh=>ag ⟨h,e⟩
end
theorem O2 {f g:Int->Int} {cs:Λ} (h:cs.length<=(ba ad).length):c6 g L ad (c6 f L ad cs)=c6 (λc=>g (f c)) L ad cs:=by
 apply Y2;intro i;cases a:cs[i]? with
 |none=>
  have h1:=List.getElem?_eq_none_iff.1 a;rw[Z3 (by rw[jV,jV]<;>(try rw[jV])<;>omega),Z3 (by rw[jV]<;>omega)]
 |some c=>
  obtain⟨t,e⟩:=aI (l:=ba ad) (i:=i) (by have:=(x4.1 a).1;omega);have h1:=l8 (f:=f) (L:=L) e a;rw[l8 e h1,l8 e a];split<;>rfl
theorem D5 {f:Int->Int} {cs:Λ} (I:dB ad) (q:cs.length<=(ba ad).length) (h:∀t∈L,f (a7 ad cs t)=a7 ad cs t):c6 f L ad cs=cs:=by
 apply Y2;intro i;cases a:cs[i]? with
 |none=>
  have h1:=List.getElem?_eq_none_iff.1 a;rw[Z3 (by rw[jV]<;>omega)]
 |some c=>
  obtain⟨t,j⟩:=aI (l:=ba ad) (i:=i) (by have:=(x4.1 a).1;omega);rw[l8 j a];split
  .rename_i p;have e:a7 ad cs t=c:=by
    unfold a7;rw[iN I j];simp only;rw[r8,u4,a];rfl
   have:=h t p;rw[e] at this;rw[this]
  .rfl
section
variable {k:Int} {sizes:Λ} {s:au}
theorem O3 {i:Int} {u:Nat} {x y:bi} {s':au} (a:s.vars[u]? =σ x) (f:s'.vars=s.vars.set u y) (h:ay y=ay x):cT s' i=cT s i:=by
 unfold cT;rw[f,X1];by_cases e:u=i.toNat
 .subst e;rw[if_pos rfl,if_pos (x4.1 a).1,a];exact h
 .rw[if_neg e]
theorem xf {x:bi} (h:un.length=x.un.length):ay {x with un:=un}=ay x:=by
 unfold ay;rw[h]
theorem D6 {s s':au} {pos:Nat} {v:Int} (h:∀i,cT s' i=cT s i):∀ (sc:Λ) (p:Nat),h0 s' pos v sc p=h0 s pos v sc p
 |[],_=>rfl
 |u::sc,p=>by unfold h0;rw[D6 h sc (p+1),h u]
theorem D7 {s s':au} (h:∀i,cT s' i=cT s i):bW s' sc pos v=bW s sc pos v:=by
 unfold bW;rw[D6 h]
theorem D8 {j pos u:Int} {f:b0} {x:bi} {tup un:Int->Int} (h:dk s j pos v=σ (f,u,x)):
  dk (eu s j.toNat f pos.toNat u.toNat x v tup un) j pos v=σ ({f with cs:=c6 tup (bW s f.sc pos.toNat v) f.ad f.cs},u,{x with un:=x.un.set v.toNat (un (x.un.getD v.toNat 0))}):=by
 obtain⟨h1,a,e,p,hu,q⟩:=iw h;obtain⟨r,w,y,z⟩:=hE q;have A:=(x4.1 e).1;have B:=(x4.1 w).1;have C:(eu s j.toNat f pos.toNat u.toNat x v tup un).funs[j.toNat]? =σ {f with cs:=c6 tup (bW s f.sc pos.toNat v) f.ad f.cs}:=j4 A;have E:(eu s j.toNat f pos.toNat u.toNat x v tup un).vars[u.toNat]? =σ {x with un:=x.un.set v.toNat (un (x.un.getD v.toNat 0))}:=j4 B;have F:ek (eu s j.toNat f pos.toNat u.toNat x v tup un) u v=σ {x with un:=x.un.set v.toNat (un (x.un.getD v.toNat 0))}:=by
  unfold ek;rw[if_pos r,E];simp only;rw[if_pos ⟨y,by rw[xf (by rw[Z2])];exact z⟩]
 unfold dk;rw[if_pos ⟨h1,a⟩,C];simp only;rw[if_pos p,hu];simp only;rw[F];rfl
theorem D9 {u:Nat} {f:b0} {x:bi} {tup un:Int->Int} (a:s.vars[u]? =σ x):∀i,cT (eu s j f pos u x v tup un) i=cT s i:=λi=>
 O3 a rfl (xf (by rw[Z2]))
theorem Ea {j pos u:Int} {f:b0} {x:bi} {a dC p eb:Int->Int} (q:bq k sizes s) (h:dk s j pos v=σ (f,u,x)):
  eu (eu s j.toNat f pos.toNat u.toNat x v a dC) j.toNat {f with cs:=c6 a (bW s f.sc pos.toNat v) f.ad f.cs} pos.toNat u.toNat {x with un:=x.un.set v.toNat (dC (x.un.getD v.toNat 0))} v p eb=
   eu s j.toNat f pos.toNat u.toNat x v (λc=>p (a c)) λc=>eb (dC c):=by
 obtain⟨h1,B,r,C,hu,w⟩:=iw h;obtain⟨E,y,F,z⟩:=hE w;obtain⟨G,H⟩:=i7 q (x5 r);have I:=(gA.1 z).1;have e:=D7 (sc:=f.sc) (pos:=pos.toNat) (v:=v) (D9 (j:=j.toNat) (pos:=pos.toNat) (f:=f) (v:=v) (tup:=a) (un:=dC) y);have A:(x.un.set v.toNat (dC (x.un.getD v.toNat 0))).getD v.toNat 0=dC (x.un.getD v.toNat 0):=by
  rw[u4 (l:=x.un.set _ _),j4 Ω];rfl
 unfold eu at e ⊢;unfold ej dE at e ⊢;simp only at e ⊢;rw[e,A,O2 Ω,List.set_set,List.set_set,List.set_set]
theorem tF {a:fJ} {f:b0} {u:Int} {x:bi} (p:dk s a.i a.pos a.v=σ (f,u,x)):
  (a.kind=0->(bp k s a).2=0->bp k s a=(eu s a.i.toNat f a.pos.toNat u.toNat x a.v (λg=>cH k g a.c) λg=>cr k g a.c,0)/\(0<=a.c/\a.c<=k)/\a.c<=iv k s f a.pos.toNat a.v)/\
  (a.kind=0->(0<=a.c/\a.c<=k)->a.c<=iv k s f a.pos.toNat a.v->bp k s a=(eu s a.i.toNat f a.pos.toNat u.toNat x a.v (λg=>cH k g a.c) λg=>cr k g a.c,0))/\
  (a.kind=1->(bp k s a).2=0->bp k s a=(eu s a.i.toNat f a.pos.toNat u.toNat x a.v (λg=>cr k g a.c) λg=>cH k g a.c,0)/\(0<=a.c/\a.c<=k)/\a.c<=x.un.getD a.v.toNat 0)/\
  (a.kind=1->(0<=a.c/\a.c<=k)->a.c<=x.un.getD a.v.toNat 0->bp k s a=(eu s a.i.toNat f a.pos.toNat u.toNat x a.v (λg=>cr k g a.c) λg=>cH k g a.c,0)):=by
 have r:∀ {m:Int},(0<=a.c/\a.c<=k)->a.c<=m->da k a.c m=0:=λh1 q=>by
  unfold da;rw[if_neg (λh=>h h1),if_neg Ω]
 refine⟨λj he=>?_,λj h1 q=>?_,λj he=>?_,λj h1 q=>?_⟩
 .unfold bp at he ⊢;rw[if_pos j,p] at he ⊢;simp only at he ⊢;split at he
  .rename_i e;exact absurd he e
  .rename_i e;rw[if_neg e];exact⟨rfl,jW e⟩
 .unfold bp;rw[if_pos j,p];simp only;rw[if_neg (λh=>h (r h1 q))]
 .unfold bp at he ⊢;rw[if_neg Ω,if_pos j,p] at he ⊢;simp only at he ⊢;split at he
  .rename_i e;exact absurd he e
  .rename_i e;rw[if_neg e];exact⟨rfl,jW e⟩
 .unfold bp;rw[if_neg Ω,if_pos j,p];simp only;rw[if_neg (λh=>h (r h1 q))]
end
section
variable {k:Int} {sizes:Λ} {s:au}
theorem pp {f:b0} (a:bq k sizes s) (e:f∈s.funs) (p:∀u,f.sc[pos]? =σ u->v∈cT s u) (h:t∈bW s f.sc pos v):∃m:Nat,cF f.ad t 0=σ (m:Int):=by
 obtain⟨j,q,_⟩:=a.funs f e;obtain⟨r,_⟩:=i7 a e;rw[w4 a (λu hu=>⟨(j.scope.1 u hu).1,j.vars u hu⟩) p,<-q] at h;obtain⟨i,hi⟩:=X4.1 (U8.1 h).1;exact⟨i,iN r hi⟩
theorem Eb {j pos u:Int} {f:b0} {x:bi} (h:dk s j pos v=σ (f,u,x)):∀u',f.sc[pos.toNat]? =σ u'->v∈cT s u':=λu' a=>by
 obtain⟨_,_,_,_,hu,e⟩:=iw h;obtain⟨_,p,_,q⟩:=hE e;rw[hu] at a;cases a;unfold cT;rw[p];exact q
theorem room_le {f:b0}:c<=iv k s f pos v↔c<=k/\ ∀t∈bW s f.sc pos v,c<=a7 f.ad f.cs t:=by
 unfold iv;rw[mT];refine and_congr_right λ_=>⟨λh t a=>h _ (n9.2 ⟨t,a,rfl⟩),λh x e=>?_⟩;obtain⟨t,a,rfl⟩:=n9.1 e;exact h t a
theorem Ec {j pos u:Int} {f:b0} {x:bi} {tup:Int->Int} (a:bq k sizes s) (h:dk s j pos v=σ (f,u,x)) (e:t∈bW s f.sc pos.toNat v):
  a7 f.ad (c6 tup (bW s f.sc pos.toNat v) f.ad f.cs) t=tup (a7 f.ad f.cs t):=by
 have p:=x5 (iw h).2.2.1;obtain⟨q,r⟩:=i7 a p;obtain⟨m,hm⟩:=pp a p (Eb h) e;rw[w7 q r hm,if_pos e]
end
theorem Ed {m:Λ} (a:l.length=m.length) (h:∀i,i<l.length->l.getD i 0=m.getD i 0):l=m:=by
 apply Y2;intro i;by_cases hi:i<l.length
 .have:=h i hi;rw[u4,u4,x6 hi,x6 Ω,V6,V6] at this;rw[x6 hi,x6 Ω,this]
 .rw[Z3 Ω,Z3 Ω]
theorem tG {g:Int->Int} {L:Λ} {i:Nat} (a:L.Nodup) (e:∀v∈L,0<=v/\v<un.length):(dj g un L).getD i 0=if (i:Int)∈L then g (un.getD i 0) else un.getD i 0:=by
 have:=n7 (g:=g) L un (i:Int) a e Ω;rwa [r8] at this
theorem O4 {g h:Int->Int} {L:Λ} (a:L.Nodup) (e:∀v∈L,0<=v/\v<un.length):dj h (dj g un L) L=dj (λc=>h (g c)) un L:=by
 refine Ed (by rw[kA,kA,kA]) λi _=>?_;rw[tG a (λv f=>by rw[kA];exact e v f),tG a e,tG a e];by_cases hi:(i:Int)∈L
 .rw[if_pos hi,if_pos hi,if_pos hi]
 .rw[if_neg hi,if_neg hi,if_neg hi]
theorem O5 {g:Int->Int} {L:Λ} (a:L.Nodup) (e:∀v∈L,0<=v/\v<un.length) (he:∀v∈L,g (un.getD v.toNat 0)=un.getD v.toNat 0):dj g un L=un:=by
 refine Ed (by rw[kA]) λi _=>?_;rw[tG a e];by_cases hi:(i:Int)∈L
 .rw[if_pos hi];have:=he _ hi;rwa [r8] at this
 .rw[if_neg hi]
theorem O6 {x:bi} (p:ay x≠[]) (h:∀v∈ay x,c<=x.un.getD v.toNat 0):c<=gB x:=by
 unfold gB;have a:∀y∈(ay x).map λv=>x.un.getD v.toNat 0,c<=y:=λy f=>by
  obtain⟨v,q,rfl⟩:=n9.1 f;exact h v q
 have j:(ay x).map (λv=>x.un.getD v.toNat 0)≠[]:=λe=>p (List.map_eq_nil_iff.1 e);generalize (ay x).map (λv=>x.un.getD v.toNat 0)=l at a j;cases l with
 |nil=>exact absurd rfl j
 |cons b l=>exact (mT l b c).2 ⟨a b (.head _),λy f=>a y (.tail _ f)⟩
theorem O7 {x:bi} (h:0<=gB x):ay x≠[]:=λe=>by
 unfold gB at h;rw[e] at h;simp at h
section
variable {k:Int} {sizes:Λ} {s:au}
theorem pq (x:bi):∀v∈ay x,0<=v/\v<x.un.length:=λ_ a=>(gA.1 a).1
theorem tH {x:bi} {g:Int->Int} {L:Λ}:ay {x with un:=dj g x.un L}=ay x:=xf (kA _ _)
theorem xg {u:Nat} {x:bi} {g z:Int->Int} (a:s.vars[u]? =σ x):(fo s u x g z).vars[u]? =σ {x with un:=dj g x.un (ay x)}:=j4 (x4.1 a).1
theorem Ee {u:Nat} {x:bi} {g z h y:Int->Int}:fo (fo s u x g z) u {x with un:=dj g x.un (ay x)} h y=fo s u x (λc=>h (g c)) λc=>y (z c):=by
 unfold fo ej;rw[tH];simp only;rw[O4 (ma x) (pq x),List.set_set]
theorem tI {α:Type} {l:List α} {i:Nat} {x:α} (h:l[i]? =σ x):l.set i x=l:=by
 apply Y2;intro j;rw[X1];split
 .rename_i e;subst e;rw[if_pos (x4.1 h).1,h]
 .rfl
theorem Ef {u:Nat} {x:bi} {g z:Int->Int} (a:s.vars[u]? =σ x) (e:∀v∈ay x,g (x.un.getD v.toNat 0)=x.un.getD v.toNat 0) (f:z s.zero=s.zero):fo s u x g z=s:=by
 unfold fo ej;rw[O5 (ma x) (pq x) e,f,tI a]
theorem Eg {u:Nat} {f:b0} {x:bi} {t un:Int->Int} (p:bq k sizes s) (a:s.funs[j]? =σ f) (q:s.vars[u]? =σ x) (w:∀r∈bW s f.sc pos v,t (a7 f.ad f.cs r)=a7 f.ad f.cs r) (hu:un (x.un.getD v.toNat 0)=x.un.getD v.toNat 0):
  eu s j f pos u x v t un=s:=by
 obtain⟨y,z⟩:=i7 p (x5 a);unfold eu ej dE;rw[D5 y Ω w,hu,tI a];have e:x.un.set v.toNat (x.un.getD v.toNat 0)=x.un:=by
  by_cases h:v.toNat<x.un.length
  .exact tI (by rw[u4,x6 h];rfl)
  .exact List.set_eq_of_length_le Ω
 rw[e,tI q]
theorem tJ {a:fJ} {x:bi} (w:0<=a.i) (y:s.vars[a.i.toNat]? =σ x) (f:x.gone=0):
  (a.kind=2->(bp k s a).2=0->bp k s a=(fo s a.i.toNat x (λg=>cH k g a.c) λg=>cr k g a.c,0)/\(0<=a.c/\a.c<=k)/\a.c<=gB x)/\
  (a.kind=2->(0<=a.c/\a.c<=k)->a.c<=gB x->bp k s a=(fo s a.i.toNat x (λg=>cH k g a.c) λg=>cr k g a.c,0))/\
  (a.kind=3->(bp k s a).2=0->bp k s a=(fo s a.i.toNat x (λg=>cr k g a.c) λg=>cH k g a.c,0)/\(0<=a.c/\a.c<=k)/\a.c<=(if ay x=[] then-1 else s.zero))/\
  (a.kind=3->(0<=a.c/\a.c<=k)->a.c<=(if ay x=[] then-1 else s.zero)->bp k s a=(fo s a.i.toNat x (λg=>cr k g a.c) λg=>cH k g a.c,0)):=by
 have q:∀ {m:Int},(0<=a.c/\a.c<=k)->a.c<=m->da k a.c m=0:=λh1 j=>by
  unfold da;rw[if_neg (λh=>h h1),if_neg Ω]
 generalize r:(if ay x=[] then-1 else s.zero)=z;have p:(if 0<=a.i then s.vars[a.i.toNat]? else ν)=σ x:=by rw[if_pos w,y]
 refine⟨λhk he=>?_,λhk h1 j=>?_,λhk he=>?_,λhk h1 j=>?_⟩
 .unfold bp at he ⊢;rw[if_neg Ω,if_neg Ω,if_pos hk,p] at he ⊢;simp only at he ⊢;rw[if_neg (λh=>h f)] at he ⊢;split at he
  .rename_i e;exact absurd he e
  .rename_i e;rw[if_neg e];exact⟨rfl,jW e⟩
 .unfold bp;rw[if_neg Ω,if_neg Ω,if_pos hk,p];simp only;rw[if_neg (λh=>h f),if_neg (λh=>h (q h1 j))]
 .unfold bp at he ⊢;rw[if_neg Ω,if_neg Ω,if_neg Ω,if_pos hk,p] at he ⊢;simp only[r] at he ⊢;rw[if_neg (λh=>h f)] at he ⊢;split at he
  .rename_i e;exact absurd he e
  .rename_i e;rw[if_neg e];exact⟨rfl,jW e⟩
 .unfold bp;rw[if_neg Ω,if_neg Ω,if_neg Ω,if_pos hk,p];simp only[r];rw[if_neg (λh=>h f),if_neg (λh=>h (q h1 j))]
theorem O8 {a:fJ} (hk:a.kind=2\/a.kind=3) (he:(bp k s a).2=0):0<=a.i/\ ∃x,s.vars[a.i.toNat]? =σ x/\x.gone=0:=by
 by_cases e:0<=a.i
 .refine⟨e,?_⟩;cases f:s.vars[a.i.toNat]? with
  |none=>
   exfalso;unfold bp at he;rcases hk with hk|hk<;>simp[hk,e,f] at he
  |some x=>
   refine⟨x,rfl,?_⟩;refine Decidable.byContradiction λh=>?_;unfold bp at he;rcases hk with hk|hk<;>simp[hk,e,f,h] at he
 .exfalso;unfold bp at he;rcases hk with hk|hk<;>simp[hk,e] at he
end
def q3 (k:Int) (s:au):Prop:=s.zero≠k/\(∀x∈s.vars,∀c∈x.un,c≠k)/\ ∀f∈s.funs,∀c∈f.cs,c≠k
theorem tK {g:Int} (a:0<=g/\g<=k) (e:0<=c) (h:cH k (cr k g c) c≠k):cH k (cr k g c) c=g:=by
 unfold cH cr at*;split at h
 .exact absurd rfl h
 .rename_i h1;rw[if_neg h1];omega
theorem tL {g:Int} (a:0<=g/\g<=k) (e:c<=g) (f:0<=c) (h:cr k (cH k g c) c≠k):cr k (cH k g c) c=g:=by
 unfold cH cr at*;split
 .rename_i h1;rw[if_pos h1] at h;omega
 .omega
theorem tM {g:Int} (a:0<=g) (e:c<=k):c<=cr k g c:=by
 unfold cr;omega
theorem O9 {cs:Λ} {m:Nat} (hi:cF ad t 0=σ (m:Int)) (hm:m<cs.length):a7 ad cs t∈cs:=by
 unfold a7;rw[hi];simp only;rw[r8,u4,x6 hm];exact T8 hm
theorem Eh {i:Nat} (h:i<l.length):l.getD i 0∈l:=by
 rw[u4,x6 h];exact T8 h
section
variable {k:Int} {sizes:Λ} {s:au}
theorem Ei {j pos u:Int} {f:b0} {x:bi} {tup un:Int->Int} (a:bq k sizes s) (h:dk s j pos v=σ (f,u,x)) (p:q3 k (eu s j.toNat f pos.toNat u.toNat x v tup un)):
  (∀t∈bW s f.sc pos.toNat v,tup (a7 f.ad f.cs t)≠k)/\un (x.un.getD v.toNat 0)≠k:=by
 obtain⟨_,_,q,_,_,y⟩:=iw h;obtain⟨_,z,_,A⟩:=hE y;have r:=x5 q;obtain⟨B,E⟩:=i7 a r;have F:=(gA.1 A).1;refine⟨λt w=>?_,?_⟩
 .obtain⟨m,hm⟩:=pp a r (Eb h) w;rw[<-Ec (tup:=tup) a h w];have C:=(x4.1 (lV B hm)).1;rw[r8] at C;exact p.2.2 _ (x5 (j4 (x4.1 q).1)) _ (O9 hm (by rw[jV _ _ _ _ Ω];omega))
 .have e:(x.un.set v.toNat (un (x.un.getD v.toNat 0))).getD v.toNat 0=un (x.un.getD v.toNat 0):=by
   rw[u4 (l:=x.un.set _ _),j4 Ω];rfl
  rw[<-e];exact p.2.1 _ (x5 (j4 (x4.1 z).1)) _ (Eh (by rw[Z2];omega))
theorem Ej {u:Nat} {x:bi} {g z:Int->Int} (h:s.vars[u]? =σ x) (a:q3 k (fo s u x g z)):(∀v∈ay x,g (x.un.getD v.toNat 0)≠k)/\z s.zero≠k:=by
 refine⟨λv f=>?_,a.1⟩;have j:=pq x v f;have e:=n7 (g:=g) (ay x) x.un v (ma x) (pq x) j.1;rw[if_pos f] at e;rw[<-e];exact a.2.1 _ (x5 (xg h)) _ (Eh (by show v.toNat<(dj g x.un (ay x)).length;rw[kA];omega))
def i9 (n:Nat):Nat:=if n=0 then 1 else if n=1 then 0 else if n=2 then 3 else 2
theorem Pa {m:fJ} (j:bq k sizes s) (hk:m.kind<4) (he:(bp k s m).2=0):
  (bp k (bp k s m).1 {m with kind:=i9 m.kind}).2=0/\(q3 k (bp k (bp k s m).1 {m with kind:=i9 m.kind}).1->(bp k (bp k s m).1 {m with kind:=i9 m.kind}).1=s):=by
 by_cases T:m.kind<2
 .cases w:dk s m.i m.pos m.v with
  |none=>
   exfalso;unfold bp at he;simp only[w] at he;split at he
   .cases he
   .rw[if_pos Ω] at he;cases he
  |some q=>
   obtain⟨f,u,x⟩:=q;obtain⟨_,_,L,_,_,A⟩:=iw w;obtain⟨_,r,_,J⟩:=hE A;have M:=x5 L;have U:=(gA.1 J).1;have R:∀c,(x.un.set m.v.toNat c).getD m.v.toNat 0=c:=λc=>by
    rw[u4,j4 Ω];rfl
   have N:=gC (v:=m.v.toNat) j r;by_cases B:m.kind=0
   .obtain⟨E,h,y⟩:=(tF (k:=k) w).1 B he;have y:=(room_le.1 y).2;have F:i9 m.kind=1:=by rw[B];rfl
    have O:=D8 (tup:=λg=>cH k g m.c) (un:=λg=>cr k g m.c) w;have G:=(tF (k:=k) (a:={m with kind:=i9 m.kind}) O).2.2.2 F h (by simp only;rw[R];exact tM N.1 h.2);rw[E,G];refine⟨rfl,λp=>?_⟩;simp only at p ⊢;rw[Ea j w] at p ⊢;obtain⟨H,I⟩:=Ei j w p;exact Eg j L r (λt C=>tL (kB j M) (y t C) h.1 (H t C)) (tK N h.1 I)
   .have B:m.kind=1:=Ω
    obtain⟨E,h,y⟩:=(tF (k:=k) w).2.2.1 B he;have F:i9 m.kind=0:=by rw[B];rfl
    have O:=D8 (tup:=λg=>cr k g m.c) (un:=λg=>cH k g m.c) w;have G:=(tF (k:=k) (a:={m with kind:=i9 m.kind}) O).2.1 F h (room_le.2 ⟨h.2,λt C=>by
     simp only at C ⊢;rw[D7 (D9 r)] at C;rw[Ec j w C];exact tM (kB j M).1 h.2⟩)
    rw[E,G];refine⟨rfl,λp=>?_⟩;simp only at p ⊢;rw[Ea j w] at p ⊢;obtain⟨H,I⟩:=Ei j w p;exact Eg j L r (λt C=>tK (kB j M) h.1 (H t C)) (tL N y h.1 I)
 .have hk:m.kind=2\/m.kind=3:=Ω
  obtain⟨B,x,r,K⟩:=O8 hk he;have P:=λv=>gC (v:=v) j r;rcases hk with hk|hk
  .obtain⟨E,h,y⟩:=(tJ (k:=k) B r K).1 hk he;have J:=O7 (x:=x) Ω;have F:i9 m.kind=3:=by rw[hk];rfl
   have Q:=xg (g:=λg=>cH k g m.c) (z:=λg=>cr k g m.c) r;have G:=(tJ (k:=k) (a:={m with kind:=i9 m.kind}) B Q K).2.2.2 F h (by rw[tH,if_neg J];exact tM j.zero.1 h.2);rw[E,G];refine⟨rfl,λp=>?_⟩;simp only at p ⊢;rw[Ee] at p ⊢;obtain⟨H,I⟩:=Ej r p;exact Ef r (λv A=>tL (P _) (tE A y) h.1 (H v A)) (tK j.zero h.1 I)
  .obtain⟨E,h,y⟩:=(tJ (k:=k) B r K).2.2.1 hk he;have J:ay x≠[]:=λe=>by rw[if_pos e] at y;omega
   rw[if_neg J] at y;have F:i9 m.kind=2:=by rw[hk];rfl
   have Q:=xg (g:=λg=>cr k g m.c) (z:=λg=>cH k g m.c) r;have G:=(tJ (k:=k) (a:={m with kind:=i9 m.kind}) B Q K).2.1 F h (O6 (by rw[tH];exact J) λv A=>by
    rw[tH] at A;have S:=pq x v A;show m.c<=(dj (λg=>cr k g m.c) x.un (ay x)).getD v.toNat 0;rw[n7 _ _ _ (ma x) (pq x) S.1,if_pos A];exact tM (P _).1 h.2)
   rw[E,G];refine⟨rfl,λp=>?_⟩;simp only at p ⊢;rw[Ee] at p ⊢;obtain⟨H,I⟩:=Ej r p;exact Ef r (λv A=>tK (P _) h.1 (H v A)) (tL j.zero y h.1 I)
theorem Ek {m:fJ} (h:(bp k s m).2≠0):(bp k s m).1=s:=by
 generalize hm:bp k s m=r at h ⊢;unfold bp at hm
 repeat' split at hm
 all_goals (subst hm;first|rfl|exact absurd rfl h)
end
theorem Pb (I:dB ad):(ba ad).Nodup:=by
 rw[List.nodup_iff_pairwise_ne,V2];intro i j hi a f he;have h1:=iN I (x6 hi);have e:=iN I (x6 a);rw[he,e] at h1;have:=c8 h1;omega
section
variable {k:Int} {sizes:Λ} {s:au}
theorem El {f:b0} (a:bq k sizes s) (e:f∈s.funs) (j:∀u,f.sc[pos]? =σ u->v∈cT s u):(bW s f.sc pos v).Nodup:=by
 obtain⟨h,p,_⟩:=a.funs f e;obtain⟨q,_⟩:=i7 a e;rw[w4 a (λu hu=>⟨(h.scope.1 u hu).1,h.vars u hu⟩) j,<-p];exact (Pb q).sublist List.filter_sublist
theorem xh {α:Type} {l:List α} {q:Nat} {a:α} (e:l.Nodup) (h:l[q]? =σ a):a∉l.take q:=λhm=>by
 obtain⟨i,hi⟩:=X4.1 hm;have f:i<q:=by have:=(x4.1 hi).1;rw[j5] at this;omega
 rw[Y8 f] at hi;have h1:=(x4.1 hi).1;have j:=(x4.1 h).1;have:=(List.getElem_inj e (h₀:=h1) (h₁:=j)).1 (by rw[(x4.1 hi).2,(x4.1 h).2]);omega
theorem Em {m q:Nat} {f:b0} {g:Int->Int} (y:bq k sizes s) (p:s.funs[j]? =σ f) (z:L.Nodup) (r:L[q]? =σ t) (hi:cF f.ad t 0=σ (m:Int)):
  a7 f.ad (c6 g (L.take q) f.ad f.cs) t=a7 f.ad f.cs t/\jU (dE s j f (c6 g (L.take q) f.ad f.cs)) j m (g (a7 f.ad f.cs t))=dE s j f (c6 g (L.take (q+1)) f.ad f.cs):=by
 obtain⟨a,A⟩:=i7 y (x5 p);have w:=xh z r;refine⟨by rw[w7 a A hi,if_neg w],?_⟩;have h:=lV a hi;rw[r8] at h;have E:=(x4.1 h).1;obtain⟨c,x⟩:=aI (l:=f.cs) (i:=m) Ω;have e:a7 f.ad f.cs t=c:=by
  unfold a7;rw[hi];simp only;rw[r8,u4,x];rfl
 have B:=(OC (f:=g) a Ω h x w).2;unfold jU;have C:(dE s j f (c6 g (L.take q) f.ad f.cs)).funs[j]? =σ {f with cs:=c6 g (L.take q) f.ad f.cs}:=j4 (x4.1 p).1;rw[C,e];simp only;rw[B,u9,r];unfold dE;simp only[List.set_set];rfl
end
section
variable {w:x3} {ac af:Nat} {A R:ag} {n:aT} {s:au} {t:aC}
theorem xi {i:Int} (h:bV w ac af A R n s t):ai x7 Gw [Γ ac,Δ i,Δ v] w λr w'=>Ext w w'/\r=Δ (if (ek s i v).isSome=true then 0 else 1):=by
 have L:=h.2.2.2.1.vars;refine aw func56 ?_;rw[dn dO.u];simp only[Z5,aY];refine aU (λr J=>r= .bool (!(ek s i v).isSome)/\Ext w J) ?_ ?_
 .rintro _ J ⟨rfl,C⟩;rw[bY];exact⟨λp=>⟨C,by rw[if_neg (by simpa using p)]⟩,λp=>⟨C,by rw[if_pos (by simpa using p)]⟩⟩
 intro av E;refine (wV (i:=i) h).mono ?_;rintro _ U _ ⟨rfl,q⟩;rw[bY];refine⟨λa=>E _ _ ⟨?_,q⟩,λa=>?_⟩
 .rw[U4,decide_eq_true_eq] at a;have y:ek s i v=ν:=by
   unfold ek;rw[if_pos a.1];have z:=a.2;unfold lk at z;cases e:s.vars[i.toNat]? with
   |none=>rfl
   |some x=>
    rw[e] at z;simp only;rw[if_neg λh=>by simp[h.1] at z]
  rw[y];rfl
 refine (ll (i:=i) (h.ext q)).mono ?_;rintro _ M _ ⟨⟨b,m,rfl,B⟩,H⟩;refine (DA (v:=v) B.1).mono ?_;rintro _ N _ ⟨rfl,I⟩;rw[bG];refine E _ _ ⟨?_,(q.trans H).trans I⟩;congr 2;by_cases f:0<=i/\i<n.sizes.length
 .obtain⟨x,e⟩:=aI (l:=s.vars) (i:=i.toNat) Ω;rw[OG B f.1 e];unfold ek;rw[if_pos f.1,e];have K:x.gone=0:=by
   rw[decide_eq_true f.1,U7] at a;unfold lk at a;rw[e] at a;simpa using a
  simp only;by_cases j:v∈ay x
  .rw[decide_eq_true j,if_pos ⟨K,j⟩];rfl
  .rw[decide_eq_false j,if_neg λh=>j h.2];rfl
 .obtain⟨rfl,rfl⟩:=B.2.1 f;have y:ek s i v=ν:=by
   unfold ek;by_cases G:0<=i
   .rw[if_pos G,Z3 Ω]
   .rw[if_neg G]
  rw[y,decide_eq_false Ω];rfl
def Pc (s:au) (j pos v:Int) (u e:Int):Prop:=(e=0/\ ∃f x,dk s j pos v=σ (f,u,x))\/(e=1/\dk s j pos v=ν)
theorem En {j pos:Int} (h:bV w ac af A R n s t):ai x7 Gp [Γ ac,Δ j,Δ pos,Δ v] w λr w'=>Ext w w'/\ ∃u e,r= .tuple #[Δ u,Δ e]/\Pc s j pos v u e:=by
 refine aw func47 ?_;rw[dn dO.u];simp only[Z5,aY];have key:∀ (K:x1->x3->Prop),(∀r w',Ext w w'->(∀f,0<=j->s.funs[j.toNat]? =σ f->aH .i64 w' r f.sc)->K r w')->ai x7 rP [Γ ac,Δ j] w K:=λK W=>by
  by_cases X:0<=j/\j<s.funs.length
  .obtain⟨f,p⟩:=aI (l:=s.funs) (i:=j.toNat) Ω;have:=w3 h p;rw[show ((j.toNat:Nat):Int)=j by omega] at this;refine this.mono ?_;rintro r J _ ⟨C,g,_,hm⟩;exact W r J C λH _ Y=>by rw[p] at Y;cases Y;exact hm.ls
  .refine (OB h X).mono ?_;rintro r J _ ⟨rfl,C⟩;exact W _ J C λf E p=>absurd ⟨E,by have:=(x4.1 p).1;omega⟩ X
 refine key _ λr J C Z=>?_;have M:∀ {P:Prop},(¬∃f u,0<=j/\0<=pos/\s.funs[j.toNat]? =σ f/\f.live≠0/\f.sc[pos.toNat]? =σ u)->(dk s j pos v=ν->P)->P:=λz an=>an (by
  cases I:dk s j pos v with
  |none=>rfl
  |some q=>
   obtain⟨f,u,x⟩:=q;obtain⟨N,O,a3,a4,a5,_⟩:=iw I;exact absurd ⟨f,u,N,O,a3,a4,a5⟩ z)
 refine aU (λaa U=>Ext J U/\((aa= .bool true/\dk s j pos v=ν)\/(aa= .bool false/\ ∃f u,0<=j/\0<=pos/\s.funs[j.toNat]? =σ f/\f.live≠0/\f.sc[pos.toNat]? =σ u))) ?_ ?_
 .rintro _ U ⟨Q,⟨rfl,z⟩|⟨rfl,f,u,E,ab,p,ao,hu⟩⟩
  .rw[bS];exact⟨C.trans Q,0,1,rfl,.inr ⟨rfl,z⟩⟩
  .rw[aY];intro ap B _ _;have ad:=(Z f E p).ext (Q.trans B);refine pZ (y:=pos) (i:=pos.toNat) Ω am.u ah.i ad hu λb o aq=>?_;rw[aB (v:=Δ u) Ψ aq,fy (y:=pos) (i:=pos.toNat) Ω am.u ah.i Ψ ad hu];have ae:=(C.trans Q).trans B;refine (xi (i:=u) (v:=v) (h.ext ae)).mono ?_;rintro _ ax _ ⟨ag,rfl⟩;refine⟨.inl ag,ae.trans ag,u,_,rfl,?_⟩;have I:dk s j pos v=(ek s u v).map λx=>(f,u,x):=by
    unfold dk;rw[if_pos ⟨E,ab⟩,p];simp only;rw[if_pos ao,hu]
   cases ak:ek s u v with
   |none=>exact .inr ⟨rfl,by rw[I,ak];rfl⟩
   |some x=>exact .inl ⟨rfl,f,x,by rw[I,ak];rfl⟩
 intro av L;refine (wX (j:=j) (h.ext C)).mono ?_;rintro _ ap _ ⟨rfl,B⟩;have same:∀ {f H:b0},s.funs[j.toNat]? =σ f->s.funs[j.toNat]? =σ H->H=f:=λa b=>by rw[a] at b;exact (c8 b).symm
 rw[bG,bY];refine⟨λS=>M (λ⟨f,u,N,O,a3,a4,a5⟩=>?_) λz=>L _ _ ⟨B,.inl ⟨rfl,z⟩⟩,λV=>?_⟩
 .unfold gx at S;rw[a3] at S;simp[N,a4] at S
 have V:0<=j/\gx s j.toNat=true:=by simpa using V
 obtain⟨E,G⟩:=V;obtain⟨f,p,au⟩:∃f,s.funs[j.toNat]? =σ f/\f.live≠0:=by
  unfold gx at G;cases p:s.funs[j.toNat]? with
  |none=>rw[p] at G;cases G
  |some f=>rw[p] at G;exact⟨f,rfl,by simpa using G⟩
 rw[aR,aj];refine⟨λay=>M (λ⟨_,_,_,O,_⟩=>Ω) λz=>L _ _ ⟨B,.inl ⟨rfl,z⟩⟩,λab=>?_⟩;rw[aX am.u ((Z f E p).ext B),cY];by_cases al:(f.sc.length:Int)<=pos
 .refine M (λ⟨H,u,_,_,a3,_,a5⟩=>?_) λz=>L _ _ ⟨B,.inl ⟨by rw[decide_eq_true al],z⟩⟩;obtain rfl:=same p a3;have:=(x4.1 a5).1;omega
 .obtain⟨u,hu⟩:=aI (l:=f.sc) (i:=pos.toNat) Ω;exact L _ _ ⟨B,.inr ⟨by rw[decide_eq_false al],f,u,E,Ω,p,au,hu⟩⟩
theorem tN {most:Int} (h:bV w ac af A R n s t):ai x7 Gr [Γ ac,Δ c,Δ most] w λr w'=>Ext w w'/\r=Δ (da n.k c most):=by
 refine aw func49 ?_;refine (n2 h).mono ?_;rintro _ J _ ⟨rfl,a⟩;refine jG.mono ?_;rintro _ U _ ⟨rfl,e⟩;have hi:cw c n.k↔0<=c/\c<=n.k:=⟨λh=>h.2,λj=>⟨h.2.2.2.1.fU,j⟩⟩;unfold da;rw[bG,bY];refine⟨λf=>⟨a.trans e,?_⟩,λf=>?_⟩
 .have:¬cw c n.k:=by simpa using f
  rw[if_pos λh=>this (hi.2 h)]
 .have:cw c n.k:=by simpa using f
  rw[if_neg λh=>h (hi.1 this),bT,aj];exact⟨λh=>⟨a.trans e,by rw[if_pos h]⟩,λh=>⟨a.trans e,by rw[if_neg h]⟩⟩
theorem Pd {a b:Int} (hk:right k) (f:0<=a/\a<=k) (j:0<=b/\b<=k) (s:a=k\/b<=a):ai x7 Hg [Δ a,Δ b,Δ k] w λv w'=>v= .tuple #[Δ (cH k a b),Δ 0]/\Ext w w':=by
 have x:1<=k/\k<=2147483648:=hk;refine aw func123 ?_;refine aU (λr J=>r= .bool false/\Ext w J) ?_ ?_
 .rintro _ J ⟨rfl,e⟩;unfold cH;rw[aY,bh,aj];refine⟨λh=>⟨by rw[if_pos h],e⟩,λh=>?_⟩;rw[if_neg h,bT,aj];refine⟨λy=>Ω,λ_=>?_⟩;rw[dZ,wrap_i64 Ω Ω];exact⟨rfl,e⟩
 intro av p;refine jG.mono ?_;rintro _ J _ ⟨rfl,e⟩;rw[decide_eq_true (show cw a k from⟨hk,f⟩),bG,Y4,aY];refine jG.mono ?_;rintro _ U _ ⟨rfl,q⟩;rw[decide_eq_true (show cw b k from⟨hk,j⟩),bG,Y4];exact p _ _ ⟨rfl,e.trans q⟩
theorem tO {a:Int} (h:bV w ac af A R n s t) (e:0<=a/\a<=n.k) (f:0<=c/\c<=n.k) (j:a=n.k\/c<=a):ai x7 ng [Γ ac,Δ a,Δ c] w λr w'=>r=Δ (cH n.k a c)/\Ext w w':=by
 refine aw func50 ?_;refine (n2 h).mono ?_;rintro _ J _ ⟨rfl,p⟩;refine (Pd h.2.2.2.1.fU e f j).mono ?_;rintro _ U _ ⟨rfl,q⟩;rw[bx,bz];exact⟨rfl,p.trans q⟩
theorem q4 {a:Int} (h:bV w ac af A R n s t) (e:0<=a/\a<=n.k) (f:0<=c/\c<=n.k):ai x7 nh [Γ ac,Δ a,Δ c] w λr w'=>r=Δ (cr n.k a c)/\Ext w w':=by
 refine aw func51 ?_;refine (n2 h).mono ?_;rintro _ J _ ⟨rfl,j⟩;refine (Ot e f h.2.2.2.1.fU).mono ?_;rintro _ U _ ⟨rfl,p⟩;rw[bx,bz];exact⟨rfl,j.trans p⟩
end
theorem Pe {g n c:Nat} (a:ab w g cI cs) (h:∀w',ae (λr=>r=g) w w'->(∀o vs,w.rangeAt g o vs->w'.rangeAt g o vs)->K (.slice (σ ⟨g,0,ν⟩) n c) w'):
  ax x7 (convert cP cP (.slice (σ ⟨g,0,ν⟩) n c)) w K:=by
 have f:∀r,(w.freeze ⟨g,cs.length,ν⟩ 1).heap[r]? =if g=r then (w.heap[r]?).map (λ| .cells c p (lo,hi)=>.cells c p (if lo == hi then (cs.length,cs.length+1) else (min lo cs.length,max hi (cs.length+1)))|o=>o) else w.heap[r]?:=λr=>by
  unfold x3.freeze;rw[if_neg Φ];exact Array.getElem?_modify
 have A:(w.freeze ⟨g,cs.length,ν⟩ 1).heap.size=w.heap.size:=by
  unfold x3.freeze;rw[if_neg Φ];exact Array.size_modify
 have q:w.shape? g=σ (cI,cs.length):=by
  unfold x3.shape?;unfold ab at a;rw[a];simp
 have s:(convert cP cP (.slice (σ ⟨g,0,ν⟩) n c)).run x7 w= .ok (.slice (σ ⟨g,0,ν⟩) n c) (w.freeze ⟨g,cs.length,ν⟩ 1):=by
  simp[convert,run_underlying cP.u,run_underlying cI.u,markStringish,q]
 unfold ab at a;refine .of s ⟨by unfold x3.freeze;rw[if_neg Φ],.j3 (by unfold x3.freeze;rw[if_neg Φ]) (by unfold x3.freeze;rw[if_neg Φ]),by unfold x3.freeze;rw[if_neg Φ],Ω,λr o e I=>?_⟩ (h _ ⟨Ω,λr o e _ x=>?_⟩ λo vs y j v z=>?_)
 .rw[f];by_cases he:g=r
  .subst he;rw[a] at e;cases e;cases I
  .rw[if_neg he];exact e
 .rw[f,if_neg λhe=>x he.symm];exact e
 .have h1:=y j v z;unfold x3.cell? at h1 ⊢;rw[f,if_pos rfl];rw[a] at h1 ⊢;exact h1
def xj (s0 s:au):Prop:=s.zero=s0.zero/\s.funs=s0.funs/\s.vars.length=s0.vars.length/\ ∀ (i:Nat) x,s.vars[i]? =σ x-> ∃a,s0.vars[i]? =σ a/\x.un=a.un/\x.gone=0/\a.gone=0/\a.mask=0
theorem xj.new (n:aT):xj (du n) (du n):=⟨rfl,rfl,rfl,λi x a=>by
 refine⟨x,a,rfl,?_⟩;have a:(n.unary.map newVar)[i]? =σ x:=a;rw[x8] at a;obtain⟨u,_,rfl⟩:=Y7.1 a;exact⟨rfl,rfl,rfl⟩⟩
theorem Pf (n:aT):dD (du n):=λf _ _ v _ x a=>by
 obtain⟨_,_,_,h,_⟩:=(xj.new n).2.2.2 _ x a;exact h
theorem Pg {an:Nat} {E:x1} {f:b6} (G:tt B U E cs f) (e:Ext U w) (H:ab w an aE cs) (O:U.heap.size<=an):
  ∃ac af A R A9 aG t,E=Γ ac/\ck w ac af an A R A9 aG (dt f) (du (dt f)) (du (dt f)) t [] cs/\t.marks=[]/\(∀r,A r->B<=r)/\(∀q r,A9 q r->B<=r)/\t.cells.length<=2000000/\t.olds.length=0/\(dt f).funs.length<=256/\t.iJ=0/\(∀r,aG r->B<=r)/\ ∀r,R r->B<=r:=by
 obtain⟨ac,af,A,R,t,N,A9,aG,x,rfl,y,j,J,K,C,p,L⟩:=G;have F:=tB y;have z:=e.size;have s:=(tj (B4 x).1 (wZ x) (dt f).unary.length (dt f).funs.length);rw[wC,<-y.2.1] at s;unfold aC.bK at s;rw[u7] at s;refine⟨ac,af,A,R,λq r=>A9 q r/\r<U.heap.size,aG,t,rfl,⟨y.ext e,j.2.2.1,H,K.old.ext e,λq r h=>⟨(C q r h.1).1,(C q r h.1).2.1,by have:=h.2;omega⟩,λr a=>⟨λh=>(p r a).1 (mK (λo M I _=>e.aW r o M I) h),by have:=(p r a).2;omega,by have:=(p r a).2;omega⟩,λh=>by have:=F an (.inl h);omega,λh=>by have:=F an (.inr h);omega⟩,j.1,J,λq r h=>(C q r h.1).2.2,s,by rw[j.2.1];rfl,wZ x,j.2.2.2,λr a=>(p r a).2.2,L⟩
def Ph (s:au):Prop:=∀e∈s.ce,e.sc.length<=1000/\e.ha.length<=1000
section
variable {w w':x3} {ac af an di:Nat} {A R O M aG:ag} {A9:Nat->ag} {k:Int} {sizes:Λ} {I:List au} {n:aT} {s u:au} {t:aC} {h:List aC} {cs:List x1}
structure Q6 (w:x3) (an:Nat) (A R:ag) (A9:Nat->ag) (aG O M:ag):Prop where
 o:∀r,O r->r<w.heap.size/\¬A r/\¬R r/\(∀q,¬A9 q r)/\¬aG r/\r≠an/\¬M r
 m:∀r,M r->r<w.heap.size/\¬A r/\(∀q,¬A9 q r)/\¬aG r/\r≠an
theorem ck.side {S:ag} (p:ck w ac af an A R A9 aG n s u t h cs) (f:ae S w w') (e:∀r,r<w.heap.size->S r->¬A r/\¬R r/\(∀q,¬A9 q r)/\¬aG r/\r≠an):ck w' ac af an A R A9 aG n s u t h cs:=by
 have z:=f.size;exact⟨⟨p.eV.1.V f λr a h I=>h.elim (e r a I).1 (e r a I).2.1,p.eV.2⟩,p.iZ,p.box.V f λI=>(e an p.box.lt I).2.2.2.2 rfl,p.doc.V f λr a h I=>h.elim (λ⟨q,h⟩=>(e r a I).2.2.1 q h) (e r a I).2.2.2.1,p.apart,
  λr a=>⟨λh=>(p.read r a).1 (mK (λo j I _=>f.aW r o j I λx=>(e r (p.read r a).2.1 x).2.2.2.1 a) h),by have:=(p.read r a).2.1;omega,(p.read r a).2.2⟩,p.out⟩
theorem ck.Pj (p:ck w ac af an A R A9 aG n s u t h cs):∀q r,A9 q r->¬aG r:=by
 obtain⟨_,_,_,_,_,_,_,_,_,_,_,_,_,a⟩:=p.doc;exact (a rfl).2
end
theorem Eo {w0:x3} {out:x1} {g:Nat} {x:Int} (e:Ext w0 w) (hm:ap .i64 ah w g out l) (f:∀r,leads out r->w0.heap.size<=r) (F:l.length<=1000000000)
  (p:∀v w' q,Ext w0 w'->ap .i64 ah w' q v (l++[x])->(∀r,leads v r->w0.heap.size<=r)->K v w'):
  ax x7 (Y1 am 1 #[(0,Δ x)]) w λy J=>ax x7 (b8 #[am,am] am #[out,y]) J K:=by
 refine ep (k:=.i64) am.u ah.i rfl λv4 G H I a s=>?_;refine gO am.u ah.i rfl (hm.ext a) s.ls Θ Θ λv5 A L B C E=>?_;have z:=(e.trans a).size;exact p _ _ A ((e.trans a).then E λr j he=>by have:=f r he;omega) B λr j=>(C r j).elim (f r) λh=>Ω
theorem xk (x:bi):(ay x).length<=x.un.length:=by
 unfold ay;have:=List.length_filter_le (λv:Int=>!dropped x.mask v) ((V1 x.un.length).map λv:Nat=>(v:Int));rw[u7,List.length_range] at this;exact this
section
variable {w:x3} {ac af:Nat} {A R:ag} {n:aT} {s:au} {t:aC}
end
theorem tP {out:x1} {g:Nat} {x:Int} (hm:ap .i64 al w g out l) (C:l.length<=1000000000000)
  (e:∀v w' f,ae (λr=>leads out r) w w'->ap .i64 al w' f v (l++[x])->(∀r,leads v r->leads out r\/w.heap.size<=r)->K v w'):
  ax x7 (Y1 ao 1 #[(0,Δ x)]) w λy J=>ax x7 (b8 #[ao,ao] ao #[out,y]) J K:=by
 refine ep (k:=.i64) ao.u al.i rfl λv4 E F G a j=>?_;refine gO ao.u al.i rfl (hm.ext a) j.ls Θ Θ λv5 p H q s A=>?_;have z:=a.size;exact e _ _ p ((a.V _).trans A) q λr B=>(s r B).imp id λh=>Ω
def jX (l:Λ):Λ:=(l.length:Int)::l
def n8 (w:x3) (out v:x1) (l:Λ) (w':x3):Prop:=ae (λr=>leads out r) w w'/\(∃g,ap .i64 al w' g v l)/\ ∀r,leads v r->leads out r\/w.heap.size<=r
theorem n8.trans {J:x3} {o v u:x1} {l':Λ} (h:n8 w o v l J) (k:n8 J v u l' U):n8 w o u l' U:=by
 obtain⟨h1,_,e⟩:=h;obtain⟨f,p,q⟩:=k;have z:=h1.size;have s:=f.size;exact⟨⟨Ω,λr x a I j=>f.aW r x (h1.aW r x a I j) I λh=>(e r h).elim j λh=>by have:=(j0.1 a).1;omega⟩,p,λr a=>(q r a).elim (e r) λh=>.inr Ω⟩
theorem Ep {k f:o6} {a:r9} {g:Nat} {v u:x1} {l':Λ} (h:ap k e w g v l) (h':ap f a w j u l') (he:e≠a) (p:ae (λr=>leads u r) w w'):ap k e w' g v l:=bn h p λr q hu=>by
 obtain⟨y,s⟩:=qQ h r q;obtain⟨z,x⟩:=qQ h' r hu;exact he (ey s x)
theorem Pk {k:o6} {a:r9} {g b:Nat} {u:x1} (f:ab w b a cs) (h:ap k e w g u l) (he:e≠a) (j:ae (λr=>leads u r) w w'):ab w' b a cs:=f.V j λhu=>by
 obtain⟨q,p⟩:=qQ h b hu;exact he (ey p f)
theorem tQ {out f:x1} {g h:Nat} {o:Λ} (hm:ap .i64 al w g out o) (j:ap .i64 ah w h f l) (M:o.length+l.length<=100000000000):ai x7 GH [out,f] w λv w'=>n8 w out v (o++jX l) w':=by
 refine aw func68 ?_;rw[aX am.u j.ls];refine tP hm Ω λA J g1 p B C=>?_;have q:=Ep j hm Φ p;have E:n8 w out A (o++[(l.length:Int)]) J:=⟨p,⟨g1,B⟩,C⟩;rw[aX am.u q.ls];refine b1.range l.length (λi a U=>n8 w out a (o++(l.length:Int)::l.take i) U/\ap .i64 ah U h f l) Ω ⟨by rw[List.take_zero];exact E,q⟩ ?_ ?_
 .rintro i a U G hi ⟨e,r⟩ H;obtain⟨x,s⟩:=aI (l:=l) hi;obtain⟨_,⟨N,y⟩,_⟩:=id e;refine bH Ω ?_;rw[bd am.u ah.i Ψ r.ls s];refine tP y (by rw[p8,Z0,j5];omega) λv3 O I z K L=>?_;rw[aP];refine H _ _ ⟨e.trans ⟨z,⟨I,?_⟩,L⟩,Ep r y Φ z⟩;rw[u9,s];simpa using K
 .rintro a U G ⟨e,_⟩;refine cd Ω ?_;rw[o5] at e;exact e
def cO (s:au) (sc t:Λ):Bool:=(sc.zip t).all λp=>match s.vars[p.1.toNat]? with
 |some x=>decide (p.2∈ay x)
 |none=>false
section
variable {w:x3} {ac af:Nat} {A R:ag} {n:aT} {s:au} {t:aC}
theorem Pl {aF:x1} {at_:Int} (h:bV w ac af A R n s t) (f:aH .i64 w aF sc) (O:aH .i64 w szv ad) (P:∀v∈sc,0<=v/\v<n.sizes.length) (Q:aH .i64 w aM tl) (ap:tl.length=sc.length):
  ai x7 GJ [Γ ac,.agg #[aF,szv,Δ at_],aM] w λr w'=>r= .bool (cO s sc tl)/\Ext w w':=by
 have aq:=h.2.2.2.1.vars;refine aw func71 ?_;refine bm λg1 J au L j=>?_;have j:ab J g1 dQ [aF,szv,Δ at_]:=by
  obtain⟨_,_,_,S⟩:=ds f;obtain⟨_,_,_,V⟩:=ds O;rw[S,V] at j ⊢;exact j
 rw[aA dQ.p 0 j rfl,aX am.u (f.ext L)];refine b1.range sc.length (λi _ U=>Ext w U/\cO s (sc.take i) (tl.take i)=true) f.le ⟨L,rfl⟩ ?_ ?_
 .rintro i W U X hi ⟨z,a⟩ Y;obtain⟨v,B⟩:=aI (l:=sc) hi;obtain⟨y,G⟩:=aI (l:=tl) (i:=i) Ω;have M:=P v (x5 B);obtain⟨x,C⟩:=aI (l:=s.vars) (i:=v.toNat) Ω;refine bH Ω ?_;rw[bd am.u ah.i Ψ (f.ext z) B];intro av Z _ _;have E:=z.trans Z;refine pZ rfl am.u ah.i (Q.ext E) G λb o aa=>?_;rw[aB (v:=Δ y) Ψ aa];refine (ll (i:=v) (h.ext E)).mono ?_;rintro _ ax _ ⟨⟨b,m,rfl,H⟩,I⟩;refine⟨.inl I,?_⟩;refine (DA H.1).mono ?_;rintro _ az _ ⟨rfl,N⟩;obtain⟨hm,ae⟩:=H.2.2 x M.1 C;have aC:=mQ H M.1 C;have ag:(decide (0<=y/\y<(m:Int))&&b.testBit y.toNat)=decide (y∈ay x):=by
   rw[ae,hm];by_cases e:0<=y/\y<(x.un.length:Int)
   .rw[decide_eq_true e,U7,decide_eq_true Ω,U7,Int.toNat_of_nonneg e.1];have:=DJ (x:=x) e;rw[V3,decide_eq_true_eq];simpa using this.symm
   .rw[decide_eq_false e,Bool.false_and];symm;refine decide_eq_false λhm=>e ?_;unfold ay at hm;obtain⟨h1,_⟩:=U8.1 hm;obtain⟨q,ak,rfl⟩:=n9.1 h1;have:=List.mem_range.1 ak;omega
  have al:(sc.take (i+1)).zip (tl.take (i+1))=(sc.take i).zip (tl.take i)++[(v,y)]:=by
   rw[u9,u9,B,G,o7,o7,List.zip_append Θ];rfl
  have an:cO s (sc.take (i+1)) (tl.take (i+1))=decide (y∈ay x):=by
   unfold cO at a ⊢;rw[al,List.all_append,a,U7];simp[C]
  rw[ag,bG,bY];refine⟨λK=>?_,λK=>?_⟩
  .refine⟨?_,(E.trans I).trans N⟩;congr 1;symm;have ao:(v,y)∈sc.zip tl:=x5 (List.getElem?_zip_eq_some.2 ⟨B,G⟩);unfold cO;rw[List.all_eq_false];exact⟨_,ao,by simp only[C];simpa using K⟩
  .rw[aP];exact Y _ _ ⟨(E.trans I).trans N,by rw[an];simpa using K⟩
 .rintro W U X ⟨z,a⟩;rw[aR,aj];refine⟨λh=>Ω,λ_=>⟨?_,z⟩⟩;rw[o5,o9 Ω] at a;rw[a]
end
def fW (x:bi):Λ:=if x.gone≠0 then[] else (ay x).map λv=>x.un.getD v.toNat 0
def dN (x:bi):Λ:=[x.gone]++jX (ay x)++fW x
def ec (s:au) (f:b0):Λ:=if f.live≠0 then jX f.sc++((ba f.ad).filter (cO s f.sc)).map (a7 f.ad f.cs) else[]
def fK (e:pe):Λ:=[-1,e.v]++jX e.sc++jX e.ha
def lq (s:au):Λ:=[s.zero]++s.vars.flatMap dN++s.funs.flatMap (ec s)++s.ce.flatMap fK
theorem pr (l:Λ):(jX l).length=l.length+1:=rfl
def hF (w w':x3) (ac g1 go:Nat) (l:Λ):Prop:=Ext w w'/\ab w' g1 dO [Γ ac]/\ ∃v g,ab w' go ao [v]/\ap .i64 al w' g v l/\ ∀r,leads v r->w.heap.size<=r
section
variable {w J U:x3} {ac af g1 go:Nat} {A R:ag} {n:aT} {s:au} {t:aC} {l l':Λ}
theorem hF.ext (h:hF w J ac g1 go l) (a:Ext J U):hF w U ac g1 go l:=by
 obtain⟨h1,e,v,g,f,j,p⟩:=h;exact⟨h1.trans a,e.ext a,v,g,f.ext a,j.ext a,p⟩
theorem hF.put {v u:x1} {g:Nat} {K:Unit->x3->Prop} (p:Ext w J) (y:w.heap.size<=go) (f:ab J g1 dO [Γ ac]) (e:ab J go ao [u]) (hm:ap .i64 al J g v l) (q:∀r,leads v r->w.heap.size<=r)
  (s:∀U,ae (λr=>r=go) J U->hF w U ac g1 go l->K () U):ax x7 (o8 ao (Γ go) v) J K:=by
 have h:=hm.ls.cells;refine bo (g:=go) (o:=0) ao.i h.1 h.2 e Ξ λU a z x=>s U a ⟨p.then a λr j he=>by have he:r=go:=he;omega,f.V a λhe=>?_,v,g,x,bn hm a λr j he=>?_,q⟩
 .have he:g1=go:=he;subst he;exact absurd (ey f e) Φ
 .have he:r=go:=he;subst he;obtain⟨c,b⟩:=qQ hm r j;exact absurd (ey b e) Φ
theorem side {v:x1} {g b:Nat} (a:ab J b e cs) (hm:ap .i64 al J g v l) (he:al≠e) (f:ae (λr=>leads v r) J U):ab U b e cs:=Pk a hm he f
theorem q5 {u:x1} {b:Nat} (a:ab J b e cs) (f:ab J go ao [u]) (he:ao≠e) (j:ae (λr=>r=go) J U):ab U b e cs:=a.V j λh=>by
 have h:b=go:=h;subst h;exact he (ey f a)
end
theorem ki {α β:Type} {f:α->List β} {L:List α} {b:Nat} (h:∀a∈L,(f a).length<=b):(L.flatMap f).length<=L.length*b:=by
 induction L with
 |nil=>simp
 |cons a L e=>
  rw[Y6,p8,Z0,V9,Nat.one_mul];have:=h a Ξ;have:=e λa j=>h a (by simp[j]);omega
section
variable {w:x3} {ac af:Nat} {A R:ag} {n:aT} {s:au} {t:aC}
theorem Pm (a:bq k sizes s):∀x∈s.vars,(dN x).length<=66:=λx e=>by
 obtain⟨i,hi⟩:=X4.1 e;have f:=a.vars;have h:=(x4.1 hi).1;obtain⟨j,_⟩:=a.var i x _ hi (x6 Ω);have p:=a.fb.2.2 _ (T8 (l:=sizes) (n:=i) Ω);have:=xk x;have hu:(fW x).length<=(ay x).length:=by unfold fW;split<;>simp
 unfold dN;rw[p8,p8,pr];simp;omega
theorem Pn (e:bq k sizes s):∀f∈s.funs,(ec s f).length<=4103:=λf q=>by
 obtain⟨a,h,_⟩:=e.funs f q;have r:dB f.ad:=by rw[h];exact lZ e.fb.2.2 λv j=>⟨(a.scope.1 v j).1,a.vars v j⟩
 have h1:=ib r;have w:aL f.ad<=4096:=by rw[h];exact a.small
 have x:=List.length_filter_le (cO s f.sc) (ba f.ad);have p:=a.scope.2;have p:f.sc.length<=6:=p;unfold ec;split
 .rw[p8,pr,u7];omega
 .simp
theorem Po (h:bV w ac af A R n s t) (cb:Laid w) (B:Ph s) (fP:s.funs.length<=100000) (fQ:s.ce.length<=100000):ai x7 rN [Γ ac] w λv w'=>Ext w w'/\ ∃g,ap .i64 al w' g v (lq s)/\ ∀r,leads v r->w.heap.size<=r:=by
 have ag:=h.2.2.2.1;have fR:=ag.vars;have fS:=ag.fb.2.1;have c5:=Pm ag;have c6:=Pn ag;obtain⟨⟨fU,fV,fX,fY,er⟩,_⟩:=id h;obtain⟨_,_,_,_,cc,cg,_,_,c7,_,_,_,⟨ci,c8⟩,cj,da⟩:=id er;have gb:cc.length=s.funs.length:=c8.1;have gc:cg.length=s.ce.length:=da.1;refine jh func24 ?_;refine bm λg1 J gd ck bb=>?_;have bb:ab J g1 dO [Γ ac]:=bb;rw[aB (v:=Γ ac) Ψ (bb.Qz rfl),dn dO.u];simp only[Z5,aY];rw[aB (v:=Γ ac) Ψ (bb.Qz rfl)];refine (tp (h.ext ck)).mono ?_;rintro _ gf _ ⟨rfl,db⟩;refine ep (k:=.i64) ao.u al.i rfl λv4 gg gh gi dc dd=>?_;refine bB ao.i λgo es aN df O=>?_;have gj:=ck.size;have z3:=db.size;have z4:=dc.size;have bu:=(db.trans dc).trans df;have O:ab es go ao [.slice ν 0 0]:=O;refine hF.put (w:=w) (g1:=g1) (ck.trans bu) Ω (bb.ext bu) O (dd.ext df) (λr z=>by obtain⟨e,_⟩:=bP dd z;omega) λgk gl cl=>?_;rw[aB (v:=Γ ac) Ψ (cl.2.1.Qz rfl)];refine (DD (h.ext cl.1)).mono ?_;rintro _ gn _ ⟨rfl,et⟩;have aN:w.heap.size<=go:=Ω
 refine ch.range n.sizes.length (λi bA=>hF w bA ac g1 go ([s.zero]++(s.vars.take i).flatMap dN)) Ω (by rw[List.take_zero,List.flatMap_nil,X9];exact cl.ext et) ?_ ?_
 .rintro i bA eu hi S ev;obtain⟨x,au⟩:=aI (l:=s.vars) (i:=i) Ω;have bc:([s.zero]++(s.vars.take i).flatMap dN).length<=100000:=by
   have:=ki (L:=s.vars.take i) (f:=dN) (b:=66) λa bd=>c5 a (T3 bd);rw[j5] at this;rw[p8];have P:min i s.vars.length*66<=64*66:=Y9 _ Ω;simp only[U6];omega
  generalize be:[s.zero]++(s.vars.take i).flatMap dN=aj at S bc;have bf:[s.zero]++(s.vars.take (i+1)).flatMap dN=aj++dN x:=by
   rw[<-be,u9,au,o7,List.flatMap_append,List.flatMap_singleton,c9]
  refine bH Ω ?_;refine bB ah.i λaR ew gp ey cm=>?_;have cm:ab ew aR ah [Δ 0]:=cm;refine bo (g:=aR) (o:=0) ah.i rfl rfl cm Ξ λdg ez gq cn=>?_;have cn:ab dg aR ah [Δ (i:Int)]:=cn;have eA:Ext bA dg:=ey.put ez Ω;intro gu dh _ _;have cp:=cn.ext dh;obtain⟨ak,bC,v,g,O,hm,aw⟩:=S.ext (eA.trans dh);obtain⟨gv,gA,gB,gC,a6,gD,L,gE,di,gF,eB,eC,gH,gI⟩:=(h.ext ak).1.parts;have N:∀ {Q:x3} {K:x1->Prop},ab Q g1 dO [Γ ac]->K (Γ ac)->aa x7 (u5 dO (Γ g1)) Q K:=λB ax=>by
   rw[aB (v:=Γ ac) Ψ (B.Qz rfl)];exact ax
  have bg:∀ {Q:x3} {K:x1->Prop},ab Q aR ah [Δ (i:Int)]->K (Δ (i:Int))->aa x7 (u5 ah (Γ aR)) Q K:=λB ax=>by
   rw[aB (v:=Δ (i:Int)) Ψ (B.Qz rfl)];exact ax
  rw[aB (v:=v) Ψ (O.Qz rfl)];refine N bC ?_;rw[aO cu.p 1 di rfl];refine N bC ?_;rw[aO cu.p 2 di rfl];refine bg cp ?_;rw[fy (y:=(i:Int)) (i:=i) rfl am.u ah.i Ψ eC.ls (qT Ω)];refine N bC (bg cp ?_);have bE:t.bK[e9 s i+0]? =σ x.gone:=by rw[h.2.1,pf au Ω];rfl
  refine (mH (i:=e9 s i) eB rfl bE).mono ?_;rintro _ gJ _ ⟨rfl,cq⟩;refine⟨.inl cq,?_⟩;refine ep (k:=.i64) ao.u al.i rfl λgK gL gM gN dj eE=>?_;refine⟨.inl (cq.trans dj),?_⟩;have aS:=cq.trans dj;have U:=hm.ext aS;refine gO ao.u al.i rfl U eE.ls Θ Θ λcr eF ct W cw X=>?_;have eH:=ak.size;have gP:=aS.size;have bh:∀r,leads cr r->w.heap.size<=r:=λr z=>(cw r z).elim (aw r) λh=>Ω
  have an:Ext w ct:=(ak.trans aS).then X λr z he=>by have:=aw r he;omega
  have dk:=side (cp.ext aS) U Φ X;have bF:=side (bC.ext aS) U Φ X;have cz:=side (O.ext aS) U Φ X;refine⟨.inr ⟨nC Ψ (dk.Qz rfl),nC Ψ (bF.Qz rfl),trivial⟩,?_⟩;refine (ll (i:=(i:Int)) (h.ext an)).mono ?_;rintro _ gQ _ ⟨⟨gR,gS,rfl,dl⟩,bu⟩;refine oN.mono ?_;rintro _ dp _ ⟨eI,dq,rfl,gT,cA⟩;have dr:=mQ dl Ω (by rw[r8];exact au);have ds:=bu.trans eI;have gU:=xk x;have gV:=(ag.var i x _ au (x6 hi)).1;have gW:=ag.fb.2.2 _ (T8 hi);refine (Cj (L:=ay x) (oM (g:=dq) dl.1) (λk vs w hk=>by
    obtain⟨v,aC,rfl⟩:=hk;exact⟨v,by rw[<-dr,x8,aC];rfl,rfl⟩) (λa b bE dt=>⟨dt.1.V bE λh=>by have:=cA.lt;have h:dp.heap.size<=dq:=h;omega,jC bE (λh=>by have h:dp.heap.size<=0:=h;have:=cA.lt;omega) dt.2⟩) ⟨cA,cb.ext (an.trans ds)⟩ (by rw[<-dr,u7]) Ω).mono ?_
  rintro gX gY _ ⟨eJ,gZ,_,eK⟩;have Y:=ds.trans eJ;refine (tQ (W.ext Y) eK Θ).mono ?_;rintro bJ bi _ ⟨E,⟨du,aD⟩,bj⟩;have eL:=an.size;have g0:=Y.size;have bL:∀r,leads bJ r->w.heap.size<=r:=λr z=>(bj r z).elim (bh r) λh=>Ω
  have aE:Ext w bi:=(an.trans Y).then E λr z he=>by have:=bh r he;omega
  have eM:=side (dk.ext Y) (W.ext Y) Φ E;have cB:=side (bF.ext Y) (W.ext Y) Φ E;have bM:=side (cz.ext Y) (W.ext Y) Φ E;refine hF.put (w:=w) (g1:=g1) aE aN cB bM aD bL λbN aG bk=>?_;have dv:=q5 eM bM Φ aG;refine N bk.2.1 (bg dv ?_);refine (ll (i:=(i:Int)) (h.ext bk.1)).mono ?_;rintro _ eN _ ⟨⟨eO,eP,rfl,dw⟩,eQ⟩;refine oN.mono ?_;rintro _ g2 _ ⟨eR,dx,rfl,eS,eU⟩;have dy:=eQ.trans eR;have dz:=mQ dw Ω (by rw[r8];exact au);have dA:=bk.ext dy;let dC:=aj++[x.gone]++jX (ay x);refine lE.old ⟨Nat,false,ke,#[Γ dx],_,_,_,_,λq w'=>hF w w' ac g1 go (dC++(fW x).take q)/\ab w' aR ah [Δ (i:Int)],λ_ _ _=>False,rfl,(oM (g:=dx) dw.1).s,?_,
   λ_ _ C h=>⟨h.1.ext C,h.2.ext C⟩,λ_ _ _ C h=>⟨h.1.ext C,h.2.ext C⟩,λ_ _ _ _ _ h=>h,⟨eU,cb.ext dA.1⟩,⟨by rw[List.take_zero,X9];exact dA,dv.ext dy⟩,?_,?_,λ_ _ h=>h.elim,λ_ _ _ h=>h.elim⟩
  .rintro _ _ _ _ ⟨_,_,_,_,rfl⟩;rfl
  .rintro _ q _ dD ⟨dE,eV⟩ ⟨bO,rfl,y,bQ,eW⟩ ⟨bS,cC⟩;cases eW;intro g3 cD _ _;have cE:=bS.ext cD;have cF:=cC.ext cD;have dF:(ay x)[q]? =σ (y:Int):=by rw[<-dz,x8,bQ];rfl
   have dG:=x5 dF;have g4:0<=(y:Int)/\(y:Int)<x.un.length:=by
    unfold ay at dG;obtain⟨h1,_⟩:=U8.1 dG;obtain⟨j,aH,e⟩:=n9.1 h1;have:=List.mem_range.1 aH;omega
   refine N cE.2.1 (bg cF ?_);refine (n3 (i:=(i:Int)) (v:=(y:Int)) (h.ext cE.1)).mono ?_;rintro _ g5 _ ⟨rfl,bT⟩;have eX:gw n i y:=⟨Ω,Ω,Ω,by rw[r8,u4,x6 hi,V6];omega⟩;have eY:hZ s (i:Int).toNat (y:Int).toNat=x.un.getD y 0:=by
    rw[r8,r8];unfold hZ;rw[au]
   have bl:=cE.ext bT;rw[if_pos eX,eY,bx,bz];refine N bl.2.1 (bg (cF.ext bT) ?_);refine (wV (i:=(i:Int)) (h.ext bl.1)).mono ?_;rintro _ g6 _ ⟨rfl,bU⟩;have eZ:(decide (0<=(i:Int))&&lk s (i:Int).toNat)=decide (x.gone≠0):=by
    rw[decide_eq_true Ω,U7,r8];unfold lk;rw[au]
   have bW:=(cD.trans bT).trans bU;rw[eZ,bG,bY];refine⟨λaJ=>?_,λaJ=>?_⟩
   .have aT:¬x.gone≠0:=by simpa using aJ
    obtain⟨bn,cG,v5,e0,aq,G,bp⟩:=bl.ext bU;rw[aB (v:=v5) Ψ (aq.Qz rfl)];have e1:((fW x).take q).length<=100:=by rw[j5];unfold fW;rw[if_neg aT,u7];omega
    refine tP G (by simp only[dC,p8,pr,U6];omega) λe2 cH e3 H cI cJ=>?_;have e4:=bn.size;have cK:Ext w cH:=bn.then H λr z he=>by have:=bp r he;omega
    refine hF.put (w:=w) (g1:=g1) cK aN (side cG G Φ H) (side aq G Φ H) cI (λr z=>(cJ r z).elim (bp r) λh=>Ω) λcM bX aU=>?_;have e5:=q5 (side ((cF.ext bT).ext bU) G Φ H) (side aq G Φ H) Φ bX;have cN:=eS;have e6:∀ {b:Nat} {e:r9} {cs:List x1},ab dD b e cs->al≠e->ao≠e->ab cM b e cs:=λB h1 P=>q5 (side (B.ext bW) G h1 H) (side aq G Φ H) P bX;refine⟨⟨e6 dE Φ Φ,cb.ext aU.1⟩,⟨?_,e5⟩,λh=>by cases h⟩;rw[u9,show (fW x)[q]? =σ (x.un.getD y 0) by unfold fW;rw[if_neg aT,x8,dF];rfl,o7,<-c9];exact aU
   .have aT:x.gone≠0:=by simpa using aJ
    refine⟨⟨dE.ext bW,eV.ext bW⟩,⟨?_,cC.ext bW⟩,λh=>by cases h⟩;have e:fW x=[]:=by unfold fW;rw[if_pos aT]
    rw[e,List.take_nil] at bl ⊢;exact bl.ext bU
  .rintro q dD rfl ⟨bS,cC⟩;rw[aP];refine ev _ ?_;rw[bf];have:(fW x).take (gm eO eP).length=fW x:=o9 (by
    unfold fW;split
    .simp
    .rw[u7,<-dz,u7];exact o4 _)
   rw[this] at bS;unfold dN;rw[<-c9,<-c9];exact bS
 .rintro bA eu S;refine cd Ω ?_;rw[o9 Ω] at S;have e7:([s.zero]++s.vars.flatMap dN).length<=100000:=by
   have:=ki (L:=s.vars) (f:=dN) (b:=66) c5;have P:s.vars.length*66<=64*66:=Y9 _ Ω;rw[p8];simp only[U6];omega
  have N:∀ {Q:x3} {K:x1->Prop},ab Q g1 dO [Γ ac]->K (Γ ac)->aa x7 (u5 dO (Γ g1)) Q K:=λB ax=>by
   rw[aB (v:=Γ ac) Ψ (B.Qz rfl)];exact ax
  refine N S.2.1 ?_;rw[aO cu.p 3 (c7.ext S.1) rfl,eD fh.u (ci.ext S.1)];unfold lq;generalize[s.zero]++s.vars.flatMap dN=aV at S e7;refine ch.range cc.length (λj bZ=>hF w bZ ac g1 go (aV++(s.funs.take j).flatMap (ec s))) Ω (by rw[List.take_zero,List.flatMap_nil,X9];exact S) ?_ ?_
  .rintro j bZ e8 aH M fa;obtain⟨f,aW⟩:=aI (l:=s.funs) (i:=j) Ω;obtain⟨y,bQ⟩:=aI (l:=cc) aH;obtain⟨⟨⟨bI,aX⟩,_⟩,fc,_⟩:=c8.2 j y f bQ aW;have b0:=fc.ls;obtain⟨aZ,cP,_⟩:=ag.funs f (x5 aW);have b1:dB f.ad:=by rw[cP];exact lZ ag.fb.2.2 λv aC=>⟨(aZ.scope.1 v aC).1,aZ.vars v aC⟩
   have g7:f.sc.length<=6:=aZ.scope.2;have fd:f.ad.length=f.sc.length:=by rw[cP];unfold bR;rw[u7]
   have fe:b5 f.ad:=⟨Ω,b1⟩;have g8:=ib b1;have g9:aL f.ad<=4096:=by rw[cP];exact aZ.small
   have bc:(aV++(s.funs.take j).flatMap (ec s)).length<=1000000000:=by
    have:=ki (L:=s.funs.take j) (f:=ec s) (b:=4103) λa bd=>c6 a (T3 bd);rw[j5] at this;have P:min j s.funs.length*4103<=100000*4103:=Y9 _ Ω;rw[p8];omega
   generalize be:aV++(s.funs.take j).flatMap (ec s)=aj at M bc;have bf:aV++(s.funs.take (j+1)).flatMap (ec s)=aj++ec s f:=by
    rw[<-be,u9,aW,o7,List.flatMap_append,List.flatMap_singleton,c9]
   refine bH Ω ?_;refine dm (λdH=>hF w dH ac g1 go (aj++ec s f)) (λdH ff=>by rw[aP];exact fa _ (by rw[bf];exact ff)) λav dI=>?_;rw[de rfl fh.u dQ.i (ci.ext M.1) aH,bD dQ.p dQ.i rfl ((ci.ext M.1).range bQ)];refine bB ah.i λZ dJ ha b2 a1=>?_;have a1:ab dJ Z ah [Δ 0]:=a1;refine bB dQ.i λb4 dK hb dL dM=>?_;refine bo (g:=Z) (o:=0) ah.i rfl rfl (a1.ext dL) Ξ λcQ dP hc cR=>?_;have cR:ab cQ Z ah [Δ (j:Int)]:=cR;have hd:=b2.size;have hf:=a1.lt;have cS:=(aX.ext M.1).ls;have fg:=b0.ext M.1;refine b3 (vs:=l2 y) dQ.i rfl rfl (by intro u hu;simp[l2] at hu;rcases hu with rfl|rfl|rfl<;>first|rfl|exact cS.cells.2|exact fg.cells.2) (dM.V dP λhe=>by have he:b4=Z:=he;omega) λdR dS hh fi=>?_;have dT:=cR.V dS λhe=>by have he:Z=b4:=he;omega
   have fj:Ext bZ dR:=((b2.trans dL).then dP λr z he=>by have he:r=Z:=he;omega).put dS Ω;have cT:=M.ext fj;have dU:∀ {Q:x3} {K:x1->Prop},ab Q Z ah [Δ (j:Int)]->K (Δ (j:Int))->aa x7 (u5 ah (Γ Z)) Q K:=λB ax=>by
    rw[aB (v:=Δ (j:Int)) Ψ (B.Qz rfl)];exact ax
   refine N cT.2.1 (dU dT ?_);refine (wX (j:=(j:Int)) (h.ext cT.1)).mono ?_;rintro _ dV _ ⟨rfl,bq⟩;have dW:=cT.ext bq;have fk:(decide (0<=(j:Int))&&gx s (j:Int).toNat)=decide (f.live≠0):=by
    rw[decide_eq_true Ω,U7,r8];unfold gx;rw[aW]
   rw[fk,bG,bY];refine⟨λaJ=>dI _ ?_,λaJ=>?_⟩
   .have aT:¬f.live≠0:=by simpa using aJ
    unfold ec;rw[if_neg aT,X9];exact dW
   have cN:f.live≠0:=by simpa using aJ
   obtain⟨cU,fm,fo,ge,cV,br,dX⟩:=id dW;have fp:=dT.ext bq;have dY:ab dV b4 dQ [y.aF,y.szv,Δ (y.at_:Int)]:=fi.ext bq;rw[aB (v:=fo) Ψ (cV.Qz rfl),aA dQ.p 0 dY rfl];refine (tQ br (aX.ext cU) Ω).mono ?_;rintro bJ bi _ ⟨E,⟨du,aD⟩,bj⟩;have hj:=cU.size;have aE:Ext w bi:=cU.then E λr z he=>by have:=dX r he;omega
   refine hF.put (w:=w) (g1:=g1) aE aN (side fm br Φ E) (side cV br Φ E) aD (λr z=>(bj r z).elim (dX r) λh=>Ω) λbN aG bk=>?_;have dZ:∀ {b:Nat} {e:r9} {cs:List x1},ab dV b e cs->al≠e->ao≠e->ab bN b e cs:=λB h1 P=>q5 (side B br h1 E) (side cV br Φ E) P aG;have fq:=dZ fp Φ Φ;have ea:=dZ dY Φ Φ;rw[aQ dQ.p rfl,bD (cs:=[y.szv]) bw.p bw.i rfl (λq u bO=>by
    cases q with
    |zero=>cases bO;exact ea.cell (o:=0+1) rfl
    |succ q=>simp at bO)]
   refine sC.mono ?_;rintro _ hl _ ⟨cW,eb,rfl,hn,fs⟩;have cX:=bk.ext cW;have ft:=sB (g:=eb) (B0:=w.heap.size) (sv:=y.szv) fe;refine na.old ⟨Nat,false,kN,#[Γ eb],_,_,_,_,λq w'=>hF w w' ac g1 go (aj++jX f.sc++(((ba f.ad).take q).filter (cO s f.sc)).map (a7 f.ad f.cs))/\ab w' Z ah [Δ (j:Int)]/\ab w' b4 dQ [y.aF,y.szv,Δ (y.at_:Int)],λ_ _ _=>False,rfl,ft.s,
    ?_,λ_ _ C h=>⟨h.1.ext C,h.2.1.ext C,Y5 h.2.2 C.size⟩,λ_ _ _ C h=>⟨h.1.ext C,h.2.1.ext C,h.2.2.ext C⟩,λ_ _ _ _ _ h=>h,⟨fs,b0.ext cX.1,cX.1.size⟩,⟨by rw[List.take_zero,List.filter_nil,List.map_nil,X9];exact cX,fq.ext cW,ea.ext cW⟩,?_,?_,λ_ _ h=>h.elim,λ_ _ _ h=>h.elim⟩
   .rintro _ _ _ _ ⟨_,_,_,_,rfl,_⟩;rfl
   .rintro _ aM q _ ed ⟨ee,fu,fv⟩ ⟨bO,rfl,ho,gt,fw,hp,ef⟩ ⟨b6,cY,cZ⟩;cases fw;have b7:(ba f.ad)[q]? =σ (cL f.ad (q:Int)):=nG b1 Ω;generalize cL f.ad (q:Int)=tl at b7 ef;intro hq b8 _ _;have c0:=b6.ext b8;have eg:=(ef.ext b8).ls;refine N c0.2.1 (dU (cY.ext b8) ?_);refine (qU (j:=j) (h.ext c0.1) eg).mono ?_;rintro _ hr _ ⟨rfl,c1⟩;have fx:=iN b1 b7;have fz:(hg s j tl).isSome=true:=by unfold hg;rw[aW];simp only;rw[if_pos cN,fx];rfl
    have fA:l6 s j tl=a7 f.ad f.cs tl:=by unfold l6;rw[aW]
    have bt:=c0.ext c1;rw[if_pos fz,fA,bx,bz];refine N bt.2.1 ?_;have eh:=b8.trans c1;rw[bD dQ.p dQ.i rfl (cZ.ext eh).range];refine (Pl (at_:=(y.at_:Int)) (h.ext bt.1) ((aX.ext bt.1).ls) (b0.ext bt.1) (λv aC=>⟨(aZ.scope.1 v aC).1,aZ.vars v aC⟩) (eg.ext c1) (by rw[r7 b7,fd])).mono ?_;rintro _ hs _ ⟨rfl,ei⟩;have ej:=bt.ext ei;have a2:=eh.trans ei;have ek:((ba f.ad).take (q+1)).filter (cO s f.sc)=((ba f.ad).take q).filter (cO s f.sc)++(if cO s f.sc tl=true then[tl] else[]):=by
     rw[u9,b7,o7,List.filter_append];congr 1;cases az:cO s f.sc tl<;>simp[az]
    rw[bY];refine⟨λc2=>?_,λc2=>?_⟩
    .obtain⟨bn,cG,v5,e0,aq,G,bp⟩:=ej;rw[aB (v:=v5) Ψ (aq.Qz rfl)];have e1:(((ba f.ad).take q).filter (cO s f.sc)).length<=4096:=by
      have:=List.length_filter_le (cO s f.sc) ((ba f.ad).take q);rw[j5] at this;omega
     refine tP G (by simp only[p8,pr,u7];omega) λe2 cH e3 H cI cJ=>?_;have e4:=bn.size;have cK:Ext w cH:=bn.then H λr z he=>by have:=bp r he;omega
     refine hF.put (w:=w) (g1:=g1) cK aN (side cG G Φ H) (side aq G Φ H) cI (λr z=>(cJ r z).elim (bp r) λh=>Ω) λcM bX aU=>?_;have c3:∀ {b:Nat} {e:r9} {cs:List x1},ab ed b e cs->al≠e->ao≠e->ab cM b e cs:=λB h1 P=>q5 (side (B.ext a2) G h1 H) (side aq G Φ H) P bX;refine⟨⟨c3 ee Φ Φ,b0.ext aU.1,aU.1.size⟩,⟨?_,c3 cY Φ Φ,c3 cZ Φ Φ⟩,λh=>by cases h⟩;rw[ek,if_pos c2,j6,List.map_singleton,<-c9];exact aU
    .refine⟨⟨ee.ext a2,fu.ext a2,Y5 fv a2.size⟩,⟨?_,cY.ext a2,cZ.ext a2⟩,λh=>by cases h⟩;rw[ek,if_neg (by rw[c2];decide),X9];exact ej
   .rintro q ed rfl ⟨b6,_⟩;refine dI _ ?_;rw[o9 Ω] at b6;unfold ec;rw[if_pos cN,<-c9];exact b6
  .rintro bZ e8 M;refine cd Ω ?_;rw[o9 Ω] at M;have fB:(aV++s.funs.flatMap (ec s)).length<=1000000000:=by
    have:=ki (L:=s.funs) (f:=ec s) (b:=4103) c6;have P:s.funs.length*4103<=100000*4103:=Y9 _ Ω;rw[p8];omega
   refine N M.2.1 ?_;rw[aO cu.p 4 (c7.ext M.1) rfl,eD rU.u (cj.ext M.1)];generalize aV++s.funs.flatMap (ec s)=b9 at M fB;refine ch.range cg.length (λj ca=>hF w ca ac g1 go (b9++(s.ce.take j).flatMap fK)) Ω (by rw[List.take_zero,List.flatMap_nil,X9];exact M) ?_ ?_
   .rintro j ca fD aH ae fE;obtain⟨e,he⟩:=aI (l:=s.ce) (i:=j) Ω;obtain⟨x,C⟩:=aI (l:=cg) aH;obtain⟨bq,⟨⟨bI,aX⟩,_⟩,⟨ht,em⟩,_⟩:=da.2 j x e C he;obtain⟨hv,dM⟩:=B e (x5 he);have bc:(b9++(s.ce.take j).flatMap fK).length<=10000000000:=by
     have:=ki (L:=s.ce.take j) (f:=fK) (b:=2004) λa bd=>by
      obtain⟨h1,P⟩:=B a (T3 bd);unfold fK;simp only[p8,pr,Z0,List.length_nil];omega
     rw[j5] at this;have P:min j s.ce.length*2004<=100000*2004:=Y9 _ Ω;rw[p8];omega
    generalize be:b9++(s.ce.take j).flatMap fK=aj at ae bc;have bf:b9++(s.ce.take (j+1)).flatMap fK=aj++fK e:=by
     rw[<-be,u9,he,o7,List.flatMap_append,List.flatMap_singleton,c9]
    refine bH Ω ?_;rw[de rfl rU.u fZ.i (cj.ext ae.1) aH,bD fZ.p fZ.i rfl ((cj.ext ae.1).range C)];refine bB fZ.i λge dJ hx b2 a1=>?_;have cS:=(aX.ext ae.1).ls;have fF:=(em.ext ae.1).ls;refine b3 (vs:=wu x) fZ.i rfl rfl (by intro u hu;simp[wu] at hu;rcases hu with rfl|rfl|rfl<;>first|rfl|exact cS.cells.2|exact fF.cells.2) a1 λdK fG hy a8=>?_;have fH:Ext ca dK:=b2.put fG Ω;intro cQ en _ _;have a8:ab cQ ge fZ [Δ x.v,x.aF,x.bv]:=a8.ext en;obtain⟨ak,I,v,g,O,hm,aw⟩:=ae.ext (fH.trans en);rw[aB (v:=v) Ψ (O.Qz rfl),aA fZ.p 0 a8 rfl,aA fZ.p 1 a8 rfl,aA fZ.p 2 a8 rfl,bq];refine pY (l:=[-1,e.v]) ao.u al.i Ω rfl Ψ λhz hA dR hB aK fI=>?_;refine⟨.inl aK,?_⟩;have U:=hm.ext aK;refine gO ao.u al.i rfl U fI.ls Θ Θ λcr eF ct W cw X=>?_;have eH:=ak.size;have hC:=aK.size;have bh:∀r,leads cr r->w.heap.size<=r:=λr z=>(cw r z).elim (aw r) λh=>Ω
    have an:Ext w ct:=(ak.trans aK).then X λr z he=>by have:=aw r he;omega
    have c4:=side (a8.ext aK) U Φ X;have bF:=side (I.ext aK) U Φ X;have cz:=side (O.ext aK) U Φ X;refine⟨.inr ⟨nC Ψ (c4.cell (o:=0+2) rfl),Go.Vc.k4 λK=>aQ fZ.p rfl,nC Ψ (c4.cell (o:=0+1) rfl),Go.Vc.k4 λK=>aQ fZ.p rfl,trivial⟩,?_⟩;refine (tQ W (aX.ext an) Θ).mono ?_;rintro bJ bi _ ⟨E,⟨du,aD⟩,bj⟩;have eL:=an.size;have bL:∀r,leads bJ r->w.heap.size<=r:=λr z=>(bj r z).elim (bh r) λh=>Ω
    have aE:Ext w bi:=an.then E λr z he=>by have:=bh r he;omega
    have fJ:=side c4 W Φ E;have cB:=side bF W Φ E;have bM:=side cz W Φ E;refine⟨.inr ⟨nC Ψ (fJ.cell (o:=0+2) rfl),Go.Vc.k4 λK=>aQ fZ.p rfl,trivial⟩,?_⟩;refine (tQ aD (em.ext aE) (by simp[pr];omega)).mono ?_;rintro hD bN _ ⟨aG,⟨hE,fL⟩,fM⟩;have hG:=aE.size;have fN:Ext w bN:=aE.then aG λr z he=>by have:=bL r he;omega
    refine hF.put (w:=w) (g1:=g1) fN aN (side cB aD Φ aG) (side bM aD Φ aG) fL (λr z=>(fM r z).elim (bL r) λh=>Ω) λeN hH fO=>?_;rw[aP];refine fE _ ?_;rw[bf];unfold fK;rw[<-c9,<-c9];exact fO
   .rintro ca fD ae;refine cd Ω ?_;rw[o9 Ω] at ae;obtain⟨ak,I,v,g,O,hm,aw⟩:=ae;rw[aB (v:=v) Ψ (O.Qz rfl)];intro hI eo _;exact⟨ak.trans eo,g,hm.ext eo,aw⟩
end
def gD (s:au):List b0:=s.funs.filter λf=>decide (f.live≠0)
structure ps (s t:au):Prop where
 zero:s.zero=t.zero
 Pp:s.ce.length=t.ce.length
 vars:s.vars.map dN=t.vars.map dN
 ce:s.ce.map fK=t.ce.map fK
 funs:(gD s).map (ec s)=(gD t).map (ec t)
theorem tR {b:Λ} (h:jX a++r=jX b++r'):a=b/\r=r':=by
 unfold jX at h;rw[List.cons_append,List.cons_append,List.cons.injEq] at h;exact List.append_inj h.2 Ω
theorem Er {x:bi}:(fW x).length=if x.gone≠0 then 0 else (ay x).length:=by
 unfold fW;split<;>simp
theorem xl {x y:bi} (h:dN x++r=dN y++r'):(x.gone=y.gone/\ay x=ay y/\fW x=fW y)/\r=r':=by
 unfold dN at h;rw[c9,c9,c9,c9,List.singleton_append,List.singleton_append,List.cons.injEq] at h;obtain⟨h1,e⟩:=h;obtain⟨a,f⟩:=tR e;obtain⟨j,p⟩:=List.append_inj f (by rw[Er,Er,h1,a]);exact⟨⟨h1,a,j⟩,p⟩
theorem q6 {x y:bi}:dN x=dN y↔x.gone=y.gone/\ay x=ay y/\fW x=fW y:=⟨λh=>(xl (r:=[]) (r':=[]) (by rw[h])).1,λ⟨h1,a,e⟩=>by unfold dN;rw[h1,a,e]⟩
theorem Es {α:Type} {f g:α->Λ} (h:∀x y r r',f x++r=g y++r'->f x=g y/\r=r'):∀ (L M:List α) (r r':Λ),L.length=M.length->L.flatMap f++r=M.flatMap g++r'->L.map f=M.map g/\r=r'
 |[],[],_,_,_,e=>⟨rfl,e⟩
 |[],_::_,_,_,a,_=>by simp at a
 |_::_,[],_,_,a,_=>by simp at a
 |x::L,y::M,r,r',a,e=>by
  rw[Y6,Y6,c9,c9] at e;obtain⟨h1,j⟩:=h x y _ _ e;obtain⟨p,q⟩:=Es h L M r r' (by simpa using a) j;exact⟨by rw[V4,V4,h1,p],q⟩
theorem xm {α:Type} {f g:α->Λ} {P:Int->Prop}:∀ (L M:List α) (r r':Λ),(∀x∈L,∀y∈M,∀r r',f x++r=g y++r'->f x=g y/\r=r')->(∀x∈L,∃a l,f x=a::l/\P a)->(∀x∈M,∃a l,g x=a::l/\P a)->(∀a l,r=a::l->¬P a)->(∀a l,r'=a::l->¬P a)->
  L.flatMap f++r=M.flatMap g++r'->L.map f=M.map g/\r=r'
 |[],[],_,_,_,_,_,_,_,e=>⟨rfl,e⟩
 |[],y::M,r,r',_,_,p,q,_,e=>by
  obtain⟨a,l,s,h⟩:=p y (.head _);rw[List.flatMap_nil,List.nil_append,Y6,s,c9,List.cons_append] at e;exact absurd h (q _ _ e)
 |x::L,[],r,r',_,h1,_,_,w,e=>by
  obtain⟨a,l,s,h⟩:=h1 x (.head _);rw[List.flatMap_nil,List.nil_append,Y6,s,c9,List.cons_append] at e;exact absurd h (w _ _ e.symm)
 |x::L,y::M,r,r',h,h1,p,q,w,e=>by
  rw[Y6,Y6,c9,c9] at e;obtain⟨z,A⟩:=h x (.head _) y (.head _) _ _ e;obtain⟨B,C⟩:=xm L M r r' (λa j b E=>h a (.tail _ j) b (.tail _ E)) (λa j=>h1 a (.tail _ j)) (λa j=>p a (.tail _ j)) q w A;exact⟨by rw[V4,V4,z,B],C⟩
theorem xn {s:au}:∀ (L:List b0),L.flatMap (ec s)=(L.filter λf=>decide (f.live≠0)).flatMap (ec s)
 |[]=>rfl
 |f::L=>by
  rw[Y6,xn L,List.filter_cons];by_cases h:f.live≠0
  .rw[decide_eq_true h,if_pos rfl,Y6]
  .rw[decide_eq_false h,if_neg Φ];unfold ec;rw[if_neg h,List.nil_append]
theorem Et {s t:au} (h:s.vars.map dN=t.vars.map dN):cO s sc tl=cO t sc tl:=by
 unfold cO;congr 1;funext p;have h1:(s.vars.map dN)[p.1.toNat]? =(t.vars.map dN)[p.1.toNat]?:=by rw[h]
 rw[x8,x8] at h1;cases I:s.vars[p.1.toNat]? with
 |none=>
  rw[I] at h1;cases a:t.vars[p.1.toNat]? with
  |none=>rfl
  |some y=>rw[a] at h1;cases h1
 |some x=>
  rw[I] at h1;cases a:t.vars[p.1.toNat]? with
  |none=>rw[a] at h1;cases h1
  |some y=>
   rw[a] at h1;have:=(q6.1 (c8 h1)).2.1;show decide (p.2∈ay x)=decide (p.2∈ay y);rw[this]
theorem oa {s:au} {f:b0} (h:f∈gD s):f∈s.funs/\ec s f=jX f.sc++((ba f.ad).filter (cO s f.sc)).map (a7 f.ad f.cs):=by
 obtain⟨h1,a⟩:=U8.1 h;exact⟨h1,by unfold ec;rw[if_pos (of_decide_eq_true a)]⟩
theorem Eu {s t:au} (I:bq k sizes s) (h:bq k sizes t) (j:s.vars.map dN=t.vars.map dN) {f g:b0} (p:f∈gD s) (q:g∈gD t) (e:ec s f++r=ec t g++r'):
  f.sc=g.sc/\((ba f.ad).filter (cO s f.sc)).map (a7 f.ad f.cs)=((ba f.ad).filter (cO s f.sc)).map (a7 f.ad g.cs)/\r=r':=by
 obtain⟨f1,f2⟩:=oa p;obtain⟨g1,w⟩:=oa q;rw[f2,w,c9,c9] at e;obtain⟨h1,a⟩:=tR e;have x:g.ad=f.ad:=by rw[(I.funs f f1).2.1,(h.funs g g1).2.1,h1]
 have y:cO t g.sc=cO s f.sc:=by funext tl;rw[<-Et j,h1]
 rw[x,y] at a;obtain⟨z,A⟩:=List.append_inj a (by rw[u7,u7]);exact⟨h1,z,A⟩
theorem Ev {s t:au} (I:bq k sizes s) (e:bq k sizes t) (j:s.vars.map dN=t.vars.map dN) {f g:b0} (p:f∈gD s) (q:g∈gD t):
  ec s f=ec t g↔f.sc=g.sc/\((ba f.ad).filter (cO s f.sc)).map (a7 f.ad f.cs)=((ba f.ad).filter (cO s f.sc)).map (a7 f.ad g.cs):=by
 refine⟨λh=>?_,λ⟨h1,a⟩=>?_⟩
 .obtain⟨h1,a,_⟩:=Eu (r:=[]) (r':=[]) I e j p q (by rw[h]);exact⟨h1,a⟩
 .obtain⟨f1,f2⟩:=oa p;obtain⟨g1,w⟩:=oa q;have x:g.ad=f.ad:=by rw[(I.funs f f1).2.1,(e.funs g g1).2.1,h1]
  have y:cO t g.sc=cO s f.sc:=by funext tl;rw[<-Et j,h1]
  rw[f2,w,x,y,a,h1]
theorem Ew {a b:pe} (h:fK a++r=fK b++r'):(a.v=b.v/\a.sc=b.sc/\a.ha=b.ha)/\r=r':=by
 unfold fK at h;rw[c9,c9,c9,c9,List.cons_append,List.cons_append,List.nil_append,List.cons_append,List.cons_append,List.nil_append] at h;injection h with _ h;injection h with h1 h;obtain⟨e,h⟩:=tR h;obtain⟨f,h⟩:=tR h;exact⟨⟨h1,e,f⟩,h⟩
theorem Ex {s t:au} (I:bq k sizes s) (j:bq k sizes t):lq s=lq t↔ps s t:=by
 unfold lq;rw[xn s.funs,xn t.funs];refine⟨λh=>?_,λh=>?_⟩
 .rw[c9,c9,c9,c9,List.singleton_append,List.singleton_append] at h;injection h with B h;obtain⟨h1,h⟩:=Es (λx y r r' e=>⟨q6.2 (xl e).1,(xl e).2⟩) s.vars t.vars _ _ (by rw[I.vars,j.vars]) h;have p:∀u:au,∀a l,u.ce.flatMap fK=a::l->¬0<=a:=λu a l e=>by
   cases hu:u.ce with
   |nil=>rw[hu] at e;cases e
   |cons x l'=>
    rw[hu,Y6] at e;unfold fK at e;rw[c9,c9,List.cons_append] at e;injection e with e _;omega
  have q:∀u:au,∀f∈gD u,∃a l,ec u f=a::l/\0<=a:=λu f C=>by
   rw[(oa C).2];exact⟨_,_,rfl,Ω⟩
  obtain⟨E,h⟩:=xm (P:=λa=>0<=a) (gD s) (gD t) _ _ (λx w y z r r' e=>by
   obtain⟨a,b,c⟩:=Eu I j h1 w z e;exact⟨(Ev I j h1 w z).2 ⟨a,b⟩,c⟩) (q s) (q t) (p s) (p t) h
  obtain⟨A,_⟩:=xm (f:=fK) (g:=fK) (P:=λ_=>True) (r:=[]) (r':=[]) s.ce t.ce (λx _ y _ r r' e=>by
   obtain⟨⟨a,b,c⟩,d⟩:=Ew e;exact⟨by unfold fK;rw[a,b,c],d⟩) (λx _=>⟨_,_,rfl,trivial⟩) (λx _=>⟨_,_,rfl,trivial⟩) (λ_ _ e=>by cases e) (λ_ _ e=>by cases e) (by rw[X9,X9];exact h)
  exact⟨B,by simpa using congrArg T1 A,h1,A,E⟩
 .show[s.zero]++s.vars.flatMap dN++(gD s).flatMap (ec s)++_=[t.zero]++t.vars.flatMap dN++(gD t).flatMap (ec t)++_;rw[List.flatMap_def,List.flatMap_def,List.flatMap_def,List.flatMap_def (l:=t.vars),List.flatMap_def (l:=gD t),List.flatMap_def (l:=t.ce),h.zero,h.vars,h.ce,h.funs]
theorem Pq {t:r9} {cx cy:Bool} {a b:Bool} {K:x1->Prop} (e:x7.underlying t=σ .bool):aa x7 (aJ .neq t cx cy (.bool a) (.bool b)) w K=K (.bool !(a == b)):=
 zr (λ_=>rfl) rfl λw' _=>run_equalIn_bool' (P:=x7) (w:=w') 9999 t a b e
theorem Ey {S R:ag} {e:pe} (h:ak.rep (α:=jr) m S R w cs (l5 e)):∃aF bv,cs=[Δ e.v,aF,bv]/\Seen dg w [aF] e.sc/\Seen dg w [bv] e.ha:=by
 obtain⟨j,y,A,B,rfl,_,_,_,h1,p,q,aK,z,rfl,_,_,_,a,f⟩:=h;have h1:j=[Δ e.v]:=h1;have a:Seen _ w p e.sc:=a;have f:Seen _ w q e.ha:=f;have one:∀ {α:Type} [ak α] {m:Bool} {S R:ag} {c:List x1} {l:List α},ak.rep m S R w c l-> ∃v,c=[v]:=λh=>by obtain⟨v,r,_⟩:=h;exact⟨v,r⟩
 obtain⟨s,rfl⟩:=one a;obtain⟨x,rfl⟩:=one f;subst h1;exact⟨s,x,rfl,gU a,gU f⟩
theorem Pr {b:Bool} {aF aZ:x1} {e f:Λ} (h1:Seen dg w [aF] a) (h:Seen dg w [szv] e) (j:Seen dg w [aZ] f):∀u∈[aF,szv,aZ,.bool b],u.oneCell'=true:=by
 intro u hu;simp only[W6,List.not_mem_nil,or_false] at hu;rcases hu with rfl|rfl|rfl|rfl
 .exact e6 h1
 .exact e6 h
 .exact e6 j
 .rfl
section
variable {w:x3} {ac af:Nat} {A R:ag} {n:aT} {s:au} {t:aC} {eY:x1}
end
theorem Ps {R:ag} {f:b0} (h:Seen (α:=hB) R w cs (gu f)):∃aF szv aZ,cs=[aF,szv,aZ,.bool (decide (f.live≠0))]/\Seen R w [aF] f.sc/\Seen R w [szv] f.ad/\Seen R w [aZ] f.cs:=by
 obtain⟨H,p,A,B,rfl,q,_,_,⟨s,I,aK,J,rfl,_,x,_,h1,y,z,K,ew,rfl,_,C,_,a,e⟩,j⟩:=h;have one:∀ {α:Type} [ak α] {m:Bool} {S R:ag} {c:List x1} {l:List α},ak.rep m S R w c l-> ∃v,c=[v]:=λh=>by obtain⟨v,E,_⟩:=h;exact⟨v,E⟩
 have h1:Seen R w s f.sc:=h1;have a:Seen R w y f.ad:=a;have j:p=[.bool (decide (f.live≠0))]:=j;have e:ak.rep false ew R w z f.cs:=e;obtain⟨F,rfl⟩:=one h1;obtain⟨G,rfl⟩:=one a;obtain⟨v3,rfl⟩:=one e;subst j;exact⟨F,G,v3,rfl,h1,a,nt e λr _ h=>h.elim (λh=>(q r (x r (C r h))).elim) id⟩
def jY (B:Nat) (w:x3) (sizes:Λ) (h:eG):Prop:=Seen (λr=>r<B) w [h.aF] h.sc/\Seen (λr=>r<B) w [h.szv] (bR sizes h.sc)/\Seen (λr=>r<B) w [h.aZ] h.cs
theorem jY.V {h:eG} (az:jY B w sizes h) (a:ae S w w') (e:∀r,r<B->¬S r):jY B w' sizes h:=by
 have c:∀ {v:x1} {l:Λ},Seen (λr=>r<B) w [v] l->Seen (λr=>r<B) w' [v] l:=λh=>ak.V h a λr _ h=>e r (h.elim False.elim id);exact⟨c az.1,c az.2.1,c az.2.2⟩
theorem jY.ext {h:eG} (az:jY B w sizes h) (a:Ext w w'):jY B w' sizes h:=az.V (a.V λ_=>False) λ_ _ h=>h
theorem jY.one {h:eG} (az:jY B w sizes h):∀u∈cS h,u.oneCell'=true:=by
 intro u hu;simp only[cS,W6,List.not_mem_nil,or_false] at hu;rcases hu with rfl|rfl|rfl
 .exact e6 az.1
 .exact e6 az.2.1
 .exact e6 az.2.2
def q7 (f:b0):cA:=(f.sc,f.cs)
def tS (B:Nat) (w:x3) (sizes:Λ) (g:Nat) (v:x1) (l:List cA):Prop:=∃L,bg cS 3 aV w g v L/\L.map df=l/\ ∀h∈L,jY B w sizes h
theorem tS.ext {g:Nat} {v:x1} {l:List cA} (h:tS B w sizes g v l) (a:Ext w w'):tS B w' sizes g v l:=by
 obtain⟨L,h1,e,f⟩:=h;exact⟨L,h1.ext a,e,λx j=>(f x j).ext a⟩
theorem Ez {eY:x1} {s:au} (ab:hC w eY k sizes s) (ac:bq k sizes s) (aH:s.funs.length<=100000):
  ai x7 GL [eY] w λv w'=>Ext w w'/\ ∃g,tS w'.heap.size w' sizes g v ((gD s).map q7):=by
 refine aw func73 ?_;refine bm λg1 J aJ Q ad=>?_;obtain⟨szv,aK,aL,aM,ae,aN,af,aO,_,aR,aS,aT,ag,aW⟩:=ab.box Q ad;have R:Seen (λr=>r<J.heap.size) J [ae] (s.funs.map gu):=nt ag λr e _=>e;rw[aA aE.p 6 af rfl,fA dP.u R,u7];refine b1.range s.funs.length (λi out U=>Ext J U/\ ∃g L,bg cS 3 aV U g out L/\L.map df=((s.funs.take i).filter λf=>decide (f.live≠0)).map q7/\(∀h∈L,jY J.heap.size U sizes h)/\ ∀r,leadsTo out r->J.heap.size<=r) Ω
  ⟨Ext.refl _,0,[],bg.nil _ _ _ _ _,rfl,λh az=>(by cases az),λr e=>(e8 e).elim⟩ ?_ ?_
 .rintro i out U ah hi ⟨y,g,L,C,A,B,G⟩ al;obtain⟨f,H⟩:=aI (l:=s.funs) hi;obtain⟨_,am,_⟩:=ac.funs f (x5 H);have aX:L.length<=100000:=by
   have h1:=congrArg T1 A;have an:=List.length_filter_le (λf:b0=>decide (f.live≠0)) (s.funs.take i);rw[u7,u7] at h1;rw[j5] at an;omega
  have S:(s.funs.take (i+1)).filter (λf=>decide (f.live≠0))=(s.funs.take i).filter (λf=>decide (f.live≠0))++(if f.live≠0 then[f] else[]):=by
   rw[u9,H,o7,List.filter_append];congr 1;by_cases h:f.live≠0
   .rw[if_pos h,List.filter_cons,if_pos (decide_eq_true h),List.filter_nil]
   .rw[if_neg h,List.filter_cons,if_neg (by simpa using h),List.filter_nil]
  refine bH Ω ?_;refine aU (λout U=>Ext J U/\ ∃g L,bg cS 3 aV U g out L/\L.map df=((s.funs.take (i+1)).filter λf=>decide (f.live≠0)).map q7/\(∀h∈L,jY J.heap.size U sizes h)/\ ∀r,leadsTo out r->J.heap.size<=r) (λ_ _ ao=>by rw[aP];exact al _ _ ao) λav W=>?_;refine kj (α:=hB) (a:=gu f) db.p rfl dP.u db.i (bc R y) (by rw[x8,H];rfl) λcs ap=>?_;obtain⟨aF,I,aZ,rfl,X,Y,Z⟩:=Ps ap;refine bB db.i λga aY a1 aq ax=>?_;refine b3 (vs:=[aF,I,aZ,.bool (decide (f.live≠0))]) db.i rfl rfl (Pr (gU X) (gU Y) (gU Z)) ax λK ay a2 E=>?_;have j:Ext U K:=aq.put ay Ω;rw[aA db.p 1 E rfl,aj];refine⟨λM=>?_,λM=>W _ _ ⟨y.trans j,g,L,C.ext j,by rw[S,if_neg M,X9];exact A,λh az=>(B h az).ext j,G⟩⟩;let a:eG:=⟨aF,I,aZ,f.sc,f.cs⟩;have aa:jY J.heap.size K sizes a:=⟨bc X j,by show Seen _ K [I] (bR sizes f.sc);rw[<-am];exact bc Y j,bc Z j⟩;rw[aQ db.p rfl,bD (cs:=cS a) aV.p aV.i rfl (λq u x=>by
   have:q<3:=(x4.1 x).1
   match q,this,x with
   |0,_,x=>cases x;exact E.cell (o:=0+0) rfl
   |1,_,x=>cases x;exact E.cell (o:=0+1) rfl
   |2,_,x=>cases x;exact E.cell (o:=0+2) rfl)]
  refine hW (f:=cS) (k:=3) (a:=a) cj.u aV.i Ω rfl rfl λa6 a7 a8 ba N aB=>?_;refine ik (f:=cS) (a:=a) cj.u aV.i rfl ((C.ext j).ext N) (by simpa using aB.sl) aa.one Ω Ω λbb aC bd aD aG O=>?_;have P:=j.trans N;have z:=(y.trans P).size;have no:∀r,r<J.heap.size->¬leadsTo out r:=λr e h=>by have:=G r h;omega
  refine W _ _ ⟨(y.trans P).then O no,aC,L++[a],aD,by rw[j6,A,S,if_pos M,j6];rfl,λh az=>?_,λr e=>(aG r e).elim (G r) λh=>Ω⟩;rcases l7.1 az with az|az
  .exact ((B h az).ext P).V O no
  .rw[l9.1 az];exact (aa.ext N).V O no
 .rintro out U ah ⟨y,g,L,C,A,B,_⟩;refine cd Ω ?_;have z:=y.size;rw[o5] at A;have up:∀ {v:x1} {l:Λ},Seen (λr=>r<J.heap.size) U [v] l->Seen (λr=>r<U.heap.size) U [v] l:=λh=>ak.mono h (λ_ _ h=>h) λr e _=>e;exact⟨Q.trans y,g,L,C,A,λh az=>⟨up (B h az).1,up (B h az).2.1,up (B h az).2.2⟩⟩
end Go.Proofs.YtjjhhcfgfdepdaaGreatDoor
