/- own texts, made small by a tool (wip/ holds them as they were written): no statement of the seat. -/
import Derived.Test.YtlcdcbgoaljiiaaGreatDoorWd
set_option linter.unusedVariables false
set_option linter.unusedSimpArgs false
set_option linter.unnecessarySimpa false
open Array renaming getElem?_eq_some_iff→Y2
open Bool renaming false→sp,true→s2,not_true→Y5,not_false→X6,eq_iff_iff→V9,and_eq_true→T8,true_and→S7
open Decidable renaming not_not→X1
open Go renaming Value→x4,World→x5,TypeId→o4,IntKind→o8,Program→W0,FuncId→S8
open Go.Addr renaming add_mid→U8
open Go.Builtin renaming append_→b9
open Go.Instr renaming loadAt→u5,fieldAt→u6,storeAt→o7,indexAt→n9,buildSlice→Y4,sliceAt→V5,alloc→R3
open Go.IntKind renaming i64→X5
open Go.Proofs.Tryz renaming prog→x8
open Int renaming toNat_natCast→u7,eq_ofNat_of_zero_le→Y6,le_refl→S5
open List renaming getElem?_eq_some_iff→x6,mem_of_getElem?→x7,getElem?_eq_getElem→v8,getElem?_map→u4,take_add_one→u9,getD_eq_getElem?_getD→r8,length_map→r9,replicate→o5,take_length→o9,mem_map→l9,mem_append→j5,eq_nil_of_length_eq_zero→j6,take_of_length_le→j9,length_append→c9,map_append→Z2,length_take→Z3,getElem?_set_self→Z6,length_set→Z9,mem_singleton→Y1,ext_getElem?→Y3,mem_iff_getElem?→Y8,getElem?_set_ne→Y9,range→X0,getElem?_append_right→X2,drop_eq_getElem_cons→X4,getElem?_set→X7,length_eq_one_iff→W3,length_cons→W5,getElem?_eq_none→W8,getElem?_take_of_lt→V1,getElem?_append_left→V6,pairwise_iff_getElem→U1,map_set→U2,mem_or_eq_of_mem_set→U5,flatMap_cons→T0,append_nil→T4,map_map→T5,getElem_mem→S2,mem_filter→S6,mem_of_mem_take→R2
open Nat renaming le_refl→o6,le_trans→X3,zero_add→V0,mul_le_mul_right→V4,sub_self→V7,mul_one→U3,pow_le_pow_right→T2,add_mul→T6
open Option renaming toList_some→j4,isNone_some→b8,map_eq_some_iff→Y0,map_some→Y7,map→V8,isSome_some→T7,isSome_none→S3
open Option.some renaming inj→Z5
set_option maxHeartbeats 16000000
open Option renaming some→σ,none→ν
variable{I U aa w:x5}{c k v:Int}{a an l sc d6 t tl:Λ}{e:o4}{B af ga gt gtb gy j pos:Nat}{cs:List x4}{K:x4->x5->Prop}{aZ sv:x4}{D:Nat->Prop}
namespace Go.Proofs.YtlcdcbgoaljiiaaGreatDoor
open Go Go.Vc Go.RowKit Go.Proofs Go.Proofs.Tryz
set_option maxRecDepth 100000
theorem oV{R:ak}{v:x4}{g:Nat}(h:aH .i64 e w g v l):bB (λr=>lc v r) R w [v] l:=by
 have h1:=mD (R:=R) h;by_cases f:v= .slice ν 0 0
 .subst f;have:l=[]:=by
   obtain⟨j,⟨_,a⟩|⟨_,_,a,_⟩⟩:=h
   .exact j6 a
   .cases a
  subst this;exact gH
 .obtain⟨j,⟨a,_⟩|⟨cap,cs,a,_⟩⟩:=id h
  .exact m6 a f
  .refine aw.Y h1 (λr _ q=>?_) λ_ _ h=>h;rw[a];exact⟨_,_,_,rfl,q.symm⟩
theorem za{R:ak}{v:x4}{g:Nat}(e:∀r c,B<=r->aj w r al c->R r)(h:aH .i64 al w g v l)(ac:∀r,lc v r->B<=r):Seen R w [v] l:=pB (oV (R:=λ_=>False) h) λr j a=>by
 rcases a with a|a
 .obtain⟨c,f⟩:=Rw h r a;exact e r c (ac r a) f
 .exact a.elim
theorem Sd{R:ak}{zero:Int}{hv:x4}(h:Seen R w [hv] d6):bI s2 (λ_ _=>False) R w [Δ k,hv,Δ zero,.slice ν 0 0,.slice ν 0 0,.slice ν 0 0,.slice ν 0 0,.slice ν 0 0] k d6 zero [] [] [] [] []:=
 ⟨_,_,_,_,_,_,rfl,h,gH,gH,gH,gH,gH,λ_=>⟨λ_ _ _ _ h=>h.elim,λ_ _ h=>h.elim⟩⟩
theorem bI.at{m:Bool}{A:Nat->ak}{R:ak}{zero:Int}{D:List (Λ)}{G:List Bool}{bb:List (Λ)}{H:List kb}{E:List nd}(h:bI m A R w cs k d6 zero D G bb H E)(c:Nat)(a:c<8):∃v,cs[c]?=σ v:=⟨_,v8 (by rw[h.len.1];exact a)⟩
def Se(R:ak)(w:x5)(e gt gs:Nat)(n:aJ)(f:List x4)(i j:Nat)(a:x5):Prop:=Ext w a/\aj a e ef f/\aj a gt aK z12/\∃A cs,aj a gs aK cs/\(∀q r,A q r->gs<r)/\
 bI s2 A R a cs n.k n.d6 n.zero ((n.unary.take i).map λu=>az (newVar u)) (o5 i sp) (n.unary.take i) ((n.ho.take j).map λg=>jI (m4 n.d6 g)) []
theorem FY{bG:x4}{n:aJ}{R:ak}(aw:∀r,R r->r<w.heap.size)(a6:∀r c,B<=r->aj w r al c->R r)(cB:yN w B bG n)(ad:kU n)(ah:n.ho.length<=256):aq x8 Ja [bG] w λv I=>Ext w I/\∃A cs,v= .agg cs.toArray/\gQ s2 A R I cs n.k n.d6 (dp n)/\∀q r,A q r->w.heap.size<=r:=by
 have dY:=ad.d6.2.1;have cC:=ad.l4;refine aE func62 ?_;refine bn λg1 U dZ a7 cD=>?_;obtain⟨hv,gz,cE,eb,bJ,cF,ec,bb,ax,aA,cG,bK,bc,cH,bL,cI,bM⟩:=Rx cB cD;refine bE aK.i λgt aa ed aC aD=>?_;have aD:aj aa gt aK z12:=aD;have bd:=ax.W aC;rw[aN ef.p 0 bd rfl,aN ef.p 1 bd rfl,aN ef.p 2 bd rfl,
  ds (cs:=#[Δ n.k,hv,Δ n.zero,.slice ν 0 0,.slice ν 0 0,.slice ν 0 0,.slice ν 0 0,.slice ν 0 0]) (by obtain⟨_,_,_,e⟩:=df aA.ls;rw[e];kernel_rfl)]
 refine bE aK.i λgs eg eh aF cJ=>?_;have cK:Seen R w [hv] n.d6:=za a6 aA cI;have ei:=a7.size;have ej:=aC.size;have z3:=aF.size;have cL:=(a7.F aC).F aF;have bN:=Sd (k:=n.k) (zero:=n.zero) (bq cK cL);refine b3 (vs:=[Δ n.k,hv,Δ n.zero,.slice ν 0 0,.slice ν 0 0,.slice ν 0 0,.slice ν 0 0,.slice ν 0 0]) aK.i rfl rfl bN.len.2 cJ λem be en cM=>?_;have eo:=aD.lt;have ep:=ax.lt;have cN:gt≠gs:=Ω
 have bf:=(aC.F aF).put be Ω;have bO:=a7.F bf;have cO:=(aD.W aF).ab be λhe=>cN he;have er:w.heap.size<gs:=Ω
 rw[aN ef.p 1 (ax.W bf) rfl,a8 au.u (aA.W bO).ls];have cP:=bN.ab be λr f h he=>by
  have he:r=gs:=he;rcases h with⟨_,h⟩|h
  .exact h
  .have:=aw r h;omega
 refine b7.range n.d6.length (λi P=>Se R w g1 gt gs n [Δ n.k,hv,Δ n.zero,cE,cF] i 0 P) Ω ⟨bO,ax.W bf,cO,_,_,cM,(λ_ _ h=>h.elim),cP⟩ ?_ ?_
 .rintro i P cQ hi ⟨Q,bg,bh,A,cs,ae,bi,aL⟩ cR;obtain⟨z,bj⟩:=aI (l:=n.d6) hi;obtain⟨u,hu⟩:=aI (l:=n.unary) (i:=i) Ω;have es:=ad.d6.2.2 z (x7 bj);obtain⟨et,_⟩:=ad.unary i z u bj hu;refine bF Ω ?_;rw[bk au.u al.i Ψ (aA.W Q).ls bj];obtain⟨bP,rfl⟩:∃m:Nat,z=m:=⟨z.toNat,Ω⟩;refine ce.range bP (λj af aM=>Ext P aM/\∃g,aH .i64 al aM g af ((X0 j).map λv:Nat=>(v:Int))/\∀r,lc af r->P.heap.size<=r) Ω
   ⟨Ext.refl _,0,aH.nil _ _ _ _,λr f=>by obtain⟨a,n,c,K,S⟩:=f;cases K⟩ ?_ ?_
  .rintro j af aM bl bm ⟨L,cS,V,aO⟩ bo;refine bF Ω ?_;refine e6 au.u al.i rfl λeu ev cT ew H cU=>?_;refine jD au.u al.i rfl (V.W H) cU.ls Θ Θ λey cV cW cX cY W=>?_;rw[aR];have cZ:=L.size;have c1:=H.size;refine bo _ _ ⟨(L.F H).then W λr f he=>by have:=aO r he;omega,cV,?_,λr f=>(cY r f).elim (aO r) λh=>Ω⟩;rw[List.range_succ,Z2];exact cX
  rintro af aM bl ⟨L,cS,V,aO⟩;refine b4 Ω ?_;have c2:(X0 bP).map (λv:Nat=>(v:Int))=az (newVar u):=by rw[Ry];congr 2;omega
  rw[c2]at V;have cZ:=L.size;have ez:=Q.size;have eA:=ae.lt;have ag:∀r,R r->r<gs:=λr f=>by have:=aw r f;omega
  have low:∀{s C:x5}{b:Nat}{e:o4}{c:List x4},ai (λr=>gs<=r) s C->b<gs->aj s b e c->aj C b e c:=λM c3 h=>h.ab M λX=>by have X:=X;omega
  have am:∀{s C:x5},Ext w s->ai (λr=>gs<=r) s C->Ext w C:=λJ M=>J.then M λr f h=>by have h:=h;omega
  have bQ:=aL.old.W L;have c4:∀q r,(A q r/\r<P.heap.size)->gs<r:=λq r h=>bi q r h.1;obtain⟨eB,bR⟩:=bQ.at 3 Ω;rw[aN aK.p 3 (ae.W L) bR];refine jU ca.u au.i Φ (a:=az (newVar u)) (cs:=[af]) V.ls.cells.1 (oV (R:=R) V) λeC cT H _ c5=>?_;have c1:=H.size;have aP:=L.F H;refine bI.R9 (bQ.W H) (ae.W aP) bR c4 ag c5 (bq (oV V) H) (λr f h=>?_) Θ λeD eE cW W bS bT c6 _=>?_
  .have:=aO r h;exact⟨λj h=>Ω,Ω⟩
  have eF:=W.size;obtain⟨eH,bU⟩:=bT.at 4 Ω;rw[aN aK.p 4 bS bU];refine jU (a:=sp) (cs:=[.bool sp]) (A:=λ_=>False) (R:=R) jo.u ee.i Φ rfl rfl λeI eJ Y _ c9=>?_;refine bI.Sa (B:=λ_=>False) (bT.W Y) (bS.W Y) bU c6 ag c9 rfl (λr f h=>h.elim) Θ λda eK bV aQ bW db dc _=>?_;have z9:=Y.size;have eL:=aQ.size;have dd:Ext w bV:=am ((am (Q.F aP) W).F Y) aQ;have de:=low aQ Ω ((low W Ω (bg.W aP)).W Y);have dg:=low aQ Ω ((low W Ω (bh.W aP)).W Y);intro bp Z _ _;have bX:=bW.W Z;have bY:=de.W Z;have bZ:=dd.F Z;obtain⟨oT,aS⟩:∃oT,bJ[i]?=σ oT:=⟨_,v8 (by have:=congrArg List.length bK;rw[r9]at this;omega)⟩;have dh:oT.l=u:=by
   have b0:(bJ.map (·.l))[i]?=σ oT.l:=by rw[u4,aS];rfl
   rw[bK,hu]at b0;exact(Z5 b0).symm
  have br:=cG.W bZ;obtain⟨eM,b1⟩:=br.2 oT (x7 aS);rw[dh]at b1;have b2:=db.old.W Z;have di:∀q r,(da q r/\r<bV.heap.size)->gs<r:=λq r h=>dc q r h.1;obtain⟨eN,b5⟩:=b2.at 5 Ω;rw[aN aK.p 5 bX b5,aN ef.p 3 bY rfl,cu rfl c0.u aB.i br.1 (x6.1 aS).1,aG (v:=oT.v) (o:=i*1) Ψ (br.1.range aS 0 _ rfl)];refine yQ (k:=.i64) aB.u ay.i λdj eO eP eQ aT b6=>?_;refine⟨.inl aT,?_⟩;refine jD aB.u ay.i rfl b6 (b1.W aT).ls Θ Θ λb8 eR dk aU dl dm=>?_;rw[List.nil_append]at aU;have eS:=Z.size;have eU:=aT.size;have b9:∀r,lc dj r->bp.heap.size<=r:=λr f=>by have:=(cd b6 f).1;omega
  have dn:∀r,lc b8 r->bp.heap.size<=r:=λr f=>(dl r f).elim (b9 r) λh=>Ω
  have bs:Ext bp dk:=aT.then dm λr f he=>by have:=b9 r he;omega
  refine⟨.inl bs,?_⟩;have eV:=bs.size;refine jU c0.u aB.i Φ (a:=u) (cs:=[b8]) aU.ls.cells.1 (oV (R:=R) aU) λeW eX bt _ dq=>?_;have eY:=bt.size;have ac:=bs.F bt;refine⟨.inl ac,?_⟩;refine bI.Sb (b2.W ac) (bX.W ac) b5 di ag dq (bq (oV (R:=R) aU) bt) (λr f h=>?_) Θ λdr dt eZ bu du dv dw _=>?_
  .have:=dn r h;have:=bW.lt;exact⟨λj h=>Ω,Ω⟩
  rw[aR];refine cR _ ⟨am (bZ.F ac) bu,low bu Ω (bY.W ac),low bu Ω ((dg.W Z).W ac),dr,dt,du,dw,?_⟩;rw[u9,hu,j4,Z2,List.map_cons,List.map_nil,List.replicate_succ'];exact dv
 rintro P cQ ⟨Q,bg,bh,A,cs,ae,bi,aL⟩;refine b4 Ω ?_;rw[j9 Ω]at aL;have e0:bb.length=n.ho.length:=by rw[<-bL,r9]
 have dx:=bc.W Q;rw[aN ef.p 4 bg rfl,ek c8.u dx];have ag:∀r,R r->r<gs:=λr f=>by have:=aw r f;omega
 have low:∀{s C:x5}{b:Nat}{e:o4}{c:List x4},ai (λr=>gs<=r) s C->b<gs->aj s b e c->aj C b e c:=λM c3 h=>h.ab M λX=>by have X:gs<=_:=X;omega
 have am:∀{s C:x5},Ext w s->ai (λr=>gs<=r) s C->Ext w C:=λJ M=>J.then M λr f h=>by have h:gs<=r:=h;omega
 refine b7.range bb.length (λj G=>Ext w G/\aj G gt aK z12/\∃A cs,aj G gs aK cs/\(∀q r,A q r->gs<r)/\
  bI s2 A R G cs n.k n.d6 n.zero (n.unary.map λu=>az (newVar u)) (o5 n.d6.length sp) n.unary ((n.ho.take j).map λg=>jI (m4 n.d6 g)) []) bc.le ⟨Q,bh,A,cs,ae,bi,aL⟩ ?_ ?_
 .rintro j G bl bm ⟨N,bw,bx,aV,aW,aX,an⟩ bo;obtain⟨y,ao⟩:=aI (l:=bb) bm;have cb:n.ho[j]?=σ (dV y):=by rw[<-bL,u4,ao];rfl
  have cc:=(ad.ho (dV y) (x7 cb)).1;have e1:y.cs.length<=4096:=by
   have h1:y.cs.length=_:=cc.len;have X:=cc.small;omega
  have cf:=cH y (x7 ao);have cg:=cf.W N;have ch:=bc.W N;refine bF Ω ?_;rw[cu rfl c8.u ba.i ch bm,bH ba.p ba.i rfl (ch.range ao)];refine bE ba.i λe2 e3 e4 dy dz=>?_;refine b3 (vs:=ea y) ba.i rfl rfl cg.one dz λdA dC e5 dD=>?_;have dE:Ext G dA:=dy.put dC Ω;intro bz ci _ _;have O:=dE.F ci;have cj:=aW.W O;have bA:=dD.W ci;have dF:=cg.W O;obtain⟨⟨e7,ck⟩,⟨e8,cl⟩,e9,dG⟩:=id dF;have cm:=an.old.W O;have dH:∀q r,(bx q r/\r<G.heap.size)->gs<r:=λq r h=>aX q r h.1;obtain⟨fa,cn⟩:=cm.at 6 Ω;rw[aN aK.p 6 cj cn,aN ba.p 0 bA rfl,aN ba.p 1 bA rfl,aN ba.p 2 bA rfl];refine yQ (k:=.i64) aB.u ay.i λv25 fb fc fd aY cp=>?_;refine⟨.inl aY,?_⟩;refine jD aB.u ay.i rfl cp (dG.W aY).ls Θ Θ λE fe cq a1 dI dJ=>?_;rw[List.nil_append]at a1;have ff:=O.size;have z25:=aY.size;have ct:∀r,lc v25 r->bz.heap.size<=r:=λr f=>by have:=(cd cp f).1;omega
  have dK:∀r,lc E r->bz.heap.size<=r:=λr f=>(dI r f).elim (ct r) λh=>Ω
  have a2:Ext bz cq:=aY.then dJ λr f he=>by have:=ct r he;omega
  refine⟨.inl a2,?_⟩;rw[ds (cs:=#[y.aZ,y.hv,E]) (by obtain⟨_,_,_,K⟩:=df ck.ls;obtain⟨_,_,_,S⟩:=df cl.ls;obtain⟨_,_,_,ap⟩:=df a1.ls;rw[K,S,ap];kernel_rfl),
   ds (cs:=#[y.aZ,y.hv,E,.bool s2]) (by obtain⟨_,_,_,K⟩:=df ck.ls;obtain⟨_,_,_,S⟩:=df cl.ls;obtain⟨_,_,_,ap⟩:=df a1.ls;rw[K,S,ap];kernel_rfl)]
  have fg:=a2.size;have cw:=(N.F O).F a2;obtain⟨⟨ga,dL⟩,⟨fh,dM⟩,_⟩:=id cf;have own:bB (α:=kb) (λr=>lc E r) R cq [y.aZ,y.hv,E,.bool s2] (jI (m4 n.d6 (dV y))):=by
   refine⟨[y.aZ,y.hv,E],[.bool s2],λr=>lc E r,λ_=>False,rfl,λ_ h=>h,λ_ h=>h.elim,λ_ _ _ h=>h,⟨[y.aZ],[y.hv,E],λ_=>False,λr=>lc E r,rfl,λ_ h=>h.elim,λ_ h=>h,λ_ _ h=>h.elim,?_,[y.hv],[E],λ_=>False,λr=>lc E r,rfl,λ_ h=>h.elim,λ_ h=>h,λ_ _ h=>h.elim,?_,?_⟩,rfl⟩
   .exact bq (za a6 dL λr f=>bM y (x7 ao) r (.inr (.inl f))) cw
   .exact bq (za a6 dM λr f=>bM y (x7 ao) r (.inr (.inr f))) cw
   .exact oV a1
  refine jU c7.u cr.i Φ rfl own λfi fj bC _ dN=>?_;have fk:=bC.size;have av:=a2.F bC;refine⟨.inl av,?_⟩;refine bI.Sc (cm.W av) (cj.W av) cn dH ag dN (bq own bC) (λr f h=>?_) Θ λdO dP fm cz dQ dR dS _=>?_
  .have:=dK r h;have:=aW.lt;exact⟨λj h=>Ω,Ω⟩
  rw[aR];refine bo _ ⟨am (N.F (O.F av)) cz,low cz Ω (bw.W (O.F av)),dO,dP,dQ,dS,?_⟩;rw[u9,cb,j4,Z2,List.map_cons,List.map_nil];exact dR
 rintro G bl ⟨N,bw,bx,aV,aW,aX,an⟩;rw[j9 Ω]at an;refine b4 Ω ?_;obtain⟨bD,dT⟩:=an.len;rw[bH aK.p aK.i bD (show G.rangeAt gs 0 aV from aW.range)];refine b3 (vs:=aV) aK.i bD rfl dT bw λfo cA fp dU=>?_;rw[fu aK.p aK.i bD dU.range];have dW:=an.ab cA λr f h he=>by
  have he:r=gt:=he;rcases h with⟨q,h⟩|h
  .have:=aX q r h;omega
  .have:=aw r h;omega
 have fq:=N.size;refine⟨N.then cA λr f he=>by have he:r=gt:=he;omega,bx,aV,rfl,?_,λq r h=>by have:=aX q r h;omega⟩;have K:(dp n).d9.map az=n.unary.map λu=>az (newVar u):=by show(n.unary.map newVar).map az=_;rw[T5];rfl
 have S:(dp n).d9.map (λx=>decide (x.gone≠0))=o5 n.d6.length sp:=by
  show(n.unary.map newVar).map _=_;rw[T5,<-cC];exact List.map_const' ..
 have ap:(dp n).d9.map (·.un)=n.unary:=by show(n.unary.map newVar).map _=_;rw[T5];exact List.map_id _
 have dX:(dp n).ho.map jI=n.ho.map λg=>jI (m4 n.d6 g):=by show(n.ho.map (m4 n.d6)).map jI=_;rw[T5];rfl
 unfold gQ;rw[K,S,ap,dX];exact dW
section
variable{A:Nat->ak}{B R:ak}{w:x5}{cs xs:List x4}{gs:Nat}{y v:x4}{k zero:Int}{d6:Λ}{D:List (Λ)}{G:List Bool}{bb:List (Λ)}{H:List kb}{E:List nd}{K:x5->Prop}{Z:ak}
theorem bI.Sf{X:o4}(h:bI s2 A R w cs k d6 zero D G bb H E)(M:aj w gs aK cs)(ac:cs[3]?=σ v)(x:∀j r,A j r->gs<r\/Z r)(f:∀r,Z r->r<gs/\A 4 r)(s:∀r,R r->r<gs)(V:cq w 1 y 1 xs)(Y:bB B R w xs a)(q:∀r,r<w.heap.size->B r->(∀j,¬A j r)/\gs<r)(aq:D.length<=1000)(ab:∀aS bK I,ai (λr=>gs<=r) w I->aj I gs aK bK->bI s2 aS R I bK k d6 zero (D++[a]) G bb H E->(∀j r,aS j r->gs<r\/Z r)->(∀r,Z r->r<gs/\aS 4 r)->(∀j,j≠3->bK[j]?=cs[j]?)->K I):
  aM x8 (b9 #[ca,ca] X #[v,y]) w λN aa=>ad x8 (u6 aK (Γ gs) 3) aa λae=>aM x8 (o7 ca ae N) aa λ_ z=>K z:=by
 have aC:=h.old;have af:∀i j r,i≠j->A i r->¬A j r:=by obtain⟨_,_,_,_,_,_,_,_,_,_,_,_,_,ag⟩:=id h;exact(ag rfl).1
 have O:∀r,A 0 r->gs<r:=λr h=>(x 0 r h).resolve_right λC=>af 0 4 r Ω h (f r C).2;have P:∀j,¬A j gs:=λj h=>(x j gs h).elim (λh=>Ω) λh=>by have:=(f gs h).1;omega
 have ah:=M.lt;obtain⟨hv,ak,av,ax,ay,Q,al,h1,C,az,aA,aB,aD,F⟩:=id aC;obtain⟨F,S⟩:=F rfl;have Q:v=ak:=by rw[al]at ac;exact(Z5 ac).symm
 subst Q;have am:bB (λr=>B r/\r<w.heap.size) R w xs a:=aw.Y Y (λr e h=>⟨h,e⟩) λ_ _ h=>h;refine qb aK.p rfl ca.u ca.i au.i rfl M ac C V am (λr e U=>⟨λan=>(q r e an.1).1 0 U.1,S 0 r U⟩) ⟨λh=>P 0 h.1,λh=>by have:=(q gs ah h.1).2;omega,λh=>by have:=s gs h;omega⟩ Ω Ω λN z W ao ap=>?_;refine ab _ _ z (W.Y λr _ h=>h.elim (λh=>by have:=O r h.1;omega) λh=>Ω) ao (aC.y9 W (λr e=>?_) ap (λj r J e=>?_) λr e=>?_) (λj r e=>?_) (λr L=>⟨(f r L).1,?_⟩) λj J=>?_
 .rcases e with e|rfl
  .exact .inl e
  .exact .inr ⟨λj h=>P j h.1,λh=>by have:=s r h;omega⟩
 .rcases e with e|e|e
  .exact F 0 j r (Ne.symm J) e
  .exact λh=>(q r e.2 e.1).1 j h.1
  .exact λh=>by have:=h.2;omega
 .rcases e with e|e|e
  .exact S 0 r e
  .exact λh=>by have:=(q r e.2 e.1).2;have:=s r h;omega
  .exact λh=>by have:=s r h;omega
 .unfold fK at e;split at e
  .rcases e with e|e|e
   .exact .inl (O r e.1)
   .exact .inl (q r e.2 e.1).2
   .exact .inl Ω
  .exact x j r e.1
 .unfold fK;rw[m5 Ω];exact⟨(f r L).2,by have:=(f r L).1;omega⟩
 .rw[Y9 (Ne.symm J)]
theorem bI.Sg{X:o4}(h:bI s2 A R w cs k d6 zero D G bb H E)(L:aj w gs aK cs)(ac:cs[5]?=σ v)(x:∀j r,A j r->gs<r\/Z r)(f:∀r,Z r->r<gs/\A 4 r)(s:∀r,R r->r<gs)(V:cq w 1 y 1 xs)(Y:bB B R w xs a)(q:∀r,r<w.heap.size->B r->(∀j,¬A j r)/\gs<r)(au:bb.length<=1000)(ab:∀aS bK I,ai (λr=>gs<=r) w I->aj I gs aK bK->bI s2 aS R I bK k d6 zero D G (bb++[a]) H E->(∀j r,aS j r->gs<r\/Z r)->(∀r,Z r->r<gs/\aS 4 r)->(∀j,j≠5->bK[j]?=cs[j]?)->K I):
  aM x8 (b9 #[c0,c0] X #[v,y]) w λM aa=>ad x8 (u6 aK (Γ gs) 5) aa λae=>aM x8 (o7 c0 ae M) aa λ_ z=>K z:=by
 have aC:=h.old;have af:∀i j r,i≠j->A i r->¬A j r:=by obtain⟨_,_,_,_,_,_,_,_,_,_,_,_,_,ag⟩:=id h;exact(ag rfl).1
 have N:∀r,A 2 r->gs<r:=λr h=>(x 2 r h).resolve_right λO=>af 2 4 r Ω h (f r O).2;have P:∀j,¬A j gs:=λj h=>(x j gs h).elim (λh=>Ω) λh=>by have:=(f gs h).1;omega
 have ah:=L.lt;obtain⟨hv,av,ax,ak,ay,Q,al,h1,O,az,am,aA,aD,C⟩:=id aC;obtain⟨C,S⟩:=C rfl;have Q:v=ak:=by rw[al]at ac;exact(Z5 ac).symm
 subst Q;have an:bB (λr=>B r/\r<w.heap.size) R w xs a:=aw.Y Y (λr e h=>⟨h,e⟩) λ_ _ h=>h;refine qb aK.p rfl c0.u c0.i aB.i rfl L ac am V an (λr e U=>⟨λao=>(q r e ao.1).1 2 U.1,S 2 r U⟩) ⟨λh=>P 2 h.1,λh=>by have:=(q gs ah h.1).2;omega,λh=>by have:=s gs h;omega⟩ Ω Ω λM z W ap aq=>?_;refine ab _ _ z (W.Y λr _ h=>h.elim (λh=>by have:=N r h.1;omega) λh=>Ω) ap (aC.ly W (λr e=>?_) aq (λj r F e=>?_) λr e=>?_) (λj r e=>?_) (λr J=>⟨(f r J).1,?_⟩) λj F=>?_
 .rcases e with e|rfl
  .exact .inl e
  .exact .inr ⟨λj h=>P j h.1,λh=>by have:=s r h;omega⟩
 .rcases e with e|e|e
  .exact C 2 j r (Ne.symm F) e
  .exact λh=>(q r e.2 e.1).1 j h.1
  .exact λh=>by have:=h.2;omega
 .rcases e with e|e|e
  .exact S 2 r e
  .exact λh=>by have:=(q r e.2 e.1).2;have:=s r h;omega
  .exact λh=>by have:=s r h;omega
 .unfold fK at e;split at e
  .rcases e with e|e|e
   .exact .inl (N r e.1)
   .exact .inl (q r e.2 e.1).2
   .exact .inl Ω
  .exact x j r e.1
 .unfold fK;rw[m5 Ω];exact⟨(f r J).2,by have:=(f r J).1;omega⟩
 .rw[Y9 (Ne.symm F)]
theorem bI.Sh{a:kb}{X:o4}(h:bI s2 A R w cs k d6 zero D G bb H E)(L:aj w gs aK cs)(ac:cs[6]?=σ v)(x:∀j r,A j r->gs<r\/Z r)(f:∀r,Z r->r<gs/\A 4 r)(s:∀r,R r->r<gs)(V:cq w 4 y 1 xs)(Y:bB B R w xs a)(q:∀r,r<w.heap.size->B r->(∀j,¬A j r)/\gs<r)(au:H.length<=1000)(ab:∀aS bK I,ai (λr=>gs<=r) w I->aj I gs aK bK->bI s2 aS R I bK k d6 zero D G bb (H++[a]) E->(∀j r,aS j r->gs<r\/Z r)->(∀r,Z r->r<gs/\aS 4 r)->(∀j,j≠6->bK[j]?=cs[j]?)->K I):
  aM x8 (b9 #[c7,c7] X #[v,y]) w λM aa=>ad x8 (u6 aK (Γ gs) 6) aa λae=>aM x8 (o7 c7 ae M) aa λ_ z=>K z:=by
 have aC:=h.old;have af:∀i j r,i≠j->A i r->¬A j r:=by obtain⟨_,_,_,_,_,_,_,_,_,_,_,_,_,ag⟩:=id h;exact(ag rfl).1
 have N:∀r,A 3 r->gs<r:=λr h=>(x 3 r h).resolve_right λO=>af 3 4 r Ω h (f r O).2;have P:∀j,¬A j gs:=λj h=>(x j gs h).elim (λh=>Ω) λh=>by have:=(f gs h).1;omega
 have ah:=L.lt;obtain⟨hv,av,ax,ay,ak,Q,al,h1,O,az,aA,am,aB,C⟩:=id aC;obtain⟨C,S⟩:=C rfl;have Q:v=ak:=by rw[al]at ac;exact(Z5 ac).symm
 subst Q;have an:bB (λr=>B r/\r<w.heap.size) R w xs a:=aw.Y Y (λr e h=>⟨h,e⟩) λ_ _ h=>h;refine qb aK.p rfl c7.u c7.i cr.i rfl L ac am V an (λr e U=>⟨λao=>(q r e ao.1).1 3 U.1,S 3 r U⟩) ⟨λh=>P 3 h.1,λh=>by have:=(q gs ah h.1).2;omega,λh=>by have:=s gs h;omega⟩ Ω Ω λM z W ap aq=>?_;refine ab _ _ z (W.Y λr _ h=>h.elim (λh=>by have:=N r h.1;omega) λh=>Ω) ap (aC.lz W (λr e=>?_) aq (λj r F e=>?_) λr e=>?_) (λj r e=>?_) (λr J=>⟨(f r J).1,?_⟩) λj F=>?_
 .rcases e with e|rfl
  .exact .inl e
  .exact .inr ⟨λj h=>P j h.1,λh=>by have:=s r h;omega⟩
 .rcases e with e|e|e
  .exact C 3 j r (Ne.symm F) e
  .exact λh=>(q r e.2 e.1).1 j h.1
  .exact λh=>by have:=h.2;omega
 .rcases e with e|e|e
  .exact S 3 r e
  .exact λh=>by have:=(q r e.2 e.1).2;have:=s r h;omega
  .exact λh=>by have:=s r h;omega
 .unfold fK at e;split at e
  .rcases e with e|e|e
   .exact .inl (N r e.1)
   .exact .inl (q r e.2 e.1).2
   .exact .inl Ω
  .exact x j r e.1
 .unfold fK;rw[m5 Ω];exact⟨(f r J).2,by have:=(f r J).1;omega⟩
 .rw[Y9 (Ne.symm F)]
end
def kY(w:x5)(g:Nat)(k:Int)(d6:Λ)(s:am):Prop:=∃hv a e f h j,aj w g aK [Δ k,hv,Δ s.zero,a,e,f,h,j]/\aQ .i64 w hv d6/\Seen eW w [hv] d6/\
 Seen eW w [a] (s.d9.map az)/\Seen eW w [e] (s.d9.map λx=>decide (x.gone≠0))/\Seen eW w [f] (s.d9.map (·.un))/\Seen eW w [h] (s.ho.map jI)/\Seen eW w [j] (s.dC.map rk)
section
variable{w I:x5}{g:Nat}{v:x4}{k:Int}{d6:Λ}{s:am}
theorem kY.W(h:kY w g k d6 s)(J:Ext w I):kY I g k d6 s:=by
 obtain⟨hv,a,e,f,j,q,r,h1,x,y,z,A,B,C⟩:=h;exact⟨hv,a,e,f,j,q,r.W J,h1.W J,bq x J,bq y J,bq z J,bq A J,bq B J,bq C J⟩
theorem e3.box(h:e3 w v k d6 s)(J:Ext w I)(f:aj I g aK v.cells.toList):kY I g k d6 s:=by
 obtain⟨cs,rfl,hv,z,B,C,E,F,rfl,h1,j,q,r,x,y,_⟩:=h;obtain⟨_,_,_,G⟩:=df (c3 h1);have c:∀{α:Type}[aw α]{v:x4}{l:List α}{A:ak},aw.rep sp A eW w [v] l->∃a n c,v= .slice a n c:=λh=>by
  obtain⟨_,_,_,_,_,⟨_,b,o,base,cap,e,_⟩,_⟩:=jT h;exact⟨_,_,_,e⟩
 obtain⟨_,_,_,H⟩:=c j;obtain⟨_,_,_,K⟩:=c q;obtain⟨_,_,_,L⟩:=c r;obtain⟨_,_,_,M⟩:=c x;obtain⟨_,_,_,N⟩:=c y;refine⟨hv,z,B,C,E,F,?_,(c3 h1).W J,bq h1 J,bq j J,bq q J,bq r J,bq x J,bq y J⟩;rw[G,H,K,L,M,N]at f ⊢;exact f
theorem kY.load{K:x4->Prop}(h:kY w g k d6 s)(a:∀u,e3 w u k d6 s->K u):ad x8 (u5 aK (Γ g)) w K:=by
 obtain⟨hv,e,f,j,q,r,x,h1,y,z,A,B,C,E⟩:=h;rw[bH aK.p aK.i rfl x.range];exact a _ ⟨_,rfl,hv,e,f,j,q,r,rfl,y,z,A,B,C,E,λh=>by cases h⟩
theorem Si{i:Int}(h:e3 w v k d6 s):aq x8 J0 [v,Δ i] w λr I=>r= .bool (decide (0<=i/\i<d6.length))/\Ext w I:=by
 refine aE func141 ?_;refine bn λg1 U x a e=>?_;obtain⟨hv,y,z,A,B,C,e,q,_⟩:=h.box a e;refine a6 (λv aa=>v= .bool (decide (0<=i/\i<d6.length))/\Ext w aa) (λ_ _ h=>h) λaA f=>?_;rw[cT,ao];refine⟨λj=>?_,λj=>f _ _ ⟨by rw[rc];omega,a⟩⟩;rw[aN aK.p 1 e rfl,a8 au.u q,aW];refine f _ _ ⟨?_,a⟩;congr 1;exact decide_eq_decide.2 ⟨λh=>⟨j,h⟩,λh=>h.2⟩
theorem me{m:Bool}{S R:ak}{f:bL}(h:aw.rep (α:=kb) m S R w cs (jI f)):∃aZ hv bf,cs=[aZ,hv,bf,.bool (decide (f.live≠0))]/\Seen eW w [aZ] f.sc/\Seen eW w [hv] f.an/\Seen eW w [bf] f.cs:=by
 obtain⟨E,q,A,B,rfl,_,_,_,⟨r,F,aS,G,rfl,_,_,_,h1,s,x,H,y,rfl,_,_,_,a,e⟩,j⟩:=h;have one:∀{α:Type}[aw α]{m:Bool}{S R:ak}{c:List x4}{l:List α},aw.rep m S R w c l->∃v,c=[v]:=λh=>by obtain⟨v,ac,_⟩:=h;exact⟨v,ac⟩
 have h1:Seen _ w r f.sc:=h1;have a:Seen _ w s f.an:=a;have j:q=[.bool (decide (f.live≠0))]:=j;have e:aw.rep m y R w x f.cs:=e;obtain⟨z,rfl⟩:=one h1;obtain⟨C,rfl⟩:=one a;obtain⟨v3,rfl⟩:=one e;subst j;exact⟨z,C,v3,rfl,jS h1,jS a,jS e⟩
theorem Sj{j:Int}(h:e3 w v k d6 s):aq x8 Lt [v,Δ j] w λr I=>r= .bool (decide (0<=j)&&e1 s j.toNat)/\Ext w I:=by
 refine aE func266 ?_;refine bn λg1 U B a e=>?_;obtain⟨hv,C,E,G,H,J,e,K,_,_,_,_,y,_⟩:=h.box a e;refine a6 (λv aa=>v= .bool (decide (0<=j)&&e1 s j.toNat)/\Ext w aa) (λ_ _ h=>h) λaA q=>?_;rw[cT,ao];refine⟨λx=>?_,λx=>q _ _ ⟨by rw[rc x];rfl,a⟩⟩;rw[aN aK.p 6 e rfl,fE c7.u y,aW,ao,r9];refine⟨λL=>?_,λM=>q _ _ ⟨by unfold e1;rw[W8 Ω,Bool.and_false],a⟩⟩;obtain⟨f,ah⟩:=aI (l:=s.ho) (i:=j.toNat) Ω;rw[aN aK.p 6 e rfl];refine km (i:=j.toNat) Ω c7.u cr.i y (by rw[u4,ah];rfl) λb o cs z A=>?_;obtain⟨N,O,v3,rfl,_⟩:=me A;rw[a1 cr.p rfl,aG (v:=.bool (decide (f.live≠0))) Ψ (z 3 _ rfl)];exact q _ _ ⟨by unfold e1;rw[ah,ms x,S7],a⟩
end
end Go.Proofs.YtlcdcbgoaljiiaaGreatDoor
namespace Go.Vc
open Go Go.RowKit
section
variable{P:W0}{w:x5}{α:Type}[aw α]{S R:ak}
theorem tc{t:o4}{b:Nat}{z:x4}(f:P.underlying t=σ (.slice e))(hi:aV P e (aw.n α) b z)(j:∀v I,Ext w I->bB (λr=>w.heap.size<=r) R I [v] ([]:List α)->K v I):aM P (Y4 t 0 #[]) w K:=
 lb f hi Ω (cs:=#[]) (by simp[Instr.fill]) λg I y q s=>j _ I q (by
  have hm:cf I g e (aw.n α) (.slice (σ ⟨g,0,ν⟩) 0 0) 0 []:=cf.full (by simpa using s) Ξ (by simp[maxLen]);exact⟨_,rfl,[],g,λ_ _=>False,⟨λ_ _ h=>h.elim,λ_ _ h=>h,λ_ _ _ _ _ h=>h.elim⟩,⟨rfl,λi c a x=>by simp at x⟩,pD hm (.inr (.inl Ω)),λ_=>⟨.inr Ω,e,hm⟩⟩)
theorem td{t q:o4}{b:Nat}{z v x:x4}{m:Bool}{S':ak}{l':List α}(j:P.underlying t=σ (.slice e))(hi:aV P e (aw.n α) b z)(s:z.cells.size=aw.n α)(h:bB S R w [v] ([]:List α))(J:aw.rep m S' R w [x] l')(y:∀{F:ak}{c:List x4}{a:α},aw.rep m F R w c a->bB (λ_=>False) R w c a)(A:∀r,r<w.heap.size->S r->¬R r)(B:l'.length*b<=140737488355328)(C:l'.length<=9223372036854775807)(E:∀f I,bB (λr=>S r\/w.heap.size<=r) R I [f] l'->ai S w I->K f I):aM P (b9 #[t,t] q #[v,x]) w K:=by
 obtain⟨vs,g,F,ae,he,V,_⟩:=jT J;refine BQ (l:=[]) (l':=l') (us:=vs) (G:=λ_ _=>False) j j hi s h V.sl ⟨he.1,λi c a H L=>y (he.2 i c a H L)⟩ (λ_ _ _ _ h=>h.elim) (λr M h=>⟨λ_ h=>h,A r M h⟩) (by simpa using B) (by simpa using C) λf I h1 N=>E f I (aw.Y h1 (λr _ h=>?_) λ_ _ h=>h) N;rcases h with h|⟨_,h⟩|h
 .exact .inl h
 .exact h.elim
 .exact .inr h
end
end Go.Vc
namespace Go.Proofs.YtlcdcbgoaljiiaaGreatDoor
open Go Go.Vc Go.RowKit Go.Proofs Go.Proofs.Tryz
set_option maxRecDepth 100000
theorem rl{α:Type}[aw α]{m:Bool}{S R:ak}{v:x4}{l:List α}(h:aw.rep m S R w [v] l):∃a n c,v= .slice a n c:=by
 obtain⟨_,_,_,_,_,⟨_,b,o,base,cap,e,_⟩,_⟩:=jT h;exact⟨_,_,_,e⟩
theorem Sk{ce:Nat->ak}{R:ak}{s:am}(h:gQ s2 ce R w cs k d6 s)(E:∀r,R r->r<w.heap.size)(aO:bd k d6 s)(ah:s.ho.length<=1000)(he:s.dC.length<=1000):
  aq x8 IU [.agg cs.toArray] w λv I=>Ext w I/\∃A bK,v= .agg bK.toArray/\gQ s2 A R I bK k d6 s/\∀q r,A q r->w.heap.size<=r:=by
 have eR:=aO.eZ.2.1;have eS:=aO.d9;obtain⟨hv,ac,ad,ae,af,K,rfl,cf,br,cg,ch,bs,bt,c9⟩:=bI.old h;refine aE func33 ?_;refine bn λg1 U eU ci O=>?_;have O:aj U g1 aK [Δ k,hv,Δ s.zero,ac,ad,ae,af,K]:=by
  obtain⟨_,_,_,da⟩:=rl cf;obtain⟨_,_,_,db⟩:=rl br;obtain⟨_,_,_,dc⟩:=rl cg;obtain⟨_,_,_,dd⟩:=rl ch;obtain⟨_,_,_,de⟩:=rl bs;obtain⟨_,_,_,df⟩:=rl bt;rw[da,db,dc,dd,de,df]at O ⊢;exact O
 have dg:∀u∈([Δ k,hv,Δ s.zero,ac,ad,ae,af,K]:List x4),u.oneCell'=s2:=(bI.len h).2;refine bE aK.i λgt aa eV bu cj=>?_;rw[bH aK.p aK.i rfl (O.W bu).range];refine bE aK.i λgs eW eX bx dh=>?_;refine b3 (vs:=[Δ k,hv,Δ s.zero,ac,ad,ae,af,K]) aK.i rfl rfl dg dh λP ck eY cl=>?_;have e0:=ci.size;have e1:=bu.size;have z3:=bx.size;have e2:=O.lt;have e3:=cj.lt;have bz:Ext U P:=(bu.F bx).put ck Ω;have di:=(cj.W bx).ab ck λhe=>by have he:gt=gs:=he;omega
 have cm:=ci.F bz;have bA:∀r,R r->r<gs:=λr B=>by have:=E r B;omega
 refine tc (α:=Bool) (R:=R) jo.u ee.i λv5 Q ag dj=>?_;have aP:=bz.F ag;have z4:=bz.size;have z5:=ag.size;rw[aN aK.p 4 (O.W aP) rfl];refine td (α:=Bool) jo.u ee.i rfl dj (bq (bq cg cm) ag) (λh=>h) (λr B y H=>by have:=E r H;omega) Θ Θ λbC aY bD cn=>?_;have a7:∀{L M:x5}{b:Nat}{e:o4}{c:List x4},ai (λr=>gs<=r) L M->b<gs->aj L b e c->aj M b e c:=λbG e4 h=>h.ab bG λy=>by have y:gs<=_:=y;omega
 have aQ:∀{L M:x5},Ext w L->ai (λr=>gs<=r) L M->Ext w M:=λJ bG=>J.then bG λr B h=>by have h:gs<=r:=h;omega
 have e5:=cl.lt;have bJ:ai (λr=>gs<=r) Q aY:=cn.Y λr _ h=>by have h:P.heap.size<=r:=h;omega
 have dk:aj aY gs aK [Δ k,hv,Δ s.zero,ac,ad,ae,af,K]:=(cl.W ag).ab cn λh=>by have h:P.heap.size<=gs:=h;omega
 rw[a1 aK.p rfl];refine bw (g:=gs) (o:=3) ca.i Ψ rfl dk Ξ λe6 dl e7 dm=>?_;rw[a1 aK.p rfl];refine bw (g:=gs) (o:=4) jo.i (lU bD) (iJ bD) dm Ξ λe8 dn e9 dp=>?_;rw[a1 aK.p rfl];refine bw (g:=gs) (o:=5) c0.i Ψ rfl dp Ξ λfa dq fb dr=>?_;rw[a1 aK.p rfl];refine bw (g:=gs) (o:=6) c7.i Ψ rfl dr Ξ λaZ ds fc bL=>?_;have bL:aj aZ gs aK [Δ k,hv,Δ s.zero,.slice ν 0 0,bC,.slice ν 0 0,.slice ν 0 0,K]:=bL;have bM:∀{L M:x5},ai (λr=>r=gs) L M->ai (λr=>gs<=r) L M:=λh=>h.Y λr _ h=>by have h:r=gs:=h;omega
 have a2:ai (λr=>r=gs) aY aZ:=((dl.F dn).F dq).F ds;have a6:Ext w aZ:=aQ (aQ (cm.F ag) bJ) (bM a2);have cp:=a7 (bM a2) Ω (a7 bJ Ω (O.W aP));have dt:=a7 (bM a2) Ω (a7 bJ Ω (di.W ag));obtain⟨fd,du⟩:=c9 rfl;let Z:ak:=λr=>ce 4 r/\r<w.heap.size;have cq:∀r,Z r->r<gs:=λr h=>by have:=h.2;omega
 let S:Nat->ak:=λj r=>if j=1 then P.heap.size<=r else if j=4 then Z r else False;have dv:bI s2 S R aZ [Δ k,hv,Δ s.zero,.slice ν 0 0,bC,.slice ν 0 0,.slice ν 0 0,K] k d6 s.zero [] (s.d9.map λx=>decide (x.gone≠0)) [] [] (s.dC.map rk):=by
  refine⟨_,_,_,_,_,_,rfl,bq cf a6,gH,?_,gH,gH,bq bt a6,λ_=>⟨λi j r fe h1 y=>?_,λi r h1 y=>?_⟩⟩
  .have dw:bB (λr=>P.heap.size<=r) R aY [bC] (s.d9.map λx=>decide (x.gone≠0)):=aw.Y bD (λr _ h=>by
    rcases h with h|h
    .exact h
    .show P.heap.size<=r;omega) λ_ _ h=>h
   refine aw.ab dw a2 λr B h1 y=>?_;have y:r=gs:=y;subst y;rcases h1 with h1|h1
   .have h1:P.heap.size<=r:=h1;omega
   .have:=E r h1;omega
  .simp only[S]at h1 y;split at h1<;>split at y
   .omega
   .split at y
    .have:=y.2;omega
    .exact y
   .split at h1
    .have:=h1.2;omega
    .exact h1
   .split at h1<;>split at y
    .omega
    .exact y
    .exact h1
    .exact h1
  .simp only[S]at h1;have:=E r y;split at h1
   .omega
   .split at h1
    .exact du 4 r h1 y
    .exact h1
 have dx:∀j r,S j r->gs<r\/Z r:=λj r h=>by
  simp only[S]at h;split at h
  .exact .inl Ω
  .split at h
   .exact .inr h
   .exact h.elim
 have dy:∀r,Z r->r<gs/\S 4 r:=λr h=>⟨cq r h,h⟩;have dz:=bq br a6;rw[aN aK.p 3 cp rfl,fE ca.u dz,r9];refine b7.range s.d9.length (λi Q=>Ext w Q/\aj Q g1 aK [Δ k,hv,Δ s.zero,ac,ad,ae,af,K]/\aj Q gt aK z12/\∃A cs,aj Q gs aK cs/\(∀q r,A q r->gs<r\/Z r)/\(∀r,Z r->r<gs/\A 4 r)/\
  bI s2 A R Q cs k d6 s.zero ((s.d9.take i).map az) (s.d9.map λx:bp=>decide (x.gone≠0)) ((s.d9.take i).map λx:bp=>x.un) [] (s.dC.map rk)) Ω ⟨a6,cp,dt,S,_,bL,dx,dy,dv⟩ ?_ ?_
 .rintro i dA dD hi ⟨a8,bb,bN,A,cs,ao,bO,aS,aT⟩ dE;obtain⟨x,bc⟩:=aI (l:=s.d9) hi;obtain⟨z,ct⟩:=aI (l:=d6) (i:=i) Ω;have ff:=(aO.var i x z bc ct).1;have fg:=aO.eZ.2.2 z (x7 ct);have fh:(az x).length<=32:=by
   unfold az;refine X3 (List.length_filter_le _ _) ?_;rw[r9,List.length_range];omega
  have dF:=ao.lt;refine bF Ω ?_;intro ap V _ _;have bP:=a8.F V;have fi:=V.size;have cu:=bb.W V;obtain⟨d0,cw⟩:=aT.at 3 Ω;rw[aN aK.p 3 (ao.W V) cw,aN aK.p 3 cu rfl];refine km (α:=Λ) (a:=az x) rfl ca.u au.i (bq br bP) (by rw[u4,bc];rfl) λfj fk dG dH cz=>?_;obtain⟨cA,rfl⟩:∃u,dG=[u]:=by obtain⟨u,hu,_⟩:=cz;exact⟨u,hu⟩
  rw[aG (v:=cA) Ψ (by have:=dH 0 cA rfl;simpa using this)];refine tc (α:=Int) (R:=R) au.u al.i λfm fo be dI=>?_;refine⟨.inl be,?_⟩;refine td (α:=Int) au.u al.i rfl dI (bq cz be) (λh=>h) (λr B y H=>by have:=E r H;have:=bP.size;omega) Ω Ω λcB cC cD cE=>?_;have fp:=be.size;have fq:=cE.size;have cF:Ext ap cC:=be.then cE λr B h=>by have h:ap.heap.size<=r:=h;omega
  refine⟨.inl cF,?_⟩;have cG:bB (λr=>ap.heap.size<=r) R cC [cB] (az x):=aw.Y cD (λr _ h=>by
   rcases h with h|h
   .exact h
   .show ap.heap.size<=r;omega) λ_ _ h=>h
  refine jU ca.u au.i Φ (a:=az x) (cs:=[cB]) (lU cD) cG λfs ft aP _ dJ=>?_;have av:=cF.F aP;refine⟨.inl av,?_⟩;have dK:=aT.old.W (V.F av);refine bI.Sf dK (ao.W (V.F av)) cw (λq r h=>bO q r h.1) (λr h=>⟨(aS r h).1,(aS r h).2,by have:=(aS r h).1;omega⟩) bA dJ (bq cG aP) (λr B h=>⟨λj y=>by have h:ap.heap.size<=r:=h;omega,by have h:ap.heap.size<=r:=h;omega⟩) Θ λfv fw dL bQ bR cH dM bS _=>?_;have dN:Ext w dL:=aQ (bP.F av) bQ;have dO:=a7 bQ Ω (cu.W av);have dP:=a7 bQ Ω ((bN.W V).W av);have fx:=bR.lt;intro ax W _ _;have bT:=dN.F W;have fy:=W.size;have cI:=dO.W W;obtain⟨oT,cJ⟩:=cH.at 5 Ω;rw[aN aK.p 5 (bR.W W) cJ,aN aK.p 5 cI rfl];refine km (α:=Λ) (a:=x.un) rfl c0.u aB.i (bq ch bT) (by rw[u4,bc];rfl) λfz fA bf dQ cK=>?_;obtain⟨cL,rfl⟩:∃u,bf=[u]:=by obtain⟨u,hu,_⟩:=cK;exact⟨u,hu⟩
  rw[aG (v:=cL) Ψ (by have:=dQ 0 cL rfl;simpa using this)];refine tc (α:=Int) (R:=R) aB.u ay.i λfB fD bg dR=>?_;refine⟨.inl bg,?_⟩;refine td (α:=Int) aB.u ay.i rfl dR (bq cK bg) (λh=>h) (λr B y H=>by have:=E r H;have:=bT.size;omega) Ω Ω λcM cN cO cP=>?_;have fF:=bg.size;have fG:=cP.size;have cQ:Ext ax cN:=bg.then cP λr B h=>by have h:ax.heap.size<=r:=h;omega
  refine⟨.inl cQ,?_⟩;have cR:bB (λr=>ax.heap.size<=r) R cN [cM] x.un:=aw.Y cO (λr _ h=>by
   rcases h with h|h
   .exact h
   .show ax.heap.size<=r;omega) λ_ _ h=>h
  refine jU c0.u aB.i Φ (a:=x.un) (cs:=[cM]) (lU cO) cR λfH fI cS _ dS=>?_;have aA:=cQ.F cS;refine⟨.inl aA,?_⟩;have dT:=cH.old.W (W.F aA);refine bI.Sg dT (bR.W (W.F aA)) cJ (λq r h=>dM q r h.1) (λr h=>⟨(bS r h).1,(bS r h).2,by have:=(bS r h).1;omega⟩) bA dS (bq cR cS) (λr B h=>⟨λj y=>by have h:ax.heap.size<=r:=h;omega,by have h:ax.heap.size<=r:=h;omega⟩) Θ λdU dV fJ bU dW dX dY dZ _=>?_;rw[aR];refine dE _ ⟨aQ (bT.F aA) bU,a7 bU Ω (cI.W aA),a7 bU Ω ((dP.W W).W aA),dU,dV,dW,dY,dZ,?_⟩;rw[u9,bc,j4,Z2,Z2];exact dX
 rintro dA dD ⟨a8,bb,bN,A,cs,ao,bO,aS,aT⟩;rw[o9]at aT;refine b4 Ω ?_;have ea:=bq bs a8;have dF:=ao.lt;rw[aN aK.p 6 bb rfl,fE c7.u ea,r9];refine b7.range s.ho.length (λj C=>Ext w C/\aj C g1 aK [Δ k,hv,Δ s.zero,ac,ad,ae,af,K]/\aj C gt aK z12/\∃A cs,aj C gs aK cs/\(∀q r,A q r->gs<r\/Z r)/\(∀r,Z r->r<gs/\A 4 r)/\
  bI s2 A R C cs k d6 s.zero (s.d9.map az) (s.d9.map λx:bp=>decide (x.gone≠0)) (s.d9.map λx:bp=>x.un) ((s.ho.take j).map jI) (s.dC.map rk)) Ω ⟨a8,bb,bN,A,cs,ao,bO,aS,aT⟩ ?_ ?_
 .rintro j C eb cT ⟨N,bV,bh,aU,bf,aC,bi,aV,X⟩ ec;obtain⟨f,bW⟩:∃f,s.ho[j]?=σ f:=⟨_,v8 cT⟩;obtain⟨_,fL,fM⟩:=vy aO (x7 bW);have ed:=aC.lt;refine bF Ω ?_;refine lV cr.p rfl c7.u cr.i (bq bs N) (by rw[u4,bW];rfl) λfN bX=>?_;have ef:=aw.one bX;have fO:=bX;obtain⟨cU,cV,eg,eh,rfl,_,_,_,⟨bj,cW,ei,ej,rfl,_,_,_,aD,cX,cY,fP,ek,rfl,_,_,_,aF,aH⟩,bY⟩:=bX;have aD:Seen R C bj f.sc:=aD;have aF:Seen R C cX f.an:=aF;have aH:aw.rep s2 ek R C cY f.cs:=aH;have bY:cV=[.bool (decide (f.live≠0))]:=bY;obtain⟨aW,rfl⟩:∃u,bj=[u]:=by obtain⟨u,hu,_⟩:=aD;exact⟨u,hu⟩
  obtain⟨aJ,rfl⟩:∃u,cX=[u]:=by obtain⟨u,hu,_⟩:=aF;exact⟨u,hu⟩
  obtain⟨v3,rfl⟩:∃u,cY=[u]:=by obtain⟨u,hu,_⟩:=aH;exact⟨u,hu⟩
  subst bY;refine bE cr.i λaL fQ fR em en=>?_;refine b3 (vs:=[aW,aJ,v3,.bool (decide (f.live≠0))]) cr.i rfl rfl ef en λG eo fS bk=>?_;have bZ:Ext C G:=em.put eo Ω;refine tc (α:=Int) (R:=R) aB.u ay.i λfU fV bl ep=>?_;have cZ:=bZ.F bl;rw[a1 cr.p rfl,a1 ba.p rfl,aG (v:=v3) Ψ ((bk.W bl).cell (o:=0+0+2) rfl)];refine td (α:=Int) aB.u ay.i rfl ep (bq aH cZ) (λh=>h) (λr B y H=>by have:=E r H;have:=(N.F bZ).size;omega) Ω Ω λaM fW b0 b1=>?_;have fX:=bZ.size;have fY:=bl.size;have fZ:=b1.size;have er:=(bk.W bl).ab b1 λh=>by have h:G.heap.size<=aL:=h;have:=bk.lt;omega
  rw[a1 cr.p rfl,a1 ba.p rfl];refine bw (g:=aL) (o:=2) aB.i (lU b0) (iJ b0) er Ξ λbm c1 gb b2=>?_;have b2:aj bm aL cr [aW,aJ,aM,.bool (decide (f.live≠0))]:=b2;have gc:C.heap.size<=aL:=Ω
  have gd:=bk.lt;have bo:Ext C bm:=(cZ.then b1 λr B h=>by have h:G.heap.size<=r:=h;omega).then c1 λr B h=>by have h:r=aL:=h;omega
  have es:bB (λr=>G.heap.size<=r) R bm [aM] f.cs:=aw.Y (aw.ab b0 c1 λr B h y=>by
   have y:r=aL:=y;rcases h with h|h
   .rcases h with h|h
    .have h:G.heap.size<=r:=h;omega
    .omega
   .have:=E r h;have:=N.size;omega) (λr _ h=>by
    rcases h with h|h
    .exact h
    .show G.heap.size<=r;omega) λ_ _ h=>h
  have own:bB (α:=kb) (λr=>G.heap.size<=r) R bm [aW,aJ,aM,.bool (decide (f.live≠0))] (jI f):=
   ⟨[aW,aJ,aM],[.bool (decide (f.live≠0))],λr=>G.heap.size<=r,λ_=>False,rfl,λ_ h=>h,λ_ h=>h.elim,λ_ _ _ h=>h,⟨[aW],[aJ,aM],λ_=>False,λr=>G.heap.size<=r,rfl,λ_ h=>h.elim,λ_ h=>h,λ_ _ h=>h.elim,bq aD bo,[aJ],[aM],λ_=>False,λr=>G.heap.size<=r,rfl,λ_ h=>h.elim,λ_ h=>h,λ_ _ h=>h.elim,bq aF bo,es⟩,rfl⟩
  obtain⟨f0,c2⟩:=X.at 6 Ω;rw[aN aK.p 6 (aC.W bo) c2,bH cr.p cr.i rfl b2.range];refine jU c7.u cr.i Φ rfl own λgf gg c3 _ et=>?_;have aX:=bo.F c3;have eu:=X.old.W aX;refine bI.Sh eu (aC.W aX) c2 (λq r h=>bi q r h.1) (λr h=>⟨(aV r h).1,(aV r h).2,by have:=(aV r h).1;omega⟩) bA et (bq own c3) (λr B h=>⟨λj y=>by have h:G.heap.size<=r:=h;omega,by have h:G.heap.size<=r:=h;omega⟩) Θ λev ew gh b5 ey ez eA eB _=>?_;rw[aR];refine ec _ ⟨aQ (N.F aX) b5,a7 b5 Ω (bV.W aX),a7 b5 Ω (bh.W aX),ev,ew,ey,eA,eB,?_⟩;rw[u9,bW,j4,Z2];exact ez
 rintro C eb ⟨N,bV,bh,aU,bf,aC,bi,aV,X⟩;rw[o9]at X;refine b4 Ω ?_;have ed:=aC.lt;have gi:=N.size;refine tc (α:=nd) (R:=R) ps.u rV.i λgj eC Y eD=>?_;have gk:=Y.size;rw[aN aK.p 7 (bV.W Y) rfl];refine td (α:=nd) ps.u rV.i rfl eD (bq bt (N.F Y)) (λh=>?_) (λr B y H=>by have:=E r H;omega) Θ Θ λb6 gl b8 b9=>?_
 .obtain⟨cU,cV,eg,eh,rfl,_,_,_,aD,bj,cW,ei,ej,rfl,_,_,_,aF,aH⟩:=h;exact⟨cU,_,λ_=>False,λ_=>False,rfl,λ_ h=>h,λ_ h=>h,λ_ _ h=>h.elim,aD,bj,cW,λ_=>False,λ_=>False,rfl,λ_ h=>h,λ_ h=>h,λ_ _ h=>h.elim,aF,aH⟩
 have gm:=b9.size;have eE:=(aC.W Y).ab b9 λh=>by have h:C.heap.size<=gs:=h;omega
 rw[a1 aK.p rfl];refine bw (g:=gs) (o:=7) ps.i (lU b8) (iJ b8) eE (by rw[(bI.len X).1];omega) λcb c4 gn eF=>?_;have cc:ai (λr=>C.heap.size<=r\/r=gs) eC cb:=(b9.Y λr _ h=>.inl h).F (c4.Y λr _ h=>.inr h);have eH:bB (λr=>C.heap.size<=r) R cb [b6] (s.dC.map rk):=aw.Y (aw.ab b8 c4 λr B h y=>by
  have y:r=gs:=y;rcases h with h|h
  .rcases h with h|h
   .have h:C.heap.size<=r:=h;omega
   .omega
  .have:=E r h;omega) (λr _ h=>by
   rcases h with h|h
   .exact h
   .show C.heap.size<=r;omega) λ_ _ h=>h
 have eI:=(X.old).W Y;have eJ:∀j,¬aU j gs:=λj h=>(bi j gs h).elim (λh=>Ω) λh=>by have:=cq gs h;omega
 have eK:∀i j r,i≠j->aU i r->¬aU j r:=by obtain⟨_,_,_,_,_,_,_,_,_,_,_,_,_,eL⟩:=id X;exact(eL rfl).1
 have c5:=eI.R7 (x:=b6) cc (λr B=>?_) eH (λj r cT B y=>by have B:C.heap.size<=r:=B;have:=y.2;omega) (λr B y=>by have B:C.heap.size<=r:=B;have:=E r y;omega)
 rotate_left
 .refine .inr ⟨λj y=>?_,λy=>?_⟩
  .rcases B with B|rfl
   .have:=y.2;omega
   .exact eJ j y.1
  .have:=E r y;rcases B with B|B<;>omega
 obtain⟨cd,eM⟩:=c5.len;have eN:aj cb gt aK z12:=(bh.W Y).ab cc λh=>by
  rcases h with h|h
  .have:=bh.lt;omega
  .omega
 rw[bH aK.p aK.i cd eF.range];refine b3 (vs:=bf.set 7 b6) aK.i cd rfl eM eN λgp c6 gq eO=>?_;rw[fu aK.p aK.i cd eO.range];have c8:∀q r,fK (λi r=>aU i r/\r<C.heap.size) 4 (λr=>C.heap.size<=r) q r->gs<r:=λq r h=>by
  unfold fK at h;split at h
  .have h:C.heap.size<=r:=h;omega
  .rename_i eP;exact(bi q r h.1).resolve_right λy=>eK q 4 r eP h.1 (aV r y).2
 have eQ:=c5.ab c6 λr B h he=>by
  have he:r=gt:=he;rcases h with⟨q,h⟩|h
  .have:=c8 q r h;omega
  .have:=E r h;omega
 refine⟨((N.F Y).then cc λr B h=>?_).then c6 λr B h=>by have h:r=gt:=h;omega,_,_,rfl,eQ,λq r h=>by have:=c8 q r h;omega⟩;rcases h with h|h<;>omega
theorem vK{S T:Nat->Prop}(h:ai S w I)(k:ai T w I):ai (λr=>S r/\T r) w I:=
 ⟨h.size,λr o a V f=>by
  by_cases e:S r
  .exact k.a7 r o a V (by grind)
  .exact h.a7 r o a V e⟩
theorem n4{ag:Nat}{A R:ak}{n:aJ}{s:am}{t:aD}(h:bD w af ag A R n s t):∀r,A r\/R r->r<w.heap.size:=λr a=>by
 obtain⟨e,f,j,q,⟨_,_,x,y⟩,_⟩:=h.1
 grind
structure cm(w:x5)(af ag av:Nat)(A R:ak)(A9:Nat->ak)(aL:ak)(n:aJ)(s u:am)(t:aD)(h:List aD)(cs:List x4):Prop where
 dG:bD w af ag A R n s t
 iR:i9 t h
 box:aj w av aK cs
 doc:gQ s2 A9 aL w cs n.k n.d6 u
 apart:∀q r,A9 q r->¬A r/\¬R r/\r≠av
 read:∀r,aL r->¬eQ w r/\r<w.heap.size/\r≠av
 out:¬A av/\¬R av
section
variable{w I:x5}{af ag av:Nat}{A R:ak}{A9:Nat->ak}{aL:ak}{n:aJ}{s u:am}{t:aD}{h:List aD}{cs:List x4}
theorem cm.W(p:cm w af ag av A R A9 aL n s u t h cs)(J:Ext w I):cm I af ag av A R A9 aL n s u t h cs:=
 ⟨p.dG.W J,p.iR,p.box.W J,p.doc.W J,p.apart,λr a=>⟨λh=>(p.read r a).1 (oN (λo aC V _=>J.a7 r o aC V) h),by have:=(p.read r a).2.1;have:=J.size;omega,(p.read r a).2.2⟩,p.out⟩
theorem cm.prog{aS R':ak}{s':am}{bx:aD}{be:List aD}(p:cm w af ag av A R A9 aL n s u t h cs)(x:ai (eQ w) w I)(f:Grow A w aS I)(C:bD I af ag aS R' n s' bx)(j:i9 bx be)(y:∀r,R' r->R r\/B<=r)(F:∀q r,A9 q r->r<w.heap.size->r<B)(J:av<B):
  cm I af ag av aS R' (λq r=>A9 q r/\r<w.heap.size) aL n s' u bx be cs:=by
 have G:=p.box.lt;have z:=x.size;refine⟨C,j,p.box.ab f.1 p.out.1,bI.ab p.doc.old (vK x f.1) λr e h j=>?_,λq r h=>⟨λa=>?_,λe=>(y r e).elim (p.apart q r h.1).2.1 (by grind),(p.apart q r h.1).2.2⟩,λr e=>⟨λh=>?_,by have:=(p.read r e).2.1;omega,(p.read r e).2.2⟩,λa=>?_,λe=>(y av e).elim p.out.2 Ω⟩
 .rcases h with⟨q,h⟩|h
  .exact (p.apart q r h.1).1 j.2
  .exact (p.read r h).1 j.1
 .rcases f.2.1 r a with a|a
  .exact (p.apart q r h.1).1 a
  omega
 .exact (p.read r e).1 (oN (λo aC V E=>x.a7 r o aC V E) h)
 .rcases f.2.1 av a with a|a
  .exact p.out.1 a
  .omega
theorem cm.Sl{S:ak}{cD:Nat->ak}{u':am}{bK:List x4}(p:cm w af ag av A R A9 aL n s u t h cs)(f:ai S w I)(x:∀r,r<w.heap.size->S r->(∃q,A9 q r)\/r=av)(B:aj I av aK bK)(C:gQ s2 cD aL I bK n.k n.d6 u')(E:∀q r,cD q r->(∃j,A9 j r)\/(¬A r/\¬R r/\r≠av)):
  cm I af ag av A R cD aL n s u' t h bK:=by
 have F:=p.box.lt;have z:=f.size;have G:∀q r,A9 q r->¬aL r:=by obtain⟨_,_,_,_,_,_,_,_,_,_,_,_,_,H⟩:=p.doc;grind
 refine⟨⟨p.dG.1.ab f λr e h V=>?_,p.dG.2⟩,p.iR,B,C,λq r h=>?_,λr e=>⟨λh=>(p.read r e).1 (oN (λo aC V _=>f.a7 r o aC V λa=>?_) h),by have:=(p.read r e).2.1;omega,(p.read r e).2.2⟩,p.out⟩
 .rcases x r e V with⟨q,a⟩|a
  .exact h.elim (p.apart q r a).1 (p.apart q r a).2.1
  .subst a;exact h.elim p.out.1 p.out.2
 .rcases E q r h with⟨j,a⟩|a
  .exact p.apart j r a
  .exact a
 .rcases x r (p.read r e).2.1 a with⟨q,y⟩|y
  .grind
  .exact (p.read r e).2.2 y
theorem cm.Sm{S:ak}{cD:Nat->ak}{u':am}{bK:List x4}(p:cm w af ag av A R A9 aL n s u t h cs)(y:∀r,A r\/R r->r<B)(z:av<B)(a:ai S w I)(e:∀r,r<w.heap.size->S r->(∃q,A9 q r)\/r=av)(f:aj I av aK bK)(j:gQ s2 cD aL I bK n.k n.d6 u')(C:∀q r,cD q r->(∃x,A9 x r)\/B<=r):
  cm I af ag av A R cD aL n s u' t h bK:=
 p.Sl a e f j (by grind)
theorem cm.FZ{S:ak}{cD:Nat->ak}{u':am}{bK:List x4}(p:cm w af ag av A R A9 aL n s u t h cs)(a:ai S w I)(e:∀r,r<w.heap.size->S r->(∃q,A9 q r)\/r=av)(f:aj I av aK bK)(j:gQ s2 cD aL I bK n.k n.d6 u')(x:∀q r,cD q r->(∃y,A9 y r)\/w.heap.size<=r):
  cm I af ag av A R cD aL n s u' t h bK:=p.Sm (n4 p.dG) p.box.lt a e f j x
theorem cm.look(p:cm w af ag av A R A9 aL n s u t h cs):kY w av n.k n.d6 u:=by
 refine e3.box p.doc.s9 (Ext.refl _) ?_;have:=p.box;exact this
theorem cm.qc(p:cm w af ag av A R A9 aL n s u t h cs):∃hv a e f j q,cs=[Δ n.k,hv,Δ u.zero,a,e,f,j,q]/\aQ .i64 w hv n.d6:=by
 obtain⟨hv,a,e,f,j,q,h1,r,_⟩:=p.doc
 grind [c3]
end
end Go.Proofs.YtlcdcbgoaljiiaaGreatDoor
namespace Go.Vc
open Go Go.RowKit
section
variable{P:W0}{w:x5}{α:Type}[aw α]{S R:ak}
theorem vL{v:x4}{l:List α}{i:Nat}{a:α}(h:bB S R w [v] l)(C:l[i]?=σ a)(O:∀r,r<w.heap.size->S r->¬R r):∃g cap c F,v= .slice (σ ⟨g,0,ν⟩) l.length cap/\w.rangeAt g (i*aw.n α) c/\bB F R w c a/\(∀r,F r->S r)/\
  ∀{I:x5}{a':α}{T z:ak},ai T w I->(∀r,r<w.heap.size->T r->F r)->bB z R I c a'->(∀r,z r->F r\/w.heap.size<=r)->bB (λr=>S r\/w.heap.size<=r) R I [v] (l.set i a'):=by
 have an:=(x6.1 C).1;obtain⟨vs,g,F,ae,he,V,hm⟩:=jT h;obtain⟨P,Q,E⟩:=hm rfl;obtain⟨ao,⟨rfl,ap⟩|⟨cap,full,rfl,U,aq,au,ah,av⟩⟩:=id E
 .omega
 have W:vs.length=l.length:=he.1;have ax:S g:=P.resolve_left Ξ;obtain⟨c,G⟩:∃c,vs[i]?=σ c:=⟨_,v8 Ω⟩;have X:=he.2 i c a G C;refine⟨g,cap,c,F i,rfl,?_,X,λr s=>ae.sub i r s,λ{I a' T z}H K Y A=>?_⟩
 .obtain⟨_,ay,o',az,aA,Z,_,_,aa,_,ac⟩:=V;cases Z;cases aa Ω;intro j u ad;have aB:=ac (i*aw.n α+j) u (by rw[<-List.flatMap_id];exact q2 (f:=id) (k:=aw.n α) (λx J=>he.len x J) G ad)
  grind
 have af:¬T g:=λh=>ae.top rfl i (K g U.lt h);have aC:=aw.len Y;have aD:vs.set i c=vs:=by
  refine Y3 λq=>?_
  grind
 have aE:cf I g Q (aw.n α) (.slice (σ ⟨g,0,ν⟩) l.length cap) (l.set i a').length vs.flatten:=by
  rw[Z9];exact E.ab H λ_=>af
 refine⟨_,rfl,vs,g,λj r=>if j=i then z r else F j r/\r<w.heap.size,⟨λj r s=>?_,λ_ j s=>?_,λ_ j q r ag h1 y=>?_⟩,⟨by simp[W],λj L M al N=>?_⟩,?_,by grind⟩
 .split at s
  .exact (A r s).imp (ae.sub i r) id
  .exact .inl (ae.sub j r s.1)
 .split at s
  .rcases A g s with h|h
   .exact ae.top rfl i h
   grind [aj.lt]
  .exact ae.top rfl j s.1
 .split at h1<;>split at y
  .omega
  .rcases A r h1 with h|h
   .rename_i e _;exact ae.iv rfl i q r Ω h y.1
   omega
  .rcases A r y with h|h
   .exact ae.iv rfl j i r Ω h1.1 h
   omega
  .exact ae.iv rfl j q r ag h1.1 y.1
 .by_cases B:j=i
  .subst B
   grind
  .rw[Y9 (Ne.symm B)]at N;have am:bB (λr=>if j=i then z r else F j r/\r<w.heap.size) R w L M:=aw.Y (he.2 j L M al N) (by grind) λ_ _ h=>h;refine aw.ab am H λr s h1 y=>?_;have y:=K r s y;rcases h1 with h1|h1
   .simp only[m5 B]at h1;exact ae.iv rfl j i r B h1.1 y
   .exact O r s (ae.sub i r y) h1
 grind [pD]
theorem F0{v:x4}{l:List α}{i:Nat}{a:α}(h:bB S R w [v] l)(H:l[i]?=σ a)(O:∀r,r<w.heap.size->S r->¬R r):∃g cap full A c F,v= .slice (σ ⟨g,0,ν⟩) l.length cap/\aj w g A full/\S g/\i*aw.n α+aw.n α<=full.length/\(∀(q:Nat)x,c[q]?=σ x->full[i*aw.n α+q]?=σ x)/\bB F R w c a/\(∀r,F r->S r)/\¬F g/\
  ∀{I:x5}{a':α}{z:List x4}{T B:ak},ai T w I->(∀r,r<w.heap.size->T r->F r\/r=g)->aj I g A (over full (i*aw.n α) z)->bB B R I z a'->(∀r,B r->F r\/w.heap.size<=r)->bB (λr=>S r\/w.heap.size<=r) R I [v] (l.set i a'):=by
 have P:=(x6.1 H).1;obtain⟨vs,g,F,ae,he,V,hm⟩:=jT h;obtain⟨Q,A,U⟩:=hm rfl;obtain⟨aq,⟨rfl,au⟩|⟨cap,full,rfl,W,av,X,ah,ax⟩⟩:=id U
 .omega
 have Y:vs.length=l.length:=he.1;have Z:S g:=Q.resolve_left Ξ;obtain⟨c,K⟩:∃c,vs[i]?=σ c:=⟨_,v8 Ω⟩;have aa:=he.2 i c a K H;have ac:(i+1)*aw.n α<=l.length*aw.n α:=V4 _ P;have ay:l.length*aw.n α<=full.length:=by grind
 rw[T6,Nat.one_mul]at ac;refine⟨g,cap,full,A,c,F i,rfl,W,Z,Ω,λq x ad=>?_,aa,λr y=>ae.sub i r y,ae.top rfl i,λ{I a' z T B}af ag al am C=>?_⟩
 .have az:=q2 (f:=id) (k:=aw.n α) (λx J=>he.len x J) K ad
  grind [List.flatMap_id]
 have an:=aw.len am;have aA:∀c∈vs.set i z,c.length=aw.n α:=λc E=>by
  rcases U5 E with s|rfl
  .exact he.len c s
  .exact an
 have aB:cf I g A (aw.n α) (.slice (σ ⟨g,0,ν⟩) l.length cap) (l.set i a').length (vs.set i z).flatten:=by
  refine⟨by grind [uh,Z9],.inr ⟨cap,_,by grind,al,by grind,X,by rw[nN,ah],?_⟩⟩
  grind [xV,FW,nQ.len]
 refine⟨_,rfl,vs.set i z,g,λj r=>if j=i then B r else F j r/\r<w.heap.size,⟨λj r y=>?_,λ_ j y=>?_,λ_ j q r ao h1 s=>?_⟩,⟨by simp[Y],λj L M E N=>?_⟩,?_,by grind⟩
 .split at y
  .exact (C r y).imp (ae.sub i r) id
  .exact .inl (ae.sub j r y.1)
 .split at y
  .rcases C g y with h|h
   .exact ae.top rfl i h
   grind [aj.lt]
  .exact ae.top rfl j y.1
 .split at h1<;>split at s
  .omega
  .rcases C r h1 with h|h
   .rename_i e _;exact ae.iv rfl i q r Ω h s.1
   omega
  .rcases C r s with h|h
   .exact ae.iv rfl j i r Ω h1.1 h
   omega
  .exact ae.iv rfl j q r ao h1.1 s.1
 .by_cases G:j=i
  .subst G
   grind
  .rw[Y9 (Ne.symm G)]at E N;have ap:bB (λr=>if j=i then B r else F j r/\r<w.heap.size) R w L M:=aw.Y (he.2 j L M E N) (by grind) λ_ _ h=>h;refine aw.ab ap af λr y h1 s=>?_;have s:=ag r y s;rcases h1 with h1|h1
   .simp only[m5 G]at h1;rcases s with s|rfl
    .exact ae.iv rfl j i r G h1.1 s
    .exact ae.top rfl j h1.1
   .rcases s with s|rfl
    .exact O r y (ae.sub i r s) h1
    grind
 grind [pD]
end
end Go.Vc
namespace Go.Proofs.YtlcdcbgoaljiiaaGreatDoor
open Go Go.Vc Go.RowKit Go.Proofs Go.Proofs.Tryz
set_option maxRecDepth 100000
section
variable{w0 w:x5}{af ag av ga:Nat}{A R:ak}{A9 cD:Nat->ak}{aL:ak}{n:aJ}{s u:am}{t:aD}{h:List aD}{cs bK:List x4}{aY aZ ne:x4}{Q:x4->x5->Prop}
theorem cm.olds(p:cm w0 af ag av A R A9 aL n s u t h cs):cm w0 af ag av A R (λq r=>A9 q r/\r<w0.heap.size) aL n s u t h cs:=
 ⟨p.dG,p.iR,p.box,p.doc.old,λq r a=>p.apart q r a.1,p.read,p.out⟩
end
theorem rm{α β:Type}{l:List α}{i:Nat}{a b:α}{f:α->β}(h:l[i]?=σ a)(ah:f b=f a):(l.set i b).map f=l.map f:=by
 rw[U2,ah];refine Y3 λq=>?_;rw[X7];by_cases e:i=q
 .subst e;rw[m3 rfl,u4,h,m3 (by rw[r9];exact(x6.1 h).1)];rfl
 .rw[m5 e]
theorem zb{T:Nat->Prop}(h:ai T w I):ai (λr=>T r/\r<w.heap.size) w I:=⟨h.size,λr o a V e=>h.a7 r o a V λf=>e ⟨f,(Y2.1 a).1⟩⟩
section
variable{w0 w I:x5}{af ag av ga:Nat}{A R:ak}{A9:Nat->ak}{aL:ak}{n:aJ}{s u u':am}{t:aD}{h:List aD}{cs:List x4}{aY aZ ne v:x4}{Q:x4->x5->Prop}
theorem bI.sf{m:Bool}{zero:Int}{D:List (Λ)}{G:List Bool}{bb:List (Λ)}{H:List kb}{E:List nd}{i:Nat}(ac:cs[i]?=σ v)(h:bI m A9 aL w (cs.set i v) k d6 zero D G bb H E):bI m A9 aL w cs k d6 zero D G bb H E:=by
 have:cs.set i v=cs:=by
  refine Y3 λq=>?_;rw[X7];by_cases a:i=q
  .subst a;have:=(x6.1 ac).1;rw[m3 rfl,m3 this,ac]
  .rw[m5 a]
 rw[this]at h;exact h
theorem cm.row{T:ak}{cD:Nat->ak}{q:Nat}(p:cm w af ag av A R A9 aL n s u t h cs)(a:ai T w I)(e:∀r,r<w.heap.size->T r->A9 q r)(f:gQ s2 cD aL I cs n.k n.d6 u')(j:∀q r,cD q r->(∃x,A9 x r)\/w.heap.size<=r):
  cm I af ag av A R cD aL n s u' t h cs:=
 p.FZ a (λr y h=>.inl ⟨q,e r y h⟩) (p.box.ab a λh=>(p.apart q av (e av p.box.lt h)).2.2 rfl) f j
theorem zc{q:Nat}{B:ak}(a:∀r,B r->A9 q r\/w.heap.size<=r):∀j r,fK A9 q B j r->(∃e,A9 e r)\/w.heap.size<=r:=λj r h=>by
 unfold fK at h;split at h
 .exact (a r h).imp (λh=>⟨q,h⟩) id
 .exact .inl ⟨j,h⟩
end
def iU(n:aJ)(s:am)(j:Nat)(pos v o u:Int):Int:=min (ec s j (if pos=1 then[u,v]else[v,u])+bQ n s o u) n.k
section
variable{w:x5}{af ag:Nat}{A R:ak}{n:aJ}{s:am}{t:aD}
theorem Sn{pos o:Int}{g1 E G H J:Nat}(h:bD w af ag A R n s t)(h1:aj w g1 al [Δ v])(M:aj w E al [Δ pos])(x:aj w G ez [Γ af])(N:aj w H al [Δ (j:Int)])(O:aj w J al [Δ o])(l:Λ):
  yZ w K4 #[Γ g1,Γ E,Γ G,Γ H,Γ J] l (iU n s j pos v o):=λI u f _=>by
 have h:=h.W f;refine aE func226 ?_;rw[aG Ψ ((h1.W f).cell rfl)];refine oB (l:=[v,u]) au.u al.i Ξ rfl Ψ λX ga U Y y P=>?_;have K:=f.F y;refine a6 (λr aa=>Ext I aa/\aQ .i64 aa r (if pos=1 then[u,v]else[v,u])) ?_ ?_
 .rintro aY aa ⟨a,Q⟩;have z:=f.F a;rw[aG Ψ ((x.W z).cell rfl),aG Ψ ((N.W z).cell rfl)];refine FH (h.W a) Q λe Z q=>?_;have B:=z.F q;rw[bz,bA,aG Ψ ((x.W B).cell rfl),aG Ψ ((O.W B).cell rfl)];refine FI (h.W (a.F q)) λab ac C=>?_;have S:=B.F C;rw[bz,bA,aG Ψ ((x.W S).cell rfl)];refine(RM (h.W ((a.F q).F C)) (vD h.2.2.2.1) (lC h.2.2.2.1)).Y ?_;rintro _ ad _ ⟨rfl,V⟩;exact⟨rfl,((a.F q).F C).F V⟩
 intro aA L;rw[aG Ψ ((M.W K).cell rfl),bm,ao];refine⟨λae=>?_,λae=>L _ _ ⟨y,by rw[m5 ae];exact P.ls⟩⟩;rw[aG Ψ ((h1.W K).cell rfl)];refine oB (l:=[u,v]) au.u al.i Ξ rfl Ψ λah ai aa ak a W=>?_;exact L _ _ ⟨y.F a,by rw[m3 ae];exact W.ls⟩
theorem Sp{pos o:Int}{f:bL}{x:bp}(h:bD w af ag A R n s t)(ad:Laid w)(ah:s.ho[j]?=σ f)(ae:0<=pos/\pos<=1)(aK:f.sc.length=2)(aC:f.sc[(1-pos).toNat]?=σ o)(J:s.d9[o.toNat]?=σ x):
  aq x8 Km [Γ af,Δ (j:Int),Δ pos,Δ v] w λr I=>Ext w I/\r= .tuple #[Δ (cJ n.k (az x) (iU n s j pos v o)).1,Δ (cJ n.k (az x) (iU n s j pos v o)).2]:=by
 have ai:=((h.2.2.2.1.ho f (x7 ah)).1.scope.1 o (x7 aC)).1;have aL:j<4611686018427387904:=by
  have h1:=sX h.2.1 h.2.2.1;have aM:=yR ah;have aN:=(x6.1 ah).1;have aO:j<=fJ s j:=by
   unfold fJ;have:j<=((s.ho.take j).flatMap ji).length:=by
    have ak:∀(L:List bL),L.length<=(L.flatMap ji).length:=λL=>by
     induction L with
     |nil=>exact o6 _
     |cons a L aP=>rw[T0,c9,W5];have:(ji a).length=a.cs.length+1:=rfl;omega
    have am:=ak (s.ho.take j);rw[Z3]at am;omega
   omega
  omega
 refine aE func166 ?_;refine bn λan U aQ ao G=>?_;refine bn λap aa aR Y H=>?_;refine bn λaS aT aU O K=>?_;refine bn λg1 P aV M Q=>?_;have Z:=((ao.F Y).F O).F M;have G:aj P an ez [Γ af]:=((G.W Y).W O).W M;have H:aj P ap al [Δ (j:Int)]:=(H.W O).W M;have K:=K.W M;have Q:=Q;refine a6 (λr S=>Ext P S/\∃e,r=Γ e/\aj S e al [Δ o]) ?_ ?_
 .rintro _ S ⟨C,e,rfl,E⟩;have N:=Z.F C;rw[aG Ψ ((G.W C).cell rfl),aG Ψ (E.cell rfl),lS];refine(FF (h.W N) (ad.W N) ai J (Sn (h.W N) (Q.W C) (K.W C) (G.W C) (H.W C) E _)).Y ?_;rintro _ aW _ ⟨av,rfl⟩;rw[bz,bA];exact⟨N.F av,rfl⟩
 intro aA ab aX q _ _;have ac:=Z.F q;rw[aG Ψ ((G.W q).cell rfl),aG Ψ ((H.W q).cell rfl),aG Ψ ((K.W q).cell rfl),dr,lm Ω Ω];refine⟨?_,?_⟩
 .refine (md (h.W ac) ah).Y ?_;rintro r aw _ ⟨z,ax,ay,V⟩;refine⟨.inl z,?_⟩;refine nR Ω au.u al.i V.ls aC λaY co aB=>?_;rw[aG Ψ aB];refine bE al.i λe aD aF B E=>?_;refine⟨.inl B,.inl (z.F B),?_⟩;have z9:=((q.F z).F B).size;refine bw al.i rfl rfl E Φ λaH W aI X=>?_;have aZ:=(q.F z).size;exact ab _ _ ⟨((q.F z).F B).then W λr aJ he=>by have he:r=e:=he;omega,e,rfl,X⟩
 .refine bE al.i λe aD aF B E=>?_;refine⟨.inl B,?_⟩;refine(md (h.W (ac.F B)) ah).Y ?_;rintro r aw _ ⟨z,ax,ay,V⟩;refine⟨.inl (B.F z),?_⟩;rw[ft (y:=1-pos) (i:=(1-pos).toNat) Ω au.u al.i Ψ V.ls aC];have a1:=q.size;refine bw al.i rfl rfl (E.W z) Φ λaH W aI X=>?_;exact ab _ _ ⟨((q.F B).F z).then W λr aJ he=>by have he:r=e:=he;omega,e,rfl,X⟩
def Sq(n:aJ)(s:am)(j pos v:Int)(r:x4):Prop:=((¬∃f u x,n3 s j pos v f u x)->r= .tuple #[Δ 0,Δ (-1),Δ 1])/\∀f u x,n3 s j pos v f u x->(f.sc.length≠2->r= .tuple #[Δ 0,Δ (-1),Δ 1])/\
 (f.sc.length=2->∀o y,f.sc[(1-pos).toNat]?=σ o->s.d9[o.toNat]?=σ y->r= .tuple #[Δ (cJ n.k (az y) (iU n s j.toNat pos v o)).1,Δ (cJ n.k (az y) (iU n s j.toNat pos v o)).2,Δ 0])
theorem n3.same{j pos:Int}{f a:bL}{u u':Int}{x e:bp}(h:n3 s j pos v f u x)(k:n3 s j pos v a u' e):a=f/\u'=u/\e=x:=by
 have q:=h.ah;rw[k.ah]at q;cases q;have r:=h.hu;rw[k.hu]at r;cases r;have w:=h.J;rw[k.J]at w;cases w;exact⟨rfl,rfl,rfl⟩
theorem Sr{j pos:Int}(h:bD w af ag A R n s t)(N:Laid w):aq x8 JH [Γ af,Δ j,Δ pos,Δ v] w λr I=>Ext w I/\Sq n s j pos v r:=by
 refine aE func102 ?_;refine(RQ h).Y ?_;rintro _ U _ ⟨B,e,rfl,he,E⟩;rw[bM,ao];refine⟨λa=>⟨B,λ_=>by rw[he.resolve_left a],λf u x ae=>m6 (E.2 ⟨f,u,x,ae⟩) a⟩,λO=>?_⟩;obtain⟨f,u,x,ae⟩:=E.1 (X1.1 O);have G:=md (h.W B) ae.ah;have Y:=ae.FK;rw[show((j.toNat:Nat):Int)=j by omega]at G;refine G.Y ?_;rintro r aa _ ⟨P,Z,_,Q⟩;have q:=B.F P;rw[a8 au.u Q.ls,bM,ao];refine⟨λa=>⟨q,λ_=>rfl,λS u' V C=>⟨λ_=>rfl,λz=>?_⟩⟩,λz=>?_⟩
 .obtain⟨rfl,_⟩:=ae.same C;omega
 have z:f.sc.length=2:=Ω
 have ab:=(x6.1 ae.hu).1;have ac:=ae.eL;obtain⟨o,aC⟩:=aI (l:=f.sc) (i:=(1-pos).toNat) Ω;have H:=(h.2.2.2.1.ho f (x7 ae.ah)).1;have ad:=h.2.2.2.1.d9;have ai:=H.d9 o (x7 aC);have aj:=(H.scope.1 o (x7 aC)).1;obtain⟨y,J⟩:=aI (l:=s.d9) (i:=o.toNat) Ω;have K:=Sp (v:=v) (h.W q) (N.W q) ae.ah ⟨ae.eL,Ω⟩ z aC J;rw[show((j.toNat:Nat):Int)=j by omega]at K;refine K.Y ?_;rintro _ ak _ ⟨W,rfl⟩;rw[bz,bA];refine⟨q.F W,λX=>m6 ⟨f,u,x,ae⟩ X,λS u' V C=>?_⟩;obtain⟨rfl,_⟩:=ae.same C;refine⟨λa=>m6 z a,λ_ o' al L M=>?_⟩;rw[aC]at L;cases L;rw[J]at M;cases M;rfl
end
theorem Ss{mc:Nat}{cap:Array x4}{p:Int->Bool}(h:aQ .i64 w sv l)(ae:∀I x,Ext w I->x∈l->aq x8 mc (Δ x::cap.toList) I λr q=>r= .bool (p x)/\Ext I q):
  aq x8 w2 [sv,.func (.func mc) #[] cap] w λv I=>Ext w I/\((v=Δ (-1)/\∀x∈l,p x=sp)\/∃i:Nat,v=Δ (i:Int)/\i<l.length/\(∀x∈l.take i,p x=sp)/\∀x,l[i]?=σ x->p x=s2):=by
 refine aE func136 ?_;rw[a8 au.u h];refine ce.range l.length (λi _ U=>Ext w U/\∀x∈l.take i,p x=sp) h.le ⟨Ext.refl _,Ξ⟩ ?_ ?_
 .rintro i _ U k hi ⟨a,e⟩ hk;refine bF Ω ?_;obtain⟨y,f⟩:=aI (l:=l) hi;rw[bk au.u al.i Ψ (h.W a) f];refine aq.Y (ae U y a (x7 f)) ?_;rintro _ aa _ ⟨rfl,j⟩;rw[cb];refine⟨λs=>⟨a.F j,.inr ⟨i,rfl,hi,e,λx J=>by rw[f]at J;cases J;exact s⟩⟩,λah=>?_⟩;rw[aR];refine hk _ _ ⟨a.F j,λx J=>?_⟩;rw[u9,f]at J;rcases j5.1 J with J|J
  .exact e x J
  .simp at J;subst J;exact ah
 .rintro _ U k ⟨a,e⟩;rw[o9]at e;rw[aW,ao];exact⟨λh=>Ω,λ_=>⟨a,.inl ⟨rfl,e⟩⟩⟩
theorem St{g mc:Nat}{cap:Array x4}{p:Int->Bool}(h:aH .i64 e w g sv l)(aJ:l.length<=100000000)(ae:∀I x,ai (λr=>lc sv r) w I->x∈l->aq x8 mc (Δ x::cap.toList) I λr Y=>r= .bool (p x)/\Ext I Y):
  aq x8 Jj [sv,.func (.func mc) #[] cap] w λv I=>ai (λr=>lc sv r) w I/\aH .i64 e I g v (l.filter λx=>!p x)/\∀r,lc v r->lc sv r:=by
 refine aE func71 ?_;refine(Ss h.ls λI x J=>ae I x (J.ab _)).Y ?_;rintro _ U _ ⟨B,⟨rfl,L⟩|⟨i,rfl,hi,L,Z⟩⟩
 .rw[bm,ao];refine⟨λ_=>⟨B.ab _,?_⟩,λh=>m6 rfl h⟩;rw[List.filter_eq_self.2 λx J=>by rw[L x J];rfl];exact⟨h.W B,λ_ h=>h⟩
 rw[bm,ao];refine⟨λh=>Ω,λ_=>?_⟩;rw[aR,lm Ω Ω];obtain⟨n,M⟩:∃n,l.length=n:=⟨_,rfl⟩;obtain⟨s,rfl⟩:∃s,sv= .slice (σ ⟨g,0,ν⟩) n s:=by
  obtain⟨_,⟨_,h1⟩|⟨s,cs,h1,_⟩⟩:=id h
  .omega
  .exact⟨s,by rw[h1,M]⟩
 obtain⟨_,_,_,_,aK,aa,_⟩:=sJ h Ω;have R:∀r,r=g->lc (.slice (σ ⟨g,0,ν⟩) n s) r:=λr N=>⟨_,_,_,rfl,N.symm⟩;have ac:(l.take (i+1)).filter (λx=>!p x)=l.take i:=by
  obtain⟨y,z⟩:=aI (l:=l) hi;rw[u9,z,List.filter_append,List.filter_eq_self.2 λx J=>by rw[L x J];rfl];simp[Z y z]
 refine⟨λO P C=>∃(q j:Nat)(f:Λ),O=Δ (q:Int)/\P=Δ (j:Int)/\q<j/\j<=n/\ai (λr=>r=g) w C/\aH .i64 e C g (.slice (σ ⟨g,0,ν⟩) n s) f/\f.length=n/\f.take q=(l.take j).filter (λx=>!p x)/\∀k,j<=k->f[k]?=l[k]?,
  λ_ P _=>n-(b2 P).toNat,⟨i,i+1,l,rfl,rfl,Ω,Ω,B.ab _,h.W B,M,ac.symm,λ_ _=>rfl⟩,?_⟩
 rintro _ _ C ⟨q,j,f,rfl,rfl,aL,aM,E,G,S,A,Q⟩;have aN:q=((l.take j).filter λx=>!p x).length:=by rw[<-A,Z3];omega
 rw[jr au.u,aW,ao];refine⟨λad=>?_,λaO=>?_⟩
 .have ad:j<n:=Ω
  obtain⟨y,z⟩:=aI (l:=l) (i:=j) Ω;have af:f[j]?=σ y:=by rw[Q j (o6 _),z]
  refine a6 (λO H=>∃(q:Nat)(f:Λ),O=Δ (q:Int)/\q<j+1/\ai (λr=>r=g) w H/\aH .i64 e H g (.slice (σ ⟨g,0,ν⟩) n s) f/\f.length=n/\f.take q=(l.take (j+1)).filter (λx=>!p x)/\∀k,j+1<=k->f[k]?=l[k]?) ?_ ?_
  .rintro _ H ⟨q,f,rfl,h1,ag,aj,ak,am,an⟩;rw[aR,lm Ω Ω];exact⟨⟨q,j+1,f,rfl,rfl,h1,Ω,ag,aj,ak,am,an⟩,by simp only[b2];omega⟩
  intro aA V;rw[bk au.u al.i Ψ G.ls af];refine aq.Y (ae C y (E.Y λr _=>R r) (x7 z)) ?_;rintro _ H _ ⟨rfl,K⟩;have W:(l.take (j+1)).filter (λx=>!p x)=(l.take j).filter (λx=>!p x)++[y].filter (λx=>!p x):=by rw[u9,z,List.filter_append];rfl
  rw[bN,cb];refine⟨λap=>?_,λah=>?_⟩
  .have X:=G.W K;rw[ju rfl au.u al.i X Ω];refine jv al.i X Ω λaP av aQ aw=>?_;rw[aR,lm Ω Ω];refine V _ _ ⟨q+1,_,rfl,Ω,(E.F (K.ab _)).F av,aw,by simpa using S,?_,λk hk=>?_⟩
   .rw[W,u9,Z6 Ω,List.take_set_of_le (o6 _),A];simp only[j4];rw[show[y].filter (λx=>!p x)=[y] by simpa using ap]
   .rw[Y9 Ω];exact Q k Ω
  .refine V _ _ ⟨q,f,rfl,Ω,E.F (K.ab _),G.W K,S,?_,λk hk=>Q k Ω⟩;rw[W,show[y].filter (λx=>!p x)=[] by simpa using ah,T4];exact A
 .have ax:j=n:=Ω
  subst ax;rw[<-M,o9]at A;obtain⟨_,_,cs,ay,_,_,aS,az⟩:=sJ G Ω;simp only[maxLen]at aa;rw[iI au.u al.i rZ la fD Ω Ω Ω,m5 Ω];have aB:V8 (λx:Addr=>x.add (q*1)) (σ ⟨g,0,ν⟩)=σ ⟨g,q,ν⟩:=by simp[U8]
  rw[aB];refine B8 au.u al.i rfl rfl ay Ω Ω λaT aC aU aD=>?_;rw[iI au.u al.i kl py fD Ω Ω Ω,m5 Ω];have aF:V8 (λx:Addr=>x.add (0*1)) (σ ⟨g,0,ν⟩)=σ ⟨g,0,ν⟩:=by simp[U8]
  rw[aF];refine⟨(E.F aC).Y λr _=>R r,?_⟩;have aV:(l.filter λx=>!p x).length=q:=by rw[<-A,Z3];omega
  rw[<-A,Nat.sub_zero];refine⟨?_,λr N=>by obtain⟨a,_,_,e,aG⟩:=N;cases e;exact⟨_,_,_,rfl,aG⟩⟩;refine aH.of (n:=q) ⟨Θ,.inr ⟨s,_,Ξ,aD,Ω,by simp only[maxLen];omega,by rw[nN];omega,?_⟩⟩;rw[U3];apply Y3;intro k;by_cases hk:k<q
  .rw[V1 hk,qH _ _ _ Θ,m5 Ω,ints,u4,V1 hk];have:(cs.take j)[k]?=(ints .i64 f)[k]?:=by rw[az]
   rw[V1 Ω,ints,u4]at this;exact this
  .rw[W8 Θ,W8 Θ]
theorem F3{full c:List x4}{o q:Nat}{x:x4}(f:∀(k:Nat)y,c[k]?=σ y->full[o+k]?=σ y)(h:o+c.length<=full.length)(j:q<c.length):full.set (o+q) x=over full o (c.set q x):=by
 refine Y3 λk=>?_;rw[qH _ _ _ (by rw[Z9];exact h),X7,Z9];by_cases h1:o<=k/\k<o+c.length
 .rw[m3 h1,X7];by_cases a:o+q=k
  .rw[m3 a,m3 Ω,m3 Ω,m3 Ω]
  .rw[m5 a,m5 Ω];have e:k-o<c.length:=Ω
   have:=f (k-o) c[k-o] (v8 e);rw[v8 e,<-this];congr 1;omega
 .rw[m5 h1,m5 Ω]
section
variable{w0 w I:x5}{af ag av ga:Nat}{A R:ak}{A9:Nat->ak}{aL:ak}{n:aJ}{s u u':am}{t:aD}{h:List aD}{cs:List x4}{aY aZ ne v:x4}{Q:x4->x5->Prop}
theorem cm.iv(p:cm w af ag av A R A9 aL n s u t h cs):(∀i j r,i≠j->A9 i r->¬A9 j r)/\∀i r,A9 i r->¬aL r:=by
 obtain⟨_,_,_,_,_,_,_,_,_,_,_,_,_,a⟩:=p.doc;exact a rfl
theorem cm.Su{T:ak}(p:cm w af ag av A R A9 aL n s u t h cs)(y:∀q r,A9 q r->r<w.heap.size)(ac:cs[6]?=σ v)(e:ai T w I)(f:∀r,r<w.heap.size->T r->A9 3 r)(z:bB (λr=>A9 3 r\/w.heap.size<=r) aL I [v] (u'.ho.map jI))(C:u'.zero=u.zero)(E:u'.d9=u.d9)(F:u'.dC=u.dC):∃cD,cm I af ag av A R cD aL n s u' t h cs/\∀q r,cD q r->(∃G,A9 G r)\/w.heap.size<=r:=by
 have H:=bI.lz p.doc (zb e) (λr a=>.inl (f r a.2 a.1)) z (λj r J a=>?_) (λr a=>?_)
 .have x:=zc (w:=w) (A9:=A9) (q:=3) (B:=λr=>A9 3 r\/w.heap.size<=r) λr h=>h;refine⟨_,p.row e f ?_ x,x⟩;have:=bI.sf ac H;unfold gQ;rw[C,E,F];exact this
 .rcases a with a|a
  .exact p.iv.1 3 j r (Ne.symm J) a
  .exact λh=>by have:=y j r h;omega
 .rcases a with a|a
  .exact p.iv.2 3 r a
  .exact λh=>by have:=(p.read r h).2.1;omega
end
theorem Sv{m:Int}{w:Int}(ac:0<=v)(hw:0<=w):dropped (((m.toNat ||| 2 ^ v.toNat:Nat):Int)) w=(dropped m w||decide (w=v)):=by
 unfold dropped;rw[u7,Nat.testBit_or,Nat.testBit_two_pow];congr 1;exact decide_eq_decide.2 ⟨λh=>Ω,λh=>Ω⟩
theorem zd{x:bp}(ac:0<=v):az {x with mask:=((x.mask.toNat ||| 2 ^ v.toNat:Nat):Int)}=(az x).filter λy=>!decide (y=v):=by
 unfold az;rw[List.filter_filter];refine List.filter_congr λy a=>?_;obtain⟨q,_,rfl⟩:=l9.1 a;rw[Sv ac Ω];cases dropped x.mask (q:Int)<;>simp
section
variable{w0 w I:x5}{af ag av ga:Nat}{A R:ak}{A9:Nat->ak}{aL:ak}{n:aJ}{s u u':am}{t:aD}{h:List aD}{cs:List x4}{aY aZ ne v:x4}{Q:x4->x5->Prop}
theorem cm.qd{T:ak}(p:cm w af ag av A R A9 aL n s u t h cs)(z:∀q r,A9 q r->r<w.heap.size)(ac:cs[3]?=σ v)(e:ai T w I)(f:∀r,r<w.heap.size->T r->A9 0 r)(C:bB (λr=>A9 0 r\/w.heap.size<=r) aL I [v] (u'.d9.map az))(E:u'.zero=u.zero)(F:u'.d9.map (·.un)=u.d9.map (·.un))(G:(u'.d9.map λx=>decide (x.gone≠0))=u.d9.map λx=>decide (x.gone≠0))(H:u'.ho=u.ho)(J:u'.dC=u.dC):
  ∃cD,cm I af ag av A R cD aL n s u' t h cs/\∀q r,cD q r->(∃K,A9 K r)\/w.heap.size<=r:=by
 have L:=bI.y9 p.doc (zb e) (λr a=>.inl (f r a.2 a.1)) C (λj r M a=>?_) (λr a=>?_)
 .have y:=zc (w:=w) (B:=λr=>A9 0 r\/w.heap.size<=r) λr h=>h;refine⟨_,p.row e f ?_ y,y⟩;have:=bI.sf ac L;unfold gQ;rw[E,F,G,H,J];exact this
 .rcases a with a|a
  .exact p.iv.1 0 j r (Ne.symm M) a
  .exact λh=>by have:=z j r h;omega
 .rcases a with a|a
  .exact p.iv.2 0 r a
  .exact λh=>by have:=(p.read r h).2.1;omega
end
section
variable{w0 w I:x5}{af ag av ga:Nat}{A R:ak}{A9:Nat->ak}{aL:ak}{n:aJ}{s u u':am}{t:aD}{h:List aD}{cs:List x4}{aY aZ ne v:x4}{Q:x4->x5->Prop}
theorem Sw{F:ak}{c:List x4}{f:bL}(h:bB (α:=kb) F R w c (jI f))(C:∀r,F r->¬R r):∃aZ hv bf e,c=[aZ,hv,bf,.bool (decide (f.live≠0))]/\bB e R w [bf] f.cs/\(∀r,e r->F r)/\
  ∀{I:x5}{bK:Λ},ai e w I->bB e R I [bf] bK->bB (α:=kb) F R I c (jI {f with cs:=bK}):=by
 obtain⟨aa,ac,A,B,rfl,E,O,P,h1,q⟩:=h;obtain⟨Q,ad,aS,S,rfl,T,G,H,J,U⟩:=h1;obtain⟨V,W,X,s,rfl,Y,x,K,L,M⟩:=U;have q:=q;subst q;obtain⟨y,rfl⟩:=W3.1 (show Q.length=1 from aw.len J);obtain⟨j,rfl⟩:=W3.1 (show V.length=1 from aw.len L);obtain⟨v3,rfl⟩:=W3.1 (show W.length=1 from aw.len M);have z:∀r,s r->F r:=λr h=>E r (G r (x r h));refine⟨y,j,v3,s,rfl,M,z,λ{I bK}N aC=>?_⟩;refine⟨[y,j,v3],[.bool (decide (f.live≠0))],A,B,rfl,E,O,P,⟨[y],[j,v3],aS,S,rfl,T,G,H,aw.ab J N λr Z a he=>?_,[j],[v3],X,s,rfl,Y,x,K,aw.ab L N λr Z a he=>?_,aC⟩,rfl⟩
 .exact a.elim (λa=>H rfl r a (x r he)) (C r (z r he))
 .exact a.elim (λa=>K rfl r a he) (C r (z r he))
end
theorem Sx{cs:Λ}{hv bf bC:x4}(h1:aQ .i64 w aZ sc)(C:aQ .i64 w hv (b5 d6 sc))(E:aQ .i64 w bf cs)(h:gq d6 k (sc,cs))(r:∀z∈d6,1<=z/\z<=32)(K:aQ .i64 w bC a)(ac:∀v∈sc,∃x,a[v.toNat]?=σ x/\0<=x/\x<d6.getD v.toNat 0):
  aq x8 IT [.agg #[aZ,hv,bf],bC] w λv I=>v=Δ (bu (b5 d6 sc) cs (kw a sc))/\Ext w I:=by
 have s:dS (b5 d6 sc):=pT r λv ac=>⟨(h.scope.1 v ac).1,h.d9 v ac⟩;have Z:sc.length<=6:=h.scope.2;refine aE func32 ?_;refine bn λL U ab j f=>?_;have f:aj U L ba [aZ,hv,bf]:=by
  obtain⟨_,_,_,M⟩:=df h1;obtain⟨_,_,_,N⟩:=df C;obtain⟨_,_,_,O⟩:=df E;rw[M,N,O]at f ⊢;exact f
 rw[aN ba.p 0 f rfl,a8 au.u (h1.W j)];have ad:(kw a sc).length=sc.length:=by unfold kw;rw[r9]
 have ae:(b5 d6 sc).length=sc.length:=by unfold b5;rw[r9]
 refine ce.range sc.length (λi P aa=>Ext U aa/\∃m:Int,P=Δ m/\cj ((b5 d6 sc).take i) ((kw a sc).take i) 0=σ m) h1.le ⟨Ext.refl _,0,rfl,rfl⟩ ?_ ?_
 .rintro i _ aa Q hi ⟨e,m,rfl,hm⟩ R;obtain⟨v,q⟩:=aI (l:=sc) hi;obtain⟨x,G,S,V⟩:=ac v (x7 q);have af:=h.scope.1 v (x7 q);have A:(b5 d6 sc)[i]?=σ (d6.getD v.toNat 0):=by unfold b5;rw[u4,q];rfl
  have W:(kw a sc)[i]?=σ x:=by unfold kw;rw[u4,q,Y7,r8,G];rfl
  have ag:=s _ (x7 A);have H:∀z∈(b5 d6 sc).take i,1<=z/\z<=32:=λz r=>s z (R2 r);have X:=mF H hm;have ah:=prod_bound (l:=(b5 d6 sc).take i) ⟨by rw[Z3];omega,H⟩;refine bF Ω ?_;rw[bk au.u al.i Ψ (h1.W (j.F e)) q];intro ai B _ _;have J:=(j.F e).F B;have ak:0<=m*d6.getD v.toNat 0/\m*d6.getD v.toNat 0<=1073741824*32:=⟨Int.mul_nonneg Ω Ω,Int.mul_le_mul Ω Ω Ω Ω⟩;rw[aN ba.p 1 (f.W (e.F B)) rfl,bk au.u al.i Ψ (C.W J) A,fQ,lm Ω Ω,ft (y:=v) (i:=v.toNat) Ω au.u al.i Ψ (K.W J) G,aR,lm Ω Ω,aR];refine R _ _ ⟨e.F B,_,rfl,?_⟩;rw[u9,u9,A,W,j4,j4,Fz (by rw[Z3,Z3];omega),hm];simp only[Option.bind_some];rw[m3 ⟨S,V⟩]
 .rintro _ aa Q ⟨e,m,rfl,hm⟩;rw[j9 Ω,j9 Ω]at hm;have X:=mF s hm;have am:cs.length=(aX (b5 d6 sc)).toNat:=h.len;refine b4 Ω ?_;have Y:cs[m.toNat]?=σ (cs.getD m.toNat 0):=by rw[r8,v8 Ω];rfl
  rw[aN ba.p 2 (f.W e) rfl,ft (y:=m) (i:=m.toNat) Ω aB.u ay.i Ψ (E.W (j.F e)) Y];refine⟨?_,j.F e⟩;unfold bu;rw[hm]
theorem F4{bC:x4}{s:am}(h:e3 w sv k d6 s)(E:bd k d6 s)(bh:bV s)(W:ig s a)(ax:aQ .i64 w bC a):aq x8 IE [sv,bC] w λv I=>v=Δ (eK k s a)/\Ext w I:=by
 have b6:=E.d9;have hk:=E.ep;refine aE func9 ?_;refine bn λg1 U b7 O H=>?_;obtain⟨hv,b8,b9,cc,cd,cf,H,cg,_,bi,bj,bl,X,_⟩:=h.box O H;have Y:=ax.W O;have ch:=W.1;rw[aN aK.p 2 H rfl,a8 au.u Y];obtain⟨A,P⟩:∃A,A=s.d9.zip a:=⟨_,rfl⟩;have ci:A.length=a.length:=by rw[P,List.length_zip];omega
 refine kE.range a.length (λi _ G aa=>Ext U aa/\∃e:Int,G=Δ e/\e=(A.take i).foldl (mZ k) s.zero/\(0<=e/\e<=k)/\(A.take i).all gu=s2) ax.le
  ⟨Ext.refl _,s.zero,rfl,rfl,E.zero,rfl⟩ ?_ ?_
 .rintro i t4 _ aa bm hi ⟨B,e,rfl,Q,Z,R⟩ bo;obtain⟨x,C⟩:=aI (l:=s.d9) (i:=i) Ω;obtain⟨v,ac⟩:=aI (l:=a) hi;obtain⟨z,J⟩:=aI (l:=d6) (i:=i) Ω;obtain⟨ck,bp,_⟩:=E.var i x z C J;have aC:A[i]?=σ (x,v):=by rw[P,List.getElem?_zip_eq_some];exact⟨C,ac⟩
  have aD:A.take (i+1)=A.take i++[(x,v)]:=by rw[u9,aC];rfl
  have K:(A.take (i+1)).foldl (mZ k) s.zero=mZ k e (x,v):=by rw[aD,List.foldl_append,<-Q];rfl
  have aF:(A.take (i+1)).all gu=gu (x,v):=by rw[aD,List.all_append,R];simp
  have br:(s.d9.map λx=>decide (x.gone≠0))[i]?=σ (decide (x.gone≠0)):=by rw[u4,C];rfl
  refine bF Ω ?_;refine iX (λ_ G aH=>Ext U aH/\∃e:Int,G=Δ e/\e=(A.take (i+1)).foldl (mZ k) s.zero/\(0<=e/\e<=k)/\(A.take (i+1)).all gu=s2) ?_ ?_
  .rintro t4 G aH ab;rw[aR];exact bo _ _ _ ab
  intro aA L;have ad:=H.W B;rw[bk au.u al.i Ψ (Y.W B) ac,aN aK.p 4 ad rfl];refine fF (α:=Bool) rfl rfl jo.u ee.i Ψ (bq bj B) br λbs bt=>?_;obtain rfl:bs= .bool (decide (x.gone≠0)):=(List.cons.inj bt).1;rw[ao];refine⟨λaJ=>L _ _ _ ⟨B,e,rfl,?_,Z,?_⟩,λae=>?_⟩
  .rw[K];unfold mZ;rw[m3 aJ]
  .rw[aF];unfold gu;rw[ms aJ,Bool.true_or]
  have bw:0<=v/\v<x.un.length:=(W.2 i x v C ac).resolve_left ae;rw[aN aK.p 3 ad rfl];refine fF (α:=Λ) (a:=az x) rfl rfl ca.u au.i Ψ (bq bi B) (by rw[u4,C];rfl) λcl bx=>?_;refine(vB (v:=v) (c3 bx)).Y ?_;rintro _ cm _ ⟨rfl,aL⟩;have aM:=B.F aL;have aO:=FA bw;rw[bN,cb];refine⟨λaf=>?_,λaf=>?_⟩
  .have bz:v∉az x:=by simpa using af
   rw[aN aK.p 0 (ad.W aL) rfl];refine⟨?_,O.F aM⟩;unfold eK;rw[<-P,m5];intro bA;have:=List.all_eq_true.1 bA (x,v) (x7 aC);unfold gu at this;rw[rc ae,Bool.false_or]at this;exact bz (aO.2 (by simpa using this))
  have bB:dropped x.mask v=sp:=aO.1 (by simpa using af);intro cn bD _ _;have ag:=aM.F bD;have aP:=H.W ag;have aS:x.un[v.toNat]?=σ (x.un.getD v.toNat 0):=by rw[r8,v8 (show v.toNat<x.un.length by omega)];rfl
  have cp:=bp _ (x7 aS);rw[aN aK.p 5 aP rfl];refine fF (α:=Λ) (a:=x.un) rfl rfl c0.u aB.i Ψ (bq bl ag) (by rw[u4,C];rfl) λcq bG=>?_;rw[ft (y:=v) (i:=v.toNat) Ω aB.u ay.i Ψ (c3 bG) aS,aN aK.p 0 aP rfl];refine(mQ Ω Ω).Y ?_;rintro _ ct _ ⟨rfl,bI⟩;refine L _ _ _ ⟨ag.F bI,_,rfl,?_,⟨Ω,Ω⟩,?_⟩
  .rw[K];unfold mZ;rw[m5 ae]
  .rw[aF];unfold gu;rw[bB];simp
 rintro t4 _ aa bm ⟨B,e,rfl,Q,Z,R⟩;rw[j9 Ω]at Q R;have bJ:eK k s a=s.ho.foldl (l6 k a) e:=by
  unfold eK;rw[<-P,R,m3 rfl,<-Q]
 refine b4 Ω ?_;rw[aN aK.p 6 (H.W B) rfl,fE c7.u (bq X B),r9];have aT:=oy X;rw[r9]at aT;refine ce.range s.ho.length (λj G M=>Ext U M/\∃r:Int,G=Δ r/\r=(s.ho.take j).foldl (l6 k a) e/\0<=r/\r<=k) aT
  ⟨B,e,rfl,rfl,Z⟩ ?_ ?_
 rotate_left
 .rintro _ M bK ⟨N,r,rfl,S,_⟩;rw[j9 Ω]at S;rw[aW,ao];exact⟨λh=>Ω,λ_=>⟨by rw[bJ,S],O.F N⟩⟩
 rintro j _ M bK cu ⟨N,r,rfl,S,bL⟩ bM;obtain⟨f,ah⟩:=aI (l:=s.ho) (i:=j) Ω;obtain⟨V,aU,cw⟩:=E.ho f (x7 ah);have K:(s.ho.take (j+1)).foldl (l6 k a) e=l6 k a r f:=by
  rw[u9,ah,j4,List.foldl_append,<-S];rfl
 refine bF Ω ?_;refine a6 (λG aV=>Ext U aV/\∃r:Int,G=Δ r/\r=(s.ho.take (j+1)).foldl (l6 k a) e/\0<=r/\r<=k) ?_ ?_
 .rintro G aV ab;rw[aR];exact bM _ _ ab
 intro aA L;refine lV cr.p rfl c7.u cr.i (bq X N) (by rw[u4,ah];rfl) λcz aX=>?_;have bO:=aw.one aX;obtain⟨aZ,ai,bf,rfl,bP,bQ,bR⟩:=me aX;refine bE cr.i λaY cA cB bS bT=>?_;refine b3 (vs:=[aZ,ai,bf,.bool (decide (f.live≠0))]) cr.i rfl rfl bO bT λbU bW cC a2=>?_;have a7:Ext M bU:=bS.put bW Ω;rw[a1 cr.p rfl,aG (v:=.bool (decide (f.live≠0))) Ψ (a2.cell (o:=0+3) rfl),ao];refine⟨λbb=>?_,λbX=>L _ _ ⟨N.F a7,r,rfl,by rw[K];unfold l6;rw[m5 bX],bL⟩⟩;intro aj bc _ _;have be:=a7.F bc;have ak:=N.F be;have bY:=H.W ak;have ap:=a2.W bc;have bZ:aj.rangeAt aY 0 [aZ,ai,bf]:=λq v ac=>by
  match q,ac with
  |0,ac=>cases ac;exact ap.cell rfl
  |1,ac=>cases ac;exact ap.cell rfl
  |2,ac=>cases ac;exact ap.cell rfl
 rw[a1 cr.p rfl,bH ba.p ba.i rfl (show aj.rangeAt aY (0+0) [aZ,ai,bf]from bZ),aN aK.p 0 bY rfl];have av:∀{v:x4}{l:Λ},Seen eW M [v] l->aQ .i64 aj v l:=λh=>(c3 h).W be;refine(Sx (a:=a) (av bP) (aU▸av bQ) (av bR) V E.eZ.2.2 (Y.W ak) λv ac=>?_).Y ?_
 .have cD:=V.scope.1 v ac;have cE:=V.d9 v ac;obtain⟨x,C⟩:=aI (l:=s.d9) (i:=v.toNat) Ω;obtain⟨u,hu⟩:=aI (l:=a) (i:=v.toNat) Ω;obtain⟨z,J⟩:=aI (l:=d6) (i:=v.toNat) Ω;have cF:=(E.var _ x z C J).1;have cG:=E.eZ.2.2 z (x7 J);have b0:=bh f (x7 ah) bb v ac x C;have b1:=(W.2 _ x u C hu).resolve_left λh=>h b0;refine⟨u,hu,b1.1,?_⟩;rw[r8,J,Option.getD_some];omega
 rintro _ cH _ ⟨rfl,bg⟩;refine⟨.inl bg,?_⟩;rw[<-aU];have cI:0<=bu f.an f.cs (kw a f.sc)/\bu f.an f.cs (kw a f.sc)<=k:=by
  unfold bu;cases hi:cj f.an (kw a f.sc) 0 with
  |none=>simp only;omega
  |some m=>
   simp only;obtain⟨b2,cJ,_⟩:=vy E (x7 ah);have cK:=mF b2.2 hi;rw[r8,v8 Ω,Option.getD_some];exact V.jf _ (S2 _)
 refine(mQ Ω Ω).Y ?_;rintro _ cL _ ⟨rfl,b5⟩;refine L _ _ ⟨(ak.F bg).F b5,_,rfl,?_,Ω,Ω⟩;rw[K];unfold l6;rw[m3 bb]
theorem Sy{bv:x4}{lu:Λ}(V:aQ .i64 w aZ sc)(C:aQ .i64 w bv lu)(h1:sc.length<=1000000)(O:lu.length<=1000000):
  aq x8 IV [.agg #[Δ v,aZ,bv]] w λr I=>Ext w I/\∃E G g1 H,r= .agg #[Δ v,E,G]/\w.heap.size<=g1/\w.heap.size<=H/\aH .i64 al I g1 E sc/\aH .i64 al I H G lu:=by
 refine aE func39 ?_;refine bn λge U ac J K=>?_;have P:aj U ge fe [Δ v,aZ,bv]:=by
  obtain⟨_,_,_,q⟩:=df V;obtain⟨_,_,_,Q⟩:=df C;rw[q,Q]at K ⊢;exact K
 refine bE fe.i λgr aa ad L M=>?_;intro ae s _ _;have N:=L.F s;have e:=J.F N;have x:=P.W N;rw[aN fe.p 0 x rfl,aN fe.p 1 x rfl,aN fe.p 2 x rfl];refine(lf (V.W e) h1).Y ?_;rintro y af _ ⟨a,R,ag,f⟩;refine⟨.inl a,?_⟩;refine(lf ((C.W e).W a) O).Y ?_;rintro z ah _ ⟨h,S,ai,j⟩;refine⟨.inl (a.F h),?_⟩;have z3:=e.size;have z4:=a.size;have W:=f.W h;rw[ds (cs:=#[Δ v,y,z]) (by obtain⟨_,_,_,rfl⟩:=df f.ls;obtain⟨_,_,_,rfl⟩:=df j.ls;kernel_rfl)];have X:=((M.W s).W a).W h;have ak:=L.size;have am:=M.lt;have an:=s.size;refine b3 (vs:=[Δ v,y,z]) fe.i rfl rfl ?_ X λY A ao Z=>?_
 .intro u hu;simp at hu;rcases hu with rfl|rfl|rfl
  .rfl
  .exact f.ls.cells.2
  .exact j.ls.cells.2
 rw[fu fe.p fe.i rfl Z.range];have ap:=J.size;have ab:Ext w Y:=((e.F a).F h).put A Ω;refine⟨ab,y,z,R,S,rfl,Ω,Ω,bG W A λr B he=>?_,bG j A λr B he=>?_⟩
 .have he:r=gr:=he;obtain⟨q,_⟩:=cd f B;omega
 .have he:r=gr:=he;obtain⟨q,_⟩:=cd j B;omega
section
variable{w:x5}{af ag:Nat}{A R:ak}{n:aJ}{s:am}{t:aD}
end
theorem bV.d9{s:am}{i:Nat}{x y:bp}(h:bV s)(J:s.d9[i]?=σ x)(q:y.gone=x.gone):bV {s with d9:=s.d9.set i y}:=λf ah j v ac z a=>by
 have a:(s.d9.set i y)[v.toNat]?=σ z:=a;rw[X7]at a;split at a
 .rename_i e;split at a
  .cases a;subst e;rw[q];exact h f ah j v ac x J
  .cases a
 .exact h f ah j v ac z a
theorem bV.ho{s:am}{f g:bL}(h:bV s)(ah:s.ho[j]?=σ f)(V:g.sc=f.sc)(q:g.live≠0->f.live≠0):bV {s with ho:=s.ho.set j g}:=λx J a v ac z e=>by
 rcases U5 J with J|rfl
 .exact h x J a v ac z e
 .exact h f (x7 ah) (q a) v (by grind) z e
structure fL where
 kind:Nat
 i:Int
 pos:Int
 v:Int
 c:Int
def dH(s:am)(i v:Int):Option bp:=if 0<=i then match s.d9[i.toNat]? with
 |some x=>if x.gone=0/\v∈az x then σ x else ν
 |none=>ν else ν
def dx(s:am)(j pos v:Int):Option (bL×Int×bp):=if 0<=j/\0<=pos then match s.ho[j.toNat]? with
 |some f=>if f.live≠0 then match f.sc[pos.toNat]? with
  |some u=>(dH s u v).map λx=>(f,u,x)
  |none=>ν
  else ν
 |none=>ν else ν
def eM(k:Int)(s:am)(f:bL)(pos:Nat)(v:Int):Int:=((bW s f.sc pos v).map (bu f.an f.cs)).foldl min k
def dI(k c most:Int):Int:=if¬(0<=c/\c<=k)then 3 else if most<c then 7 else 0
def jl(x:bp):Int:=match(az x).map λv=>x.un.getD v.toNat 0 with
 |[]=>-1
 |c::l=>l.foldl min c
def ij(s:am)(i:Nat)(v:Int):Λ->am
 |[]=>s
 |w::L=>ij (if w≠v then eb s i w.toNat else s) i v L
def bh(k:Int)(s:am)(a:fL):am×Int:=
 if a.kind=0 then match dx s a.i a.pos a.v with
  |none=>(s,1)
  |some (f,u,x)=>if dI k a.c (eM k s f a.pos.toNat a.v)≠0 then(s,dI k a.c (eM k s f a.pos.toNat a.v))else(fA s a.i.toNat f a.pos.toNat u.toNat x a.v (λg=>cK k g a.c) λg=>b6 k g a.c,0)
 else if a.kind=1 then match dx s a.i a.pos a.v with
  |none=>(s,1)
  |some (f,u,x)=>if dI k a.c (x.un.getD a.v.toNat 0)≠0 then(s,dI k a.c (x.un.getD a.v.toNat 0))else(fA s a.i.toNat f a.pos.toNat u.toNat x a.v (λg=>b6 k g a.c) λg=>cK k g a.c,0)
 else if a.kind=2 then match(if 0<=a.i then s.d9[a.i.toNat]? else ν)with
  |none=>(s,1)
  |some x=>if x.gone≠0 then(s,1)else if dI k a.c (jl x)≠0 then(s,dI k a.c (jl x))else(iT s a.i.toNat x (λg=>cK k g a.c) λg=>b6 k g a.c,0)
 else if a.kind=3 then match(if 0<=a.i then s.d9[a.i.toNat]? else ν)with
  |none=>(s,1)
  |some x=>if x.gone≠0 then(s,1)else if dI k a.c (if az x=[]then-1 else s.zero)≠0 then(s,dI k a.c (if az x=[]then-1 else s.zero))else(iT s a.i.toNat x (λg=>b6 k g a.c) λg=>cK k g a.c,0)
 else if a.kind=4 then match dH s a.i a.v with
  |none=>(s,1)
  |some x=>if b6 k s.zero (x.un.getD a.v.toNat 0)<k then(s,7)else(eb s a.i.toNat a.v.toNat,0)
 else match dH s a.i a.v with
  |none=>(s,1)
  |some x=>(ij s a.i.toNat a.v (az x),0)
theorem qe:∀(l:Λ)(z c:Int),c<=l.foldl min z↔c<=z/\∀x∈l,c<=x
 :=by
 intro a;induction a<;>grind
theorem nf{most:Int}(h:¬dI k c most≠0):(0<=c/\c<=k)/\c<=most:=by
 grind [dI]
theorem kc{s:am}{i:Int}{x:bp}(h:dH s i v=σ x):0<=i/\s.d9[i.toNat]?=σ x/\x.gone=0/\v∈az x:=by
 grind [dH]
theorem ng{s:am}{j pos u:Int}{f:bL}{x:bp}(h:dx s j pos v=σ (f,u,x)):0<=j/\0<=pos/\s.ho[j.toNat]?=σ f/\f.live≠0/\f.sc[pos.toNat]?=σ u/\dH s u v=σ x:=by
 unfold dx at h;split at h
 .rename_i a;split at h
  .rename_i g e;split at h
   .rename_i q;split at h
    .rename_i w hw;cases ac:dH s w v<;>grind
    .cases h
   .cases h
  .cases h
 .cases h
section
variable{k:Int}{d6 a:Λ}{s:am}
theorem oW{g:Int}(a:0<=g/\g<=k)(e:0<=c/\c<=g):0<=cK k g c/\cK k g c<=k:=by
 grind [cK]
theorem oX{g:Int}(a:0<=g/\g<=k)(e:0<=c):0<=b6 k g c/\b6 k g c<=k:=by
 grind [b6]
theorem ik{u:Nat}{v:Nat}{x:bp}(a:bd k d6 s)(J:s.d9[u]?=σ x):0<=x.un.getD v 0/\x.un.getD v 0<=k:=by
 have hk:=a.ep;have e:=(x6.1 J).1;have f:=a.d9;exact FM Ω (a.var u x _ J (v8 Ω)).2.1
theorem nh{f:bL}(a:bd k d6 s)(ah:f∈s.ho):0<=bu f.an f.cs t/\bu f.an f.cs t<=k:=(vf a.ep λc e=>⟨a.ep,(a.ho f ah).1.jf c e⟩).2
theorem ze{x:bp}(h:v∈az x)(a:c<=jl x):c<=x.un.getD v.toNat 0:=by
 unfold jl at a;have hm:x.un.getD v.toNat 0∈(az x).map λv=>x.un.getD v.toNat 0:=by grind
 grind [qe]
theorem te{i:Nat}{v:Int}{x:bp}:∀(L:Λ)(s:am),bd k d6 s->s.d9[i]?=σ x->(∀w∈L,0<=w/\w<x.un.length)->bd k d6 (ij s i v L)/\(bV s->bV (ij s i v L))/\
  ∀bC,ig s a->x.gone=0->a[i]?=σ bC->eK k (ij s i v L) a=if bC∈L/\bC≠v then k else eK k s a
 |[],s,h,J,_=>⟨h,id,λbC _ _ _=>by rw[m5 Ξ];rfl⟩
 |w::L,s,h,J,A=>by
  unfold ij;by_cases hw:w≠v
  .rw[m3 hw];have B:=A w (.head _);have C:=y8 h J B;have E:=(x6.1 J).1;have F:(eb s i w.toNat).d9[i]?=σ {x with mask:=((x.mask.toNat ||| 2 ^ w.toNat:Nat):Int)}:=by grind [kX]
   obtain⟨h1,r,G⟩:=te L (eb s i w.toNat) C F (by grind);refine⟨h1,λK=>r ?_,λbC j H I=>?_⟩
   .grind [kX,bV.d9]
   .have M:ig (eb s i w.toNat) a:=by
     rw[kX J];refine⟨by show a.length=(s.d9.set _ _).length;rw[Z9];exact j.1,λq y b f z=>?_⟩;have f:(s.d9.set i {x with mask:=((x.mask.toNat ||| 2 ^ w.toNat:Nat):Int)})[q]?=σ y:=f;by_cases e:i=q
     .subst e;rw[Z6 E]at f;cases f;exact j.2 i x b J z
     .rw[Y9 e]at f;exact j.2 q y b f z
    grind [FV]
  .rw[m5 hw];obtain⟨h1,r,G⟩:=te L s h J (by grind);refine⟨h1,r,λbC j H I=>?_⟩
   grind
theorem bV.zero(h:bV s):bV {s with zero:=c}:=h
theorem F6{u:Nat}{f:bL}{x:bp}{tup un:Int->Int}(h:bV s)(ah:s.ho[j]?=σ f)(J:s.d9[u]?=σ x):bV (fA s j f pos u x v tup un):=
 bV.d9 (bV.ho h ah rfl id) J rfl
theorem F7{u:Nat}{x:bp}{g z:Int->Int}(h:bV s)(J:s.d9[u]?=σ x):bV (iT s u x g z):=bV.zero (bV.d9 h J rfl)
def n5(k:Int)(s:am)(m:fL)(s':am)(e:Int)(a:Λ):Prop:=eK k s' a=if 5<=m.kind/\e=0/\a[m.i.toNat]? ≠σ m.v then k else eK k s a
theorem vM{m:fL}(h:bd k d6 s)(B:bV s):bd k d6 (bh k s m).1/\bV (bh k s m).1/\∀a,ig s a->n5 k s m (bh k s m).1 (bh k s m).2 a:=by
 have hk:=h.ep;have Z:∀e:Int,e≠0->bd k d6 s/\bV s/\∀a,ig s a->n5 k s m s e a:=by grind [n5]
 have low:∀{s':am}{e:Int},m.kind<5->bd k d6 s'->bV s'->(∀a,ig s a->eK k s' a=eK k s a)->bd k d6 s'/\bV s'/\∀a,ig s a->n5 k s m s' e a:=by grind [n5]
 unfold bh;split
 .rename_i K;cases ae:dx s m.i m.pos m.v with
  |none=>grind
  |some q=>
   obtain⟨f,u,x⟩:=q;simp only;split
   .grind
   .rename_i he;obtain⟨y,hm⟩:=nf he;simp only;obtain⟨_,_,ah,E,hu,ac⟩:=ng ae;obtain⟨T,J,z,L⟩:=kc ac;have C:=x7 ah;have aa:∀t∈bW s f.sc m.pos.toNat m.v,m.c<=bu f.an f.cs t:=λt A=>((qe _ _ _).1 hm).2 _ (by grind);have M:f.sc[m.pos.toNat]?=σ ((u.toNat:Nat):Int):=by grind
    have A:∀t∈bW s f.sc m.pos.toNat m.v,0<=cK k (bu f.an f.cs t) m.c/\cK k (bu f.an f.cs t) m.c<=k:=λt A=>oW (nh h C) (by grind);have N:=oX (k:=k) (ik (v:=m.v.toNat) h J) y.1;refine low Ω (by grind [FR]) (F6 B ah J) λa j=>FS h j ah E M J L (B f C E) A N λt A r F=>?_;have:=nh (t:=t) h C
    grind [vE,ik]
 split
 .rename_i _ K;cases ae:dx s m.i m.pos m.v with
  |none=>grind
  |some q=>
   obtain⟨f,u,x⟩:=q;simp only;split
   .grind
   .rename_i he;obtain⟨y,hm⟩:=nf he;simp only;obtain⟨_,_,ah,E,hu,ac⟩:=ng ae;obtain⟨T,J,z,L⟩:=kc ac;have C:=x7 ah;have M:f.sc[m.pos.toNat]?=σ ((u.toNat:Nat):Int):=by grind
    have A:∀t∈bW s f.sc m.pos.toNat m.v,0<=b6 k (bu f.an f.cs t) m.c/\b6 k (bu f.an f.cs t) m.c<=k:=λt A=>oX (nh h C) y.1;have N:=oW (k:=k) (ik (v:=m.v.toNat) h J) ⟨y.1,hm⟩;refine low Ω (by grind [FR]) (F6 B ah J) λa j=>FS h j ah E M J L (B f C E) A N λt A r F=>?_;have h1:=nh (t:=t) h C;have P:=ik (v:=m.v.toNat) h J
    grind [vE]
 split
 .rename_i _ _ K;cases ae:(if 0<=m.i then s.d9[m.i.toNat]? else ν)with
  |none=>grind
  |some x=>
   have J:s.d9[m.i.toNat]?=σ x:=by grind
   simp only;split
   .grind
   split
   .grind
   .rename_i z he;obtain⟨y,hm⟩:=nf he;simp only;have U:∀v∈az x,m.c<=x.un.getD v.toNat 0:=λv ac=>ze ac hm;have G:∀v∈az x,0<=cK k (x.un.getD v.toNat 0) m.c/\cK k (x.un.getD v.toNat 0) m.c<=k:=λv ac=>oW (ik h J) (by grind);have H:=oX h.zero y.1;refine low Ω (y6 h J G H) (F7 B J) λa j=>FU h j J (X1.1 z) G H λv ac r F=>?_;exact vE F ⟨U v ac,(ik h J).2⟩ h.zero y.1
 split
 .rename_i _ _ _ K;cases ae:(if 0<=m.i then s.d9[m.i.toNat]? else ν)with
  |none=>grind
  |some x=>
   have J:s.d9[m.i.toNat]?=σ x:=by grind
   simp only;obtain⟨Q,V⟩:∃Q,Q=(if az x=[]then-1 else s.zero):=⟨_,rfl⟩;rw[<-V];split
   .grind
   split
   .grind
   .rename_i z he;obtain⟨y,hm⟩:=nf he;simp only;have R:m.c<=s.zero:=by
     omega
    have G:∀v∈az x,0<=b6 k (x.un.getD v.toNat 0) m.c/\b6 k (x.un.getD v.toNat 0) m.c<=k:=λv ac=>oX (ik h J) y.1;have H:=oW h.zero ⟨y.1,R⟩;refine low Ω (y6 h J G H) (F7 B J) λa j=>FU h j J (X1.1 z) G H λv ac r F=>?_;have:=vE F ⟨R,h.zero.2⟩ (ik (v:=v.toNat) h J) y.1;omega
 split
 .rename_i _ _ _ _ K;cases ae:dH s m.i m.v with
  |none=>grind
  |some x=>
   obtain⟨_,J,z,ac⟩:=kc ae;simp only;split
   .grind
   .rename_i he;have S:=(e2.1 ac).1;simp only;refine low Ω (y8 h J S) (by grind [kX,bV.d9]) λa j=>?_;have W:=(x6.1 J).1;have X:=j.1;obtain⟨bC,I⟩:=aI (l:=a) (i:=m.i.toNat) Ω;rw[FV h j J z S I];split
    .rename_i e;subst e;rw[p9 h];split
     .have Y:(s.d9.zip a)[m.i.toNat]?=σ (x,m.v):=List.getElem?_zip_eq_some.2 ⟨J,I⟩;have h1:=s7 (vF h) (x:=ed (x,m.v)) (by rw[u4,Y];rfl);have P:=s6 _ (s8 (a:=a) h)
      grind [ed,b6]
     .rfl
    .rfl
 .rename_i h1 P ab ad af;cases ae:dH s m.i m.v with
  |none=>grind
  |some x=>
   obtain⟨_,J,z,ac⟩:=kc ae;simp only;have O:∀w∈az x,0<=w/\w<x.un.length:=by grind [e2]
   refine⟨(te (a:=[]) (az x) s h J O).1,(te (a:=[]) (az x) s h J O).2.1 B,λa j=>?_⟩;have W:=(x6.1 J).1;have X:=j.1;obtain⟨bC,I⟩:=aI (l:=a) (i:=m.i.toNat) Ω;unfold n5;rw[(te (az x) s h J O).2.2 bC j z I,I]
   grind [R1]
end
theorem Sz{f:Int->Int}{L:List (Λ)}{cs:Λ}(V:dS an)(j:cs.length<=(bs an).length)(h:∀t∈L,f (bu an cs t)=bu an cs t):er f L an cs=cs:=by
 apply Y3;intro i;cases a:cs[i]? with
 |none=>
  grind [ri]
 |some c=>
  obtain⟨t,e⟩:=aI (l:=bs an) (i:=i) (by grind);rw[rj e a]
  grind [bu,kr]
section
variable{k:Int}{d6:Λ}{s:am}
theorem F8{i:Int}{u:Nat}{x y:bp}{s':am}(J:s.d9[u]?=σ x)(ac:s'.d9=s.d9.set u y)(a:az y=az x):aU s' i=aU s i:=by
 grind [aU]
theorem F9{x:bp}{un:Λ}(h:un.length=x.un.length):az {x with un:=un}=az x:=by
 grind [az]
theorem zf{u:Nat}{f:bL}{x:bp}{tup un:Int->Int}(J:s.d9[u]?=σ x):∀i,aU (fA s j f pos u x v tup un) i=aU s i:=λi=>
 F8 J rfl (by grind [F9])
theorem zg{a:fL}{f:bL}{u:Int}{x:bp}(ae:dx s a.i a.pos a.v=σ (f,u,x)):
  (a.kind=0->(bh k s a).2=0->bh k s a=(fA s a.i.toNat f a.pos.toNat u.toNat x a.v (λg=>cK k g a.c) λg=>b6 k g a.c,0)/\(0<=a.c/\a.c<=k)/\a.c<=eM k s f a.pos.toNat a.v)/\
  (a.kind=0->(0<=a.c/\a.c<=k)->a.c<=eM k s f a.pos.toNat a.v->bh k s a=(fA s a.i.toNat f a.pos.toNat u.toNat x a.v (λg=>cK k g a.c) λg=>b6 k g a.c,0))/\
  (a.kind=1->(bh k s a).2=0->bh k s a=(fA s a.i.toNat f a.pos.toNat u.toNat x a.v (λg=>b6 k g a.c) λg=>cK k g a.c,0)/\(0<=a.c/\a.c<=k)/\a.c<=x.un.getD a.v.toNat 0)/\
  (a.kind=1->(0<=a.c/\a.c<=k)->a.c<=x.un.getD a.v.toNat 0->bh k s a=(fA s a.i.toNat f a.pos.toNat u.toNat x a.v (λg=>b6 k g a.c) λg=>cK k g a.c,0)):=by
 have j:∀{m:Int},(0<=a.c/\a.c<=k)->a.c<=m->dI k a.c m=0:=by grind [dI]
 refine⟨λe he=>?_,λe h1 h=>?_,λe he=>?_,λe h1 h=>?_⟩
 all_goals have:=@nf;grind [bh]
end
section
variable{k:Int}{d6:Λ}{s:am}
theorem oY{f:bL}(a:bd k d6 s)(ah:f∈s.ho)(ac:∀u,f.sc[pos]?=σ u->v∈aU s u)(h:t∈bW s f.sc pos v):∃m:Nat,cj f.an t 0=σ (m:Int):=by
 obtain⟨e,j,_⟩:=a.ho f ah;obtain⟨q,_⟩:=ka a ah;rw[y2 a (λu hu=>⟨(e.scope.1 u hu).1,e.d9 u hu⟩) ac,<-j]at h
 grind [Y8,kr]
theorem room_le{f:bL}:c<=eM k s f pos v↔c<=k/\∀t∈bW s f.sc pos v,c<=bu f.an f.cs t:=by
 grind [eM,qe]
end
theorem SA{x:bp}(f:az x≠[])(h:∀v∈az x,c<=x.un.getD v.toNat 0):c<=jl x:=by
 unfold jl;have a:∀y∈(az x).map λv=>x.un.getD v.toNat 0,c<=y:=by grind
 have e:(az x).map (λv=>x.un.getD v.toNat 0)≠[]:=by grind [List.map_eq_nil_iff]
 generalize (az x).map (λv=>x.un.getD v.toNat 0)=l at a e;cases l with
 |nil=>grind
 |cons b l=>exact(qe l b c).2 ⟨a b (.head _),by grind⟩
section
variable{k:Int}{d6:Λ}{s:am}
theorem Ga{x:bp}{g:Int->Int}{L:Λ}:az {x with un:=eG g x.un L}=az x:=F9 (vI _ _)
theorem SB{a:fL}{x:bp}(f:0<=a.i)(J:s.d9[a.i.toNat]?=σ x)(h:x.gone=0):
  (a.kind=2->(bh k s a).2=0->bh k s a=(iT s a.i.toNat x (λg=>cK k g a.c) λg=>b6 k g a.c,0)/\(0<=a.c/\a.c<=k)/\a.c<=jl x)/\
  (a.kind=2->(0<=a.c/\a.c<=k)->a.c<=jl x->bh k s a=(iT s a.i.toNat x (λg=>cK k g a.c) λg=>b6 k g a.c,0))/\
  (a.kind=3->(bh k s a).2=0->bh k s a=(iT s a.i.toNat x (λg=>b6 k g a.c) λg=>cK k g a.c,0)/\(0<=a.c/\a.c<=k)/\a.c<=(if az x=[]then-1 else s.zero))/\
  (a.kind=3->(0<=a.c/\a.c<=k)->a.c<=(if az x=[]then-1 else s.zero)->bh k s a=(iT s a.i.toNat x (λg=>b6 k g a.c) λg=>cK k g a.c,0)):=by
 have j:∀{m:Int},(0<=a.c/\a.c<=k)->a.c<=m->dI k a.c m=0:=by grind [dI]
 generalize q:(if az x=[]then-1 else s.zero)=r;have ae:(if 0<=a.i then s.d9[a.i.toNat]? else ν)=σ x:=by grind
 refine⟨λhk he=>?_,λhk h1 e=>?_,λhk he=>?_,λhk h1 e=>?_⟩
 all_goals have:=@nf;grind [bh]
end
section
variable{k:Int}{d6:Λ}{s:am}
theorem SC{m:fL}(h:(bh k s m).2≠0):(bh k s m).1=s:=by
 grind [bh]
end
theorem tf{of:Int->Int}(hk:0<=k)(h:∀v∈l,0<=of v/\of v<=k):0<=(cJ k l of).1/\(cJ k l of).1<=k:=by
 unfold cJ;have:∀(l:Λ)(p:Int×Int),(0<=p.1/\p.1<=k)->(∀v∈l,0<=of v/\of v<=k)->0<=(l.foldl (fk of) p).1/\(l.foldl (fk of) p).1<=k:=λl=>by
  induction l with
  |nil=>exact λp ae _=>ae
  |cons v l e=>
   intro p ae a;refine e _ ?_ λu hu=>a u (.tail _ hu);unfold fk;split
   .exact a v (.head _)
   .exact ae
 exact this l (k,-1) ⟨hk,S5 _⟩ h
theorem zh{n:aJ}{s:am}{pos o u:Int}(a:bd n.k n.d6 s):0<=iU n s j pos v o u/\iU n s j pos v o u<=n.k:=by
 have h1:=vD (j:=j) (tl:=if pos=1 then[u,v]else[v,u]) a;have e:=lC (i:=o) (v:=u) a;have hk:=a.ep;unfold iU;omega
section
variable{w:x5}{af ag:Nat}{A R:ak}{n:aJ}{s:am}{t:aD}
end
def simpStep(of:Λ->Int)(p:Int×Option (Λ))(tl:Λ):Int×Option (Λ):=if p.2=ν\/of tl<p.1 then(of tl,σ tl)else p
def gb(k:Int)(of:Λ->Int)(l:List (Λ)):Int×Option (Λ):=l.foldl (simpStep of) (k,ν)
section
variable{w:x5}{af ag:Nat}{A R:ak}{n:aJ}{s:am}{t:aD}
end
def dW(n:aJ)(s:am)(i:Int):Int×Int:=cJ n.k (aU s i) (bQ n s i)
def lD(n:aJ)(s:am)(j:Nat)(f:bL)(p:Nat)(v:Int):Int×Option (Λ):=gb n.k (ec s j) (p7 s f.sc p f.sc.length 0 ((o5 f.sc.length 0).set p v))
def oZ(n:aJ)(s:am)(j:Nat)(f:bL)(v:Int):Int×Int:=cJ n.k (aU s (f.sc.getD 1 0)) (iU n s j 0 v (f.sc.getD 1 0))
theorem SD{s:am}{i:Int}(a:bd k d6 s):(aU s i).length<=32:=by
 unfold aU;split
 .rename_i x J;have f:=(x6.1 J).1;have h:=a.d9;obtain⟨z,e⟩:=aI (l:=d6) (i:=i.toNat) Ω;have h1:=(a.var _ x z J e).1;have j:=a.eZ.2.2 z (x7 e)
  grind [az]
 .simp
section
variable{k:Int}{n:aJ}{s:am}
theorem vN{i:Int}(a:bd n.k n.d6 s)(h:v∈aU s i):0<=v/\v<32:=by
 unfold aU at h;split at h
 .rename_i x J;have f:=(x6.1 J).1;have j:=a.d9;obtain⟨z,e⟩:=aI (l:=n.d6) (i:=i.toNat) Ω;have h1:=(a.var _ x z J e).1;have q:=a.eZ.2.2 z (x7 e);have r:=y0 h;omega
 .cases h
end
theorem zi{of:Int->Int}{c:Int}:∀(l:Λ)(b w:Int),w≠ -1->(∀v∈l,v≠ -1)->(c<=(l.foldl (fk of) (b,w)).1↔c<=b/\∀v∈l,c<=of v)
 |[],b,w,_,_=>Ξ
 |v::l,b,w,hw,a=>by
  rw[List.foldl_cons,List.forall_mem_cons];have ac:=a v (.head _);have e:=λu hu=>a u (.tail _ hu);unfold fk;by_cases h:of v<b
  .rw[m3 (.inr h)];show c<=(l.foldl (fk of) (of v,v)).1↔_;rw[zi l _ _ ac e]
   grind
  .rw[m5 (by rintro (h1|h1)<;>contradiction)];show c<=(l.foldl (fk of) (b,w)).1↔_;rw[zi l _ _ hw e]
   grind
theorem Gb{of:Int->Int}(h:∀v∈l,v≠ -1/\of v<=k):c<=(cJ k l of).1↔c<=k/\∀v∈l,c<=of v:=by
 cases l<;>grind [cJ,fk,zi]
section
variable{n:aJ}{s:am}
theorem SE{i:Int}(a:bd n.k n.d6 s):∀v∈aU s i,v≠ -1/\bQ n s i v<=n.k:=λv ac=>by
 refine⟨?_,(lC a).2⟩;unfold aU at ac;split at ac
 .have:=y0 ac;omega
 .cases ac
theorem Gc{i:Int}(a:bd n.k n.d6 s):0<=(dW n s i).1/\(dW n s i).1<=n.k:=by
 have hk:=a.ep;exact tf Ω λv _=>lC a
theorem Gd{w:Nat}{x:bp}{i u:Int}(a:bd n.k n.d6 s)(J:s.d9[w]?=σ x)(ac:0<=v):u∈aU (eb s w v.toNat) i↔u∈aU s i/\(i.toNat=w->u≠v):=by
 have e:=(x6.1 J).1;have f:=a.d9;have h1:=a.var w x _ J (v8 Ω);have hm:((x.mask.toNat:Nat):Int)=x.mask:=Ω
 unfold aU;rw[kX J]
 grind [e2,y7]
theorem SF{w:Nat}{i u:Int}{x:bp}(J:s.d9[w]?=σ x):bQ n (eb s w v.toNat) i u=bQ n s i u:=by
 unfold bQ fz;rw[kX J]
 grind
end
structure dJ(s s':am):Prop where
 d9:s'.d9.length=s.d9.length
 var:∀(i:Nat)x y,s.d9[i]?=σ x->s'.d9[i]?=σ y->y.gone=x.gone/\y.un.length=x.un.length
 ho:s'.ho.length=s.ho.length
 fn:∀(j:Nat)f g,s.ho[j]?=σ f->s'.ho[j]?=σ g->g.sc=f.sc/\g.an=f.an/\g.live=f.live/\g.cs.length=f.cs.length
 dC:s'.dC=s.dC
theorem dJ.rfl{s:am}:dJ s s:=⟨Eq.refl _,by grind,Eq.refl _,by grind,Eq.refl _⟩
theorem dJ.F{a b c:am}(h:dJ a b)(k:dJ b c):dJ a c:=by
 refine⟨k.d9.F h.d9,λi x z J s=>?_,k.ho.F h.ho,λj f q ah w=>?_,k.dC.F h.dC⟩
 .have A:=(x6.1 J).1;have ac:=h.d9;obtain⟨y,e⟩:=aI (l:=b.d9) (i:=i) Ω;have h1:=h.var i x y J e;have B:=k.var i y z e s;omega
 .have A:=(x6.1 ah).1;have ac:=h.ho;obtain⟨g,r⟩:=aI (l:=b.ho) (i:=j) Ω;have h1:=h.fn j f g ah r;have B:=k.fn j g q r w
  grind
section
variable{k:Int}{d6:Λ}{s:am}
theorem zj{i:Nat}{x y:bp}(J:s.d9[i]?=σ x)(e:y.gone=x.gone)(h:y.un.length=x.un.length):dJ s {s with d9:=s.d9.set i y}:=by
 refine⟨Z9,λj a b q r=>?_,rfl,λj f g h1 w=>?_,rfl⟩
 all_goals grind
theorem SG{f g:bL}(ah:s.ho[j]?=σ f)(h:g.sc=f.sc/\g.an=f.an/\g.live=f.live/\g.cs.length=f.cs.length):dJ s {s with ho:=s.ho.set j g}:=by
 refine⟨rfl,λi a b e r=>?_,Z9,λq a b e r=>?_,rfl⟩
 all_goals grind
theorem SH:dJ s {s with zero:=c}:=⟨rfl,by grind,rfl,by grind,rfl⟩
theorem zk{i:Nat}:dJ s (eb s i v.toNat):=by
 cases J:s.d9[i]? with
 |none=>unfold eb;rw[J];exact .rfl
 |some x=>rw[kX J];grind [zj]
theorem zl{i:Nat}{v:Int}:∀(L:Λ)(s:am),dJ s (ij s i v L)
 |[],_=>.rfl
 |w::L,s=>by
  unfold ij;split
  .exact zk.F (zl L _)
  .exact zl L s
theorem SI{u:Nat}{x:bp}{g z:Int->Int}(J:s.d9[u]?=σ x):dJ s (iT s u x g z):=
 (zj (y:={x with un:=eG g x.un (az x)}) J rfl (vI _ _)).F SH
theorem Ge{u:Nat}{f:bL}{x:bp}{t un:Int->Int}(a:bd k d6 s)(ah:s.ho[j]?=σ f)(J:s.d9[u]?=σ x):dJ s (fA s j f pos u x v t un):=by
 obtain⟨_,e⟩:=ka a (x7 ah);have h1:dJ s (et s j f (er t (bW s f.sc pos v) f.an f.cs)):=SG ah ⟨rfl,rfl,rfl,ri _ _ _ _ Ω⟩;exact h1.F (zj (y:={x with un:=x.un.set v.toNat (un (x.un.getD v.toNat 0))}) J rfl Z9)
theorem vO{m:fL}(e:bd k d6 s):dJ s (bh k s m).1:=by
 by_cases he:(bh k s m).2=0
 .generalize a:bh k s m=r at he ⊢;unfold bh at a;split at a
  .split at a
   .grind
   .rename_i f u x ae;obtain⟨_,_,ah,_,_,ac⟩:=ng ae;obtain⟨_,J,_,_⟩:=kc ac
    grind [Ge]
  split at a
  .split at a
   .grind
   .rename_i f u x ae;obtain⟨_,_,ah,_,_,ac⟩:=ng ae;obtain⟨_,J,_,_⟩:=kc ac
    grind [Ge]
  grind [SI,zk,zl]
 .rw[SC he];exact .rfl
def fc(i v:Int):fL:=⟨4,i,0,v,0⟩
def mf(i c:Int):fL:=⟨2,i,0,0,c⟩
def dy(k:Int)(i:Int):Λ->am×Bool->am×Bool
 |[],p=>p
 |v::L,p=>dy k i L ((bh k p.1 (fc i v)).1,decide ((bh k p.1 (fc i v)).2=0)||p.2)
def fl(n:aJ)(i:Int)(p:am×Bool):am×Bool×Bool:=
 if dw p.1 i.toNat=s2 then(p.1,p.2,sp)else
 let q:=dy n.k i (aU p.1 i) (p.1,sp)
 if(dW n q.1 i).2<0 then(q.1,sp,s2)else
 if 0<(dW n q.1 i).1 then((bh n.k q.1 (mf i (dW n q.1 i).1)).1,s2,sp)else(q.1,q.2||p.2,sp)
def il(n:aJ):List Nat->am×Bool->am×Bool×Bool
 |[],p=>(p.1,p.2,sp)
 |i::L,p=>if(fl n (i:Int) p).2.2=s2 then((fl n (i:Int) p).1,sp,s2)else il n L ((fl n (i:Int) p).1,(fl n (i:Int) p).2.1)
def fM(n:aJ)(s:am):am×Bool×Bool:=il n (X0 n.d6.length) (s,sp)
structure fB(k:Int)(d6:Λ)(s s':am):Prop where
 ok:bd k d6 s'
 gw:bV s'
 same:dJ s s'
 val:∀a,ig s a->eK k s' a=eK k s a
 fm:∀i u,u∈aU s' i->u∈aU s i
 zero:s.zero<=s'.zero
theorem vP{s':am}(h:dJ s s')(e:ig s a):ig s' a:=by
 refine⟨e.1.F h.d9.symm,λi y v f ac=>?_⟩;have j:=(x6.1 f).1;have q:=h.d9;obtain⟨x,J⟩:=aI (l:=s.d9) (i:=i) Ω;have h1:=h.var i x y J f;rw[h1.1,h1.2];exact e.2 i x v J ac
theorem fB.rfl(a:bd k d6 s)(e:bV s):fB k d6 s s:=⟨a,e,.rfl,Ω,λ_ _ h=>h,S5 _⟩
theorem fB.F{a b c:am}(h:fB k d6 a b)(g:fB k d6 b c):fB k d6 a c:=
 ⟨g.ok,g.gw,h.same.F g.same,λx J=>(g.val x (vP h.same J)).F (h.val x J),λi u hu=>h.fm i u (g.fm i u hu),Int.le_trans h.zero g.zero⟩
theorem Gf{m:fL}(e:bd k d6 s)(f:bV s)(hm:m.kind<5)(h:∀i u,u∈aU (bh k s m).1 i->u∈aU s i)(j:s.zero<=(bh k s m).1.zero):fB k d6 s (bh k s m).1:=by
 obtain⟨h1,q,r⟩:=vM (m:=m) e f;refine⟨h1,q,vO e,λa w=>?_,h,j⟩
 grind [n5]
end
def dL{α:Type}(a b:List α)(i:Nat):List α:=a.take i++b.drop i
theorem vQ{α:Type}{a b:List α}(h:a.length=b.length):dL a b b.length=a:=by
 grind [dL]
theorem zm{α:Type}{a b:List α}{i:Nat}(h:a.length=b.length):(dL a b i).length=b.length:=by
 grind [dL]
theorem Gg{α:Type}{a b:List α}{i:Nat}(h:a.length=b.length)(hi:i<b.length):(dL a b i)[i]?=b[i]?:=by
 grind [dL]
theorem vR{α:Type}{a b:List α}{i:Nat}{x:α}(h:a.length=b.length)(J:a[i]?=σ x):(dL a b i).set i x=dL a b (i+1):=by
 have e:=(x6.1 J).1;refine Y3 λj=>?_
 grind [dL]
def dn(a b:am)(m q:Nat):am:=⟨a.zero,dL a.d9 b.d9 m,dL a.ho b.ho q,b.dC⟩
theorem SJ{a b:am}(h:dJ b a):dn a b b.d9.length b.ho.length=a:=by
 unfold dn;rw[vQ h.d9,vQ h.ho,<-h.dC]
theorem SK{x y:bp}(h1:y.gone=x.gone):({({x with mask:=y.mask}:bp)with un:=y.un}:bp)=y:=by
 cases x;cases y
 grind
theorem SL{x y:bp}(h:y.un.length=x.un.length):az {x with mask:=y.mask}=az y:=by
 grind [az]
theorem SM{f g:bL}(h:g.sc=f.sc/\g.an=f.an/\g.live=f.live):({f with cs:=g.cs}:bL)=g:=by
 obtain⟨h1,a,e⟩:=h;cases f;cases g
 grind
def vS(B:Nat)(w:x5)(a:x4)(cs:List x4)(f:cn):Prop:=∃af ag A R t N A9 aL,fG N f/\a=Γ af/\bD w af ag A R (cY f) (dp (cY f)) t/\Plain t/\(∀r,A r->B<=r)/\
 gQ s2 A9 aL w cs (cY f).k (cY f).d6 (dp (cY f))/\(∀q r,A9 q r->¬A r/\¬R r/\B<=r)/\(∀r,aL r->¬eQ w r/\r<w.heap.size/\B<=r)/\∀r,R r->B<=r
def SN(w:x5)(q:Λ)(v:x4)(I:x5):Prop:=Ext w I/\∃a cs ok,v= .tuple #[a,.agg cs.toArray,.bool ok]/\(cs.length=8/\∀u∈cs,u.oneCell'=s2)/\((ok=sp/\a= .pointer ν)\/(ok=s2/\∃f,ix q=σ f/\vS w.heap.size I a cs f))/\∀f,ix q=σ f->nZ f.ho<=16384->ok=s2
theorem SO(V:dS an):(bs an).Nodup:=by
 rw[List.nodup_iff_pairwise_ne,U1];intro i j hi a e he;have h1:=kr V (v8 hi)
 grind [kr]
section
variable{k:Int}{d6:Λ}{s:am}
theorem Gh{f:bL}(a:bd k d6 s)(ah:f∈s.ho)(ac:∀u,f.sc[pos]?=σ u->v∈aU s u):(bW s f.sc pos v).Nodup:=by
 obtain⟨e,h,_⟩:=a.ho f ah;obtain⟨j,_⟩:=ka a ah;rw[y2 a (λu hu=>⟨(e.scope.1 u hu).1,e.d9 u hu⟩) ac,<-h]
 grind [SO]
theorem zn{α:Type}{l:List α}{q:Nat}{a:α}(e:l.Nodup)(h:l[q]?=σ a):a∉l.take q:=λhm=>by
 grind [Y8,List.getElem_inj]
theorem tg{m:Nat}{f:bL}(ah:s.ho[j]?=σ f)(a:f.live≠0)(hi:cj f.an t 0=σ (m:Int)):ec s j t=bu f.an f.cs t/\∃p,iS s j t=σ p:=by
 grind [iS,ec,nc]
theorem Gi{m q:Nat}{f:bL}{g:Int->Int}{L:List (Λ)}(a:bd k d6 s)(ah:s.ho[j]?=σ f)(e:L.Nodup)(h:L[q]?=σ t)(hi:cj f.an t 0=σ (m:Int)):
  bu f.an (er g (L.take q) f.an f.cs) t=bu f.an f.cs t/\lz (et s j f (er g (L.take q) f.an f.cs)) j m (g (bu f.an f.cs t))=et s j f (er g (L.take (q+1)) f.an f.cs):=by
 obtain⟨r,w⟩:=ka a (x7 ah);have x:=zn e h
 grind [lX,u7,bu,RJ,lz,et,u9,List.set_set]
end
section
variable{w:x5}{af ag:Nat}{A R:ak}{n:aJ}{s:am}{t:aD}
theorem zo{i:Int}(h:bD w af ag A R n s t):aq x8 J8 [Γ af,Δ i,Δ v] w λr I=>Ext w I/\r=Δ (if(dH s i v).isSome=s2 then 0 else 1):=by
 have L:=h.2.2.2.1.d9;refine aE func151 ?_;rw[dl ez.u];simp only[b8,bc];refine a6 (λr U=>r= .bool (!(dH s i v).isSome)/\Ext w U) ?_ ?_
 .rintro _ U ⟨rfl,B⟩;rw[cb];exact⟨λf=>⟨B,by rw[m5 (by simpa using f)]⟩,λf=>⟨B,by rw[m3 (by simpa using f)]⟩⟩
 intro aA C;refine(vw h).Y ?_;rintro _ aa _ ⟨rfl,j⟩;rw[cb];refine⟨λa=>C _ _ ⟨?_,j⟩,λa=>?_⟩
 .rw[T8,ro]at a;have q:dH s i v=ν:=by
   unfold dH;rw[m3 a.1];have y:=a.2;unfold dw at y;cases J:s.d9[i.toNat]? with
   |none=>rfl
   |some x=>
    rw[J]at y;simp only;rw[m5 λh=>by simp[h.1]at y]
  rw[q];rfl
 refine(jF (i:=i) (h.W j)).Y ?_;rintro _ M _ ⟨⟨b,m,rfl,z⟩,G⟩;refine(Ft z.1).Y ?_;rintro _ N _ ⟨rfl,H⟩;rw[bN];refine C _ _ ⟨?_,(j.F G).F H⟩;congr 2;by_cases e:0<=i/\i<n.d6.length
 .obtain⟨x,J⟩:=aI (l:=s.d9) (i:=i.toNat) Ω;rw[FG z e.1 J];unfold dH;rw[m3 e.1,J];have K:x.gone=0:=by
   rw[ms e.1,S7]at a;unfold dw at a;rw[J]at a;simpa using a
  simp only;by_cases ac:v∈az x
  .rw[ms ac,m3 ⟨K,ac⟩];rfl
  .rw[rc ac,m5 λh=>ac h.2];rfl
 .obtain⟨rfl,rfl⟩:=z.2.1 e;have q:dH s i v=ν:=by
   unfold dH;by_cases E:0<=i
   .rw[m3 E,W8 Ω]
   .rw[m5 E]
  rw[q,rc Ω];rfl
def SP(s:am)(j pos v:Int)(u e:Int):Prop:=(e=0/\∃f x,dx s j pos v=σ (f,u,x))\/(e=1/\dx s j pos v=ν)
theorem zp{j pos:Int}(h:bD w af ag A R n s t):aq x8 J2 [Γ af,Δ j,Δ pos,Δ v] w λr I=>Ext w I/\∃u e,r= .tuple #[Δ u,Δ e]/\SP s j pos v u e:=by
 refine aE func143 ?_;rw[dl ez.u];simp only[b8,bc];have key:∀(K:x4->x5->Prop),(∀r I,Ext w I->(∀f,0<=j->s.ho[j.toNat]?=σ f->aQ .i64 I r f.sc)->K r I)->aq x8 rP [Γ af,Δ j] w K:=λK V=>by
  by_cases W:0<=j/\j<s.ho.length
  .obtain⟨f,ah⟩:=aI (l:=s.ho) (i:=j.toNat) Ω;have:=md h ah;rw[show((j.toNat:Nat):Int)=j by omega]at this;refine this.Y ?_;rintro r U _ ⟨C,g,_,hm⟩;exact V r U C λH _ X=>by rw[ah]at X;cases X;exact hm.ls
  .refine (FC h W).Y ?_;rintro r U _ ⟨rfl,C⟩;exact V _ U C λf E ah=>m6 ⟨E,by have:=(x6.1 ah).1;omega⟩ W
 refine key _ λr U C Y=>?_;have L:∀{P:Prop},(¬∃f u,0<=j/\0<=pos/\s.ho[j.toNat]?=σ f/\f.live≠0/\f.sc[pos.toNat]?=σ u)->(dx s j pos v=ν->P)->P:=λz am=>am (by
  cases ae:dx s j pos v with
  |none=>rfl
  |some q=>
   obtain⟨f,u,x⟩:=q;obtain⟨M,N,a3,a4,a5,_⟩:=ng ae;exact m6 ⟨f,u,M,N,a3,a4,a5⟩ z)
 refine a6 (λZ aa=>Ext U aa/\((Z= .bool s2/\dx s j pos v=ν)\/(Z= .bool sp/\∃f u,0<=j/\0<=pos/\s.ho[j.toNat]?=σ f/\f.live≠0/\f.sc[pos.toNat]?=σ u))) ?_ ?_
 .rintro _ aa ⟨O,⟨rfl,z⟩|⟨rfl,f,u,E,ab,ah,an,hu⟩⟩
  .rw[bS];exact⟨C.F O,0,1,rfl,.inr ⟨rfl,z⟩⟩
  .rw[bc];intro ap B _ _;have ad:=(Y f E ah).W (O.F B);refine nR Ω au.u al.i ad hu λb o av=>?_;rw[aG Ψ av,ft (y:=pos) (i:=pos.toNat) Ω au.u al.i Ψ ad hu];have ai:=(C.F O).F B;refine(zo (h.W ai)).Y ?_;rintro _ ax _ ⟨aj,rfl⟩;refine⟨.inl aj,ai.F aj,u,_,rfl,?_⟩;have ae:dx s j pos v=(dH s u v).map λx=>(f,u,x):=by
    unfold dx;rw[m3 ⟨E,ab⟩,ah];simp only;rw[m3 an,hu]
   cases ac:dH s u v with
   |none=>exact .inr ⟨rfl,by rw[ae,ac];rfl⟩
   |some x=>exact .inl ⟨rfl,f,x,by rw[ae,ac];rfl⟩
 intro aA J;refine(sZ (h.W C)).Y ?_;rintro _ ap _ ⟨rfl,B⟩;have same:∀{f H:bL},s.ho[j.toNat]?=σ f->s.ho[j.toNat]?=σ H->H=f:=λa b=>by rw[a]at b;exact(Z5 b).symm
 rw[bN,cb];refine⟨λQ=>L (λ⟨f,u,M,N,a3,a4,a5⟩=>?_) λz=>J _ _ ⟨B,.inl ⟨rfl,z⟩⟩,λS=>?_⟩
 .unfold e1 at Q;rw[a3]at Q;simp[M,a4]at Q
 have S:0<=j/\e1 s j.toNat=s2:=by simpa using S
 obtain⟨E,G⟩:=S;obtain⟨f,ah,aw⟩:∃f,s.ho[j.toNat]?=σ f/\f.live≠0:=by
  unfold e1 at G;cases ah:s.ho[j.toNat]? with
  |none=>rw[ah]at G;cases G
  |some f=>rw[ah]at G;exact⟨f,rfl,by simpa using G⟩
 rw[aW,ao];refine⟨λay=>L (λ⟨_,_,_,N,_⟩=>Ω) λz=>J _ _ ⟨B,.inl ⟨rfl,z⟩⟩,λab=>?_⟩;rw[a8 au.u ((Y f E ah).W B),cT];by_cases ak:(f.sc.length:Int)<=pos
 .refine L (λ⟨H,u,_,_,a3,_,a5⟩=>?_) λz=>J _ _ ⟨B,.inl ⟨by rw[ms ak],z⟩⟩;obtain rfl:=same ah a3;have:=(x6.1 a5).1;omega
 .obtain⟨u,hu⟩:=aI (l:=f.sc) (i:=pos.toNat) Ω;exact J _ _ ⟨B,.inr ⟨by rw[rc ak],f,u,E,Ω,ah,aw,hu⟩⟩
theorem vT{most:Int}(h:bD w af ag A R n s t):aq x8 J3 [Γ af,Δ c,Δ most] w λr I=>Ext w I/\r=Δ (dI n.k c most):=by
 refine aE func144 ?_;refine(n2 h).Y ?_;rintro _ U _ ⟨rfl,a⟩;refine ld.Y ?_;rintro _ aa _ ⟨rfl,e⟩;have hi:cE c n.k↔0<=c/\c<=n.k:=⟨λh=>h.2,λj=>⟨h.2.2.2.1.ep,j⟩⟩;unfold dI;rw[bN,cb];refine⟨λf=>⟨a.F e,?_⟩,λf=>?_⟩
 .have:¬cE c n.k:=by simpa using f
  rw[m3 λh=>this (hi.2 h)]
 .have:cE c n.k:=by simpa using f
  rw[m5 λh=>h (hi.1 this),bU,ao];exact⟨λh=>⟨a.F e,by rw[m3 h]⟩,λh=>⟨a.F e,by rw[m5 h]⟩⟩
theorem SQ{a b:Int}(hk:right k)(f:0<=a/\a<=k)(j:0<=b/\b<=k)(x:a=k\/b<=a):aq x8 KT [Δ a,Δ b,Δ k] w λv I=>v= .tuple #[Δ (cK k a b),Δ 0]/\Ext w I:=by
 have y:1<=k/\k<=2147483648:=hk;refine aE func213 ?_;refine a6 (λr U=>r= .bool sp/\Ext w U) ?_ ?_
 .rintro _ U ⟨rfl,e⟩;unfold cK;rw[bc,bm,ao];refine⟨λh=>⟨by rw[m3 h],e⟩,λh=>?_⟩;rw[m5 h,bU,ao];refine⟨λz=>Ω,λ_=>?_⟩;rw[dr,lm Ω Ω];exact⟨rfl,e⟩
 intro aA q;refine ld.Y ?_;rintro _ U _ ⟨rfl,e⟩;rw[ms (show cE a k from⟨hk,f⟩),bN,Y5,bc];refine ld.Y ?_;rintro _ aa _ ⟨rfl,s⟩;rw[ms (show cE b k from⟨hk,j⟩),bN,Y5];exact q _ _ ⟨rfl,e.F s⟩
theorem vU{a:Int}(h:bD w af ag A R n s t)(e:0<=a/\a<=n.k)(f:0<=c/\c<=n.k)(j:a=n.k\/c<=a):aq x8 po [Γ af,Δ a,Δ c] w λr I=>r=Δ (cK n.k a c)/\Ext w I:=by
 refine aE func146 ?_;refine(n2 h).Y ?_;rintro _ U _ ⟨rfl,q⟩;refine(SQ h.2.2.2.1.ep e f j).Y ?_;rintro _ aa _ ⟨rfl,x⟩;rw[bz,bA];exact⟨rfl,q.F x⟩
theorem th{a:Int}(h:bD w af ag A R n s t)(e:0<=a/\a<=n.k)(f:0<=c/\c<=n.k):aq x8 pp [Γ af,Δ a,Δ c] w λr I=>r=Δ (b6 n.k a c)/\Ext w I:=by
 refine aE func147 ?_;refine(n2 h).Y ?_;rintro _ U _ ⟨rfl,j⟩;refine(RC e f h.2.2.2.1.ep).Y ?_;rintro _ aa _ ⟨rfl,q⟩;rw[bz,bA];exact⟨rfl,j.F q⟩
end
theorem SR{g n c:Nat}(a:aj w g cV cs)(h:∀I,ai (λr=>r=g) w I->(∀o vs,w.rangeAt g o vs->I.rangeAt g o vs)->K (.slice (σ ⟨g,0,ν⟩) n c) I):
  aM x8 (convert cW cW (.slice (σ ⟨g,0,ν⟩) n c)) w K:=by
 have f:∀r,(w.freeze ⟨g,cs.length,ν⟩ 1).heap[r]?=if g=r then(w.heap[r]?).map (λ| .cells c q (lo,hi)=>.cells c q (if lo == hi then(cs.length,cs.length+1)else(min lo cs.length,max hi (cs.length+1)))|o=>o)else w.heap[r]?:=λr=>by
  unfold x5.freeze;rw[m5 Φ];exact Array.getElem?_modify
 have A:(w.freeze ⟨g,cs.length,ν⟩ 1).heap.size=w.heap.size:=by
  unfold x5.freeze;rw[m5 Φ];exact Array.size_modify
 have s:w.shape? g=σ (cV,cs.length):=by
  unfold x5.shape?;unfold aj at a;rw[a];simp
 have x:(convert cW cW (.slice (σ ⟨g,0,ν⟩) n c)).run x8 w= .ok (.slice (σ ⟨g,0,ν⟩) n c) (w.freeze ⟨g,cs.length,ν⟩ 1):=by
  simp[convert,run_underlying cW.u,run_underlying cV.u,markStringish,s]
 unfold aj at a;refine .of x ⟨by unfold x5.freeze;rw[m5 Φ],.lK (by unfold x5.freeze;rw[m5 Φ]) (by unfold x5.freeze;rw[m5 Φ]),by unfold x5.freeze;rw[m5 Φ],Ω,λr o e V=>?_⟩ (h _ ⟨Ω,λr o e _ y=>?_⟩ λo vs ac j v z=>?_)
 .rw[f];by_cases he:g=r
  .subst he;rw[a]at e;cases e;cases V
  .rw[m5 he];exact e
 .rw[f,m5 λhe=>y he.symm];exact e
 .have h1:=ac j v z;unfold x5.cell? at h1 ⊢;rw[f,m3 rfl];rw[a]at h1 ⊢;exact h1
def zq(s0 s:am):Prop:=s.zero=s0.zero/\s.ho=s0.ho/\s.d9.length=s0.d9.length/\∀(i:Nat)x,s.d9[i]?=σ x->∃a,s0.d9[i]?=σ a/\x.un=a.un/\x.gone=0/\a.gone=0/\a.mask=0
theorem zq.new(n:aJ):zq (dp n) (dp n):=⟨rfl,rfl,rfl,λi x J=>by
 refine⟨x,J,rfl,?_⟩;have J:(n.unary.map newVar)[i]?=σ x:=J;rw[u4]at J;obtain⟨u,_,rfl⟩:=Y0.1 J;exact⟨rfl,rfl,rfl⟩⟩
theorem Gj(n:aJ):bV (dp n):=λf _ _ v _ x J=>by
 obtain⟨_,_,_,h,_⟩:=(zq.new n).2.2.2 _ x J;exact h
theorem SS{av:Nat}{E:x4}{f:cn}(G:vS B aa E cs f)(J:Ext aa w)(H:aj w av aK cs)(M:aa.heap.size<=av):
  ∃af ag A R A9 aL t,E=Γ af/\cm w af ag av A R A9 aL (cY f) (dp (cY f)) (dp (cY f)) t [] cs/\t.marks=[]/\(∀r,A r->B<=r)/\(∀q r,A9 q r->B<=r)/\t.cells.length<=2000000/\t.olds.length=0/\(cY f).ho.length<=256/\t.kP=0/\(∀r,aL r->B<=r)/\∀r,R r->B<=r:=by
 obtain⟨af,ag,A,R,t,N,A9,aL,x,rfl,y,e,I,K,C,j,L⟩:=G;have F:=n4 y;have z:=J.size;have s:=(vr (DY x).1 (yW x) (cY f).unary.length (cY f).ho.length);rw[yD,<-y.2.1]at s;unfold aD.cg at s;rw[r9]at s;refine⟨af,ag,A,R,λq r=>A9 q r/\r<aa.heap.size,aL,t,rfl,⟨y.W J,e.2.2.1,H,K.old.W J,λq r h=>⟨(C q r h.1).1,(C q r h.1).2.1,by have:=h.2;omega⟩,λr a=>⟨λh=>(j r a).1 (oN (λo aC V _=>J.a7 r o aC V) h),by have:=(j r a).2;omega,by have:=(j r a).2;omega⟩,λh=>by have:=F av (.inl h);omega,λh=>by have:=F av (.inr h);omega⟩,e.1,I,λq r h=>(C q r h.1).2.2,s,by rw[e.2.1];rfl,yW x,e.2.2.2,λr a=>(j r a).2.2,L⟩
section
variable{α:Type}{f:α->List x4}{k:Nat}{e:o4}{w:x5}{g:Nat}{v:x4}{L:List α}
theorem SU{t:o4}{b:Nat}{z:x4}{i:Nat}(s:x8.underlying t=σ (.slice e))(hi:aV x8 e k b z)(h:bo f k e w g v L)(y:i<=L.length):
  ∃j,(∀(I:x5)(K:x4->Prop),ad x8 (V5 t v ν (σ (Δ (i:Int))) ν) I K=K j)/\bo f k e w g j (L.take i)/\∀r,hx j r->hx v r:=by
 obtain⟨⟨J,⟨rfl,A⟩|⟨cap,cs,rfl,B,M,C,E,N⟩⟩,O⟩:=id h
 .have F:=j6 A;subst F;have:i=0:=Ω
  subst this;exact⟨_,λI K=>iI s hi kl py fD Ω Ω Ω,h,λr q=>q⟩
 .have G:(if cap=0 then(σ ⟨g,0,ν⟩:Option Addr)else V8 (λx:Addr=>x.add (0*k)) (σ ⟨g,0,ν⟩))=σ ⟨g,0,ν⟩:=by grind [U8]
  refine⟨.slice (σ ⟨g,0,ν⟩) i cap,λI K=>?_,⟨⟨?_,.inr ⟨cap,cs,by grind,B,by grind,C,E,?_⟩⟩,by grind⟩,λr q=>by obtain⟨a,_,_,e,H⟩:=q;cases e;exact⟨_,_,_,rfl,H⟩⟩
  .rw[iI s hi kl py fD Ω Ω Ω,G,Nat.sub_zero,Nat.sub_zero]
  .grind [j1]
  .rw[Z3,Nat.min_eq_left y];have ah:L.flatMap f=(L.take i).flatMap f++(L.drop i).flatMap f:=by grind [List.take_append_drop]
   have P:((L.take i).flatMap f).length=i*k:=by grind [j1,Z3]
   have:cs.take (i*k)=(cs.take (L.length*k)).take (i*k):=by grind
   grind
end
def SV(s:am):Prop:=∀e∈s.dC,e.sc.length<=1000/\e.lu.length<=1000
section
variable{w I:x5}{af ag av dB:Nat}{A R O M aL:ak}{A9:Nat->ak}{k:Int}{d6:Λ}{V:List am}{n:aJ}{s u:am}{t:aD}{h:List aD}{cs:List x4}
structure Wy(w:x5)(av:Nat)(A R:ak)(A9:Nat->ak)(aL O M:ak):Prop where
 o:∀r,O r->r<w.heap.size/\¬A r/\¬R r/\(∀q,¬A9 q r)/\¬aL r/\r≠av/\¬M r
 m:∀r,M r->r<w.heap.size/\¬A r/\(∀q,¬A9 q r)/\¬aL r/\r≠av
theorem cm.side{S:ak}(p:cm w af ag av A R A9 aL n s u t h cs)(f:ai S w I)(e:∀r,r<w.heap.size->S r->¬A r/\¬R r/\(∀q,¬A9 q r)/\¬aL r/\r≠av):cm I af ag av A R A9 aL n s u t h cs:=by
 have z:=f.size;exact⟨⟨p.dG.1.ab f λr a h V=>h.elim (e r a V).1 (e r a V).2.1,p.dG.2⟩,p.iR,p.box.ab f λV=>(e av p.box.lt V).2.2.2.2 rfl,p.doc.ab f λr a h V=>h.elim (λ⟨q,h⟩=>(e r a V).2.2.1 q h) (e r a V).2.2.2.1,p.apart,
  λr a=>⟨λh=>(p.read r a).1 (oN (λo aC V _=>f.a7 r o aC V λj=>(e r (p.read r a).2.1 j).2.2.2.1 a) h),by have:=(p.read r a).2.1;omega,(p.read r a).2.2⟩,p.out⟩
theorem cm.Gk(p:cm w af ag av A R A9 aL n s u t h cs):∀q r,A9 q r->¬aL r:=by
 obtain⟨_,_,_,_,_,_,_,_,_,_,_,_,_,a⟩:=p.doc;exact(a rfl).2
end
theorem Gl{w0:x5}{out:x4}{g:Nat}{x:Int}(e:Ext w0 w)(hm:aH .i64 al w g out l)(f:∀r,lc out r->w0.heap.size<=r)(G:l.length<=1000000000)(q:∀v I s,Ext w0 I->aH .i64 al I s v (l++[x])->(∀r,lc v r->w0.heap.size<=r)->K v I):
  aM x8 (Y4 au 1 #[(0,Δ x)]) w λy U=>aM x8 (b9 #[au,au] au #[out,y]) U K:=by
 refine e6 au.u al.i rfl λv4 H J L a A=>?_;refine jD au.u al.i rfl (hm.W a) A.ls Θ Θ λv5 B M C E F=>?_;have z:=(e.F a).size;exact q _ _ B ((e.F a).then F λr j he=>by have:=f r he;omega) C λr j=>(E r j).elim (f r) λh=>Ω
theorem rn(x:bp):(az x).length<=x.un.length:=by
 unfold az;have:=List.length_filter_le (λv:Int=>!dropped x.mask v) ((X0 x.un.length).map λv:Nat=>(v:Int));rw[r9,List.length_range]at this;exact this
def Gm(w:x5)(g:Nat)(v:x4)(l:List vm):Prop:=∃E,bo pY 3 fe w g v E/\E.length=l.length/\∀(q:Nat)x e,E[q]?=σ x->l[q]?=σ e->x.v=e.v/\(∃g,aH .i64 al w g x.aZ e.sc)/\∃g,aH .i64 al w g x.bv e.lu
section
variable{w:x5}{af ag:Nat}{A R:ak}{n:aJ}{s:am}{t:aD}
theorem SX(h:bD w af ag A R n s t)(ad:SV s)(aU:s.dC.length<=100000):aq x8 IK [Γ af] w λv I=>Ext w I/\∃g,Gm I g v s.dC/\∀r,hx v r->w.heap.size<=r:=by
 obtain⟨⟨aV,aX,aY,aZ,P⟩,_⟩:=h;obtain⟨_,_,_,_,_,E,_,_,ae,_,_,_,_,M,Q⟩:=id P;have a1:E.length=s.dC.length:=Q.1;refine aE func16 ?_;rw[dl ez.u];simp only[b8,bc];rw[aP cX.p 4 ae rfl,ek pt.u M];refine ce.range E.length (λj out aa=>Ext w aa/\∃g,Gm aa g out (s.dC.take j)/\∀r,hx out r->w.heap.size<=r) Ω ⟨Ext.refl _,0,⟨[],bo.nil _ _ _ _ _,rfl,λq x e h=>by simp at h⟩,λr B=>(gp B).elim⟩ ?_ ?_
 .rintro j out aa ai S ⟨z,g,⟨O,C,U,aj⟩,J⟩ ak;obtain⟨x,V⟩:=aI (l:=E) S;obtain⟨e,N⟩:=aI (l:=s.dC) (i:=j) Ω;obtain⟨a2,a6⟩:=ad e (x7 N);have a8:=P.W z;obtain⟨am,an,ap⟩:=Q.2 j x e V N;have f2:=an.ls.W z;have f3:=ap.ls.W z;refine bF Ω ?_;rw[cu rfl pt.u fe.i (M.W z) S,bH fe.p fe.i rfl ((M.W z).range V)];refine bE fe.i λge ba bb au av=>?_;refine b3 (vs:=pY x) fe.i rfl rfl (by intro u hu;simp[pY]at hu;rcases hu with rfl|rfl|rfl<;>first|rfl|exact f2.cells.2|exact f3.cells.2) av λaw ax bd ay=>?_;have K:Ext aa aw:=au.put ax Ω;rw[bH fe.p fe.i rfl ay.range];refine(Sy (v:=x.v) (f2.W K) (f3.W K) Ω Ω).Y ?_;rintro _ be _ ⟨az,aA,aB,g1,bf,rfl,bg,bh,W,X⟩;let a:re:=⟨x.v,aA,aB⟩;refine jc (f:=pY) (a:=a) pt.u fe.i Ω rfl rfl λbi bj aC bk L aD=>?_;have G:=(K.F az).F L;have bl:=z.size;have bm:=G.size;have bn:=K.size;have bp:=L.size;have Y:(s.dC.take j).length=j:=by rw[Z3];omega
  refine jB (f:=pY) (a:=a) pt.u fe.i rfl (C.W G) (by simpa using aD.sl) (by intro u hu;simp[pY,a]at hu;rcases hu with rfl|rfl|rfl<;>first|rfl|exact W.ls.cells.2|exact X.ls.cells.2) Ω Ω λbq aF Z aG aJ ab=>?_;have br:∀r,hx out r->r=g/\r<aa.heap.size:=λr B=>by obtain⟨ac,bs⟩:=C.lc B;omega
  have aK:Ext w Z:=(z.F G).then ab λr B he=>by have:=J r he;omega
  rw[aR];refine ak _ _ ⟨aK,aF,⟨O++[a],aG,by simp[U,Y];omega,λq y f H ah=>?_⟩,λr B=>(aJ r B).elim (J r) λh=>Ω⟩;have a7:∀{v:x4}{aL:Nat}{l:Λ},aH .i64 al aC aL v l->∃g,aH .i64 al Z g v l:=λhm=>⟨_,bG hm ab λr B he=>by
   obtain⟨ac,c,aM⟩:=dY (C.W G) he;exact cB hm aM Φ B ac⟩
  by_cases aN:q<O.length
  .rw[V6 aN]at H;rw[List.getElem?_take]at ah;split at ah
   .obtain⟨aO,⟨_,aQ⟩,_,aS⟩:=aj q y f H (by rw[List.getElem?_take,m3 Ω];exact ah);exact⟨aO,a7 (aQ.W G),a7 (aS.W G)⟩
   .cases ah
  .have aT:q=O.length:=by have:=(x6.1 H).1;simp at this;omega
   subst aT;rw[X2 (o6 _),V7]at H;rw[U,Y,List.getElem?_take,m3 Ω,N]at ah;cases H;cases ah;exact⟨am,a7 (W.W L),a7 (X.W L)⟩
 .rintro out aa ai ⟨z,g,C,J⟩;rw[aW,ao];refine⟨λh=>Ω,λ_=>⟨z,g,?_,J⟩⟩;rw[j9 Ω]at C;exact C
end
def ni(s:am)(sc t:Λ):Bool:=(sc.zip t).all λp=>match s.d9[p.1.toNat]? with
 |some x=>decide (p.2∈az x)
 |none=>sp
section
variable{w:x5}{af ag:Nat}{A R:ak}{n:aJ}{s:am}{t:aD}
end
theorem Gn{b:Bool}{hv bf:x4}{e f:Λ}(h1:Seen eW w [aZ] a)(h:Seen eW w [hv] e)(j:Seen eW w [bf] f):∀u∈[aZ,hv,bf,.bool b],u.oneCell'=s2:=by
 intro u hu;simp only[List.mem_cons,List.not_mem_nil,or_false]at hu;rcases hu with rfl|rfl|rfl|rfl
 .exact iJ h1
 .exact iJ h
 .exact iJ j
 .rfl
section
variable{w:x5}{af ag:Nat}{A R:ak}{n:aJ}{s:am}{t:aD}{dm:x4}
end
def n7(an t:Λ):Int:=(cj an t 0).getD 0
def kB(s:am)(f:bL)(pos:Nat)(v:Int):Λ:=(bW s f.sc pos v).map (n7 f.an)
def mg(s:am)(sc:Λ)(pos:Nat)(v:Int)(t:Λ):Bool:=decide (t.getD pos 0=v)&&ni s sc t
section
variable{k:Int}{d6:Λ}{s:am}{f:bL}{pos:Nat}{v:Int}
theorem SY:ni s sc t=s2↔ ∀(p:Nat)u w,sc[p]?=σ u->t[p]?=σ w->w∈aU s u:=by
 unfold ni;rw[List.all_eq_true];constructor
 .intro h p u w hu hw;have:=h (u,w) (x7 (List.getElem?_zip_eq_some.2 ⟨hu,hw⟩));unfold aU;cases J:s.d9[u.toNat]? with
  |none=>simp[J]at this
  |some x=>simpa[J]using this
 .rintro h ⟨u,w⟩ hm;obtain⟨p,ae⟩:=Y8.1 hm;obtain⟨h1,a⟩:=List.getElem?_zip_eq_some.1 ae;have:=h p u w h1 a;unfold aU at this;simp only;cases J:s.d9[u.toNat]? with
  |none=>rw[J]at this;cases this
  |some x=>rw[J]at this;simpa using this
theorem SZ(q:bd k d6 s)(ah:f∈s.ho)(A:pos<f.sc.length)(ac:∀u,f.sc[pos]?=σ u->v∈aU s u):bW s f.sc pos v=(bs f.an).filter (mg s f.sc pos v):=by
 obtain⟨r,x,_⟩:=q.ho f ah;have j:=y2 q (λu hu=>⟨(r.scope.1 u hu).1,r.d9 u hu⟩) ac;rw[<-x]at j;have h1:∀t∈bs f.an,(p6 (p8 s pos v f.sc 0) t=s2↔t∈bW s f.sc pos v):=λt a=>by rw[j,S6];exact⟨λh=>⟨a,h⟩,λh=>h.2⟩
 rw[j];refine List.filter_congr λt a=>?_;have B:t.length=f.sc.length:=by rw[ui a,x];simp[b5]
 rw[V9,h1 t a,oU,mg,T8,ro,SY];constructor
 .rintro⟨_,h⟩;obtain⟨u,hu⟩:=aI (l:=f.sc) A;obtain⟨w,hw⟩:=aI (l:=t) (i:=pos) Ω;have y:=h pos u w hu hw;rw[m3 rfl]at y;refine⟨by rw[r8,hw];exact y,λp u' I z C=>?_⟩;have:=h p u' I z C;split at this
  .rename_i e;subst e;rw[this];exact ac u' z
  .exact this
 .rintro⟨h1,E⟩;refine⟨B,λp u w hu hw=>?_⟩;split
  .rename_i e;subst e;rw[r8,hw]at h1;exact h1
  .exact E p u w hu hw
end
section
variable{w:x5}{dm:x4}{k:Int}{d6:Λ}{s:am}
theorem Ta{j pos:Int}(h:e3 w dm k d6 s)(Y:bd k d6 s)(aj:bV s):aq x8 KO [dm,Δ j,Δ pos,Δ v] w λr I=>Ext w I/\∃u,r= .tuple #[Δ u,.bool (dx s j pos v).isSome]:=by
 have aH:=Y.d9;refine aE func207 ?_;refine bn λg1 U aJ G ak=>?_;have Z:=h.box G ak;obtain⟨hv,aL,aM,aO,aP,aQ,H,aR,_,am,aS,aT,ab,aU⟩:=id Z;refine a6 (λr aa=>Ext U aa/\((r= .bool s2/\dx s j pos v=ν)\/(r= .bool sp/\∃f u,0<=j/\0<=pos/\s.ho[j.toNat]?=σ f/\f.live≠0/\f.sc[pos.toNat]?=σ u))) ?_ λaA C=>?_
 .rintro _ aa ⟨z,⟨rfl,e⟩|⟨rfl,f,u,K,ac,ah,ad,hu⟩⟩
  .rw[bS,e];exact⟨G.F z,0,rfl⟩
  .rw[bc];have af:=x7 ah;have L:=x7 hu;obtain⟨ag,aV,_⟩:=Y.ho f af;have M:=(ag.scope.1 u L).1;have aX:=ag.d9 u L;have M:=M;obtain⟨x,J⟩:=aI (l:=s.d9) (i:=u.toNat) Ω;rw[aN aK.p 6 (H.W z) rfl];refine km (i:=j.toNat) Ω c7.u cr.i (bq ab z) (by rw[u4,ah];rfl) λb o cs N O=>?_;obtain⟨an,ap,v3,rfl,h1,av,aw⟩:=me O;rw[a1 cr.p rfl,a1 ba.p rfl,aG Ψ (N 0 _ rfl),ft (y:=pos) (i:=pos.toNat) Ω au.u al.i Ψ (c3 h1) hu,aN aK.p 3 (H.W z) rfl];refine fF (i:=u.toNat) rfl Ω ca.u au.i Ψ (bq am z) (by rw[u4,J];rfl) λaY ax=>?_;refine(vB (c3 ax)).Y ?_;rintro _ aZ _ ⟨rfl,ay⟩;refine⟨(G.F z).F ay,u,?_⟩;have aB:=aj f af ad u L x J;have ae:dx s j pos v=(dH s u v).map λx=>(f,u,x):=by
    unfold dx;rw[m3 ⟨K,ac⟩,ah];simp only;rw[m3 ad,hu]
   have aC:dH s u v=if v∈az x then σ x else ν:=by
    unfold dH;rw[m3 M,J];simp only[aB,true_and]
   rw[ae,aC];by_cases E:v∈az x
   .rw[m3 E,ms E];rfl
   .rw[m5 E,rc E];rfl
 have Q:∀{P:Prop},(¬∃f u,0<=j/\0<=pos/\s.ho[j.toNat]?=σ f/\f.live≠0/\f.sc[pos.toNat]?=σ u)->(dx s j pos v=ν->P)->P:=λe aD=>aD (by
  cases ae:dx s j pos v with
  |none=>rfl
  |some q=>
   obtain⟨f,u,x⟩:=q;obtain⟨R,S,a3,a4,a5,_⟩:=ng ae;exact m6 ⟨f,u,R,S,a3,a4,a5⟩ e)
 refine Z.load λu hu=>?_;refine(Sj hu).Y ?_;rintro _ a2 _ ⟨rfl,A⟩;have same:∀{f V:bL},s.ho[j.toNat]?=σ f->s.ho[j.toNat]?=σ V->V=f:=λa b=>by rw[a]at b;exact(Z5 b).symm
 rw[bN,cb];refine⟨λW=>Q (λ⟨f,u,R,S,a3,a4,a5⟩=>?_) λe=>C _ _ ⟨A,.inl ⟨rfl,e⟩⟩,λX=>?_⟩
 .unfold e1 at W;rw[a3]at W;simp[R,a4]at W
 have X:0<=j/\e1 s j.toNat=s2:=by simpa using X
 obtain⟨K,B⟩:=X;obtain⟨f,ah,aF⟩:∃f,s.ho[j.toNat]?=σ f/\f.live≠0:=by
  unfold e1 at B;cases ah:s.ho[j.toNat]? with
  |none=>rw[ah]at B;cases B
  |some f=>rw[ah]at B;exact⟨f,rfl,by simpa using B⟩
 rw[aW,ao];refine⟨λa7=>Q (λ⟨_,_,_,S,_⟩=>Ω) λe=>C _ _ ⟨A,.inl ⟨rfl,e⟩⟩,λac=>?_⟩;rw[aN aK.p 6 (H.W A) rfl];refine km (i:=j.toNat) Ω c7.u cr.i (bq ab A) (by rw[u4,ah];rfl) λb o cs N O=>?_;obtain⟨an,ap,v3,rfl,h1,av,aw⟩:=me O;rw[a1 cr.p rfl,a1 ba.p rfl,aG Ψ (N 0 _ rfl),a8 au.u (c3 h1),cT];by_cases ai:(f.sc.length:Int)<=pos
 .refine Q (λ⟨V,u,_,_,a3,_,a5⟩=>?_) λe=>C _ _ ⟨A,.inl ⟨by rw[ms ai],e⟩⟩;obtain rfl:=same ah a3;have:=(x6.1 a5).1;omega
 .obtain⟨u,hu⟩:=aI (l:=f.sc) (i:=pos.toNat) Ω;exact C _ _ ⟨A,.inr ⟨by rw[rc ai],f,u,K,Ω,ah,aF,hu⟩⟩
theorem zr{f:bL}(h:e3 w dm k d6 s)(L:bd k d6 s)(ah:s.ho[j]?=σ f)(aL:pos<f.sc.length)(ac:∀u,f.sc[pos]?=σ u->v∈aU s u):
  aq x8 JY [dm,Δ (j:Int),Δ (pos:Int),Δ v] w λr I=>Ext w I/\aQ .i64 I r (kB s f pos v)/\∀q,lc r q->w.heap.size<=q:=by
 have bx:=L.d9;have V:=x7 ah;obtain⟨M,ai,_⟩:=L.ho f V;have N:=(ka L V).1;have aM:f.an.length=f.sc.length:=by rw[ai];simp[b5]
 have bz:=jt N;have bA:(bs f.an).length<=4096:=by
  have O:=M.small;rw[<-ai]at O;omega
 refine aE func139 ?_;refine bn λg1 U bB W aO=>?_;obtain⟨hv,bC,bD,bG,bI,bJ,aj,bK,_,aP,bM,bN,aS,bO⟩:=h.box W aO;rw[aN aK.p 6 aj rfl];refine km (i:=j) rfl c7.u cr.i aS (by rw[u4,ah];rfl) λb o cs E aT=>?_;obtain⟨X,Y,v3,rfl,h1,O,aV⟩:=me aT;rw[a1 cr.p rfl,bH (cs:=[X,Y,v3]) ba.p ba.i rfl (λq u a=>by
  have:q<3:=(x6.1 a).1
  match q,this,a with
  |0,_,a=>cases a;exact E 0 _ rfl
  |1,_,a=>cases a;exact E 1 _ rfl
  |2,_,a=>cases a;exact E 2 _ rfl)]
 refine bE ba.i λbP aa bQ aW aX=>?_;have aZ:∀u∈[X,Y,v3],u.oneCell'=s2:=λu hu=>by
  simp only[List.mem_cons,List.not_mem_nil,or_false]at hu;rcases hu with rfl|rfl|rfl
  .exact iJ h1
  .exact iJ O
  .exact iJ aV
 refine b3 (vs:=[X,Y,v3]) ba.i rfl rfl aZ aX λbR a2 bS ak=>?_;have am:=aW.put a2 Ω;have s1:=c3 h1;have a7:=c3 O;rw[aN ba.p 1 ak rfl];refine(sb f.an (a7.W am) ⟨by rw[aM];exact M.scope.2,N⟩).Y ?_;rintro bT P _ ⟨ao,ap⟩;have Z:=am.F ao;rw[fE ca.u ap];refine ce.range (bs f.an).length (λi out C=>Ext P C/\(∃g,aH .i64 al C g out ((((bs f.an).take i).filter (mg s f.sc pos v)).map (n7 f.an)))/\∀r,lc out r->P.heap.size<=r) Ω ⟨Ext.refl _,⟨0,aH.nil _ _ _ _⟩,λr E=>by obtain⟨_,_,_,e,_⟩:=E;cases e⟩ ?_ ?_
 .rintro q out C bb a ⟨z,⟨g,hm⟩,Q⟩ bc;have G:(bs f.an)[q]?=σ (dz f.an (q:Int)):=se N Ω;generalize dz f.an (q:Int)=tl at G;have bU:=xj G;have be:=kr N G;have bf:n7 f.an tl=(q:Int):=by unfold n7;rw[be];rfl
  have R:=Z.F z;have av:((bs f.an).take (q+1)).filter (mg s f.sc pos v)=((bs f.an).take q).filter (mg s f.sc pos v)++(if mg s f.sc pos v tl=s2 then[tl]else[]):=by
   rw[u9,G,j4,List.filter_append];congr 1;cases ax:mg s f.sc pos v tl<;>simp[ax]
  obtain⟨ab,aw⟩:=aI (l:=tl) (i:=pos) Ω;refine bF Ω ?_;refine a6 (λay aB=>Ext P aB/\(∃g,aH .i64 al aB g ay ((((bs f.an).take (q+1)).filter (mg s f.sc pos v)).map (n7 f.an)))/\∀r,lc ay r->P.heap.size<=r) (λ_ _ ad=>by rw[aR];exact bc _ _ ad) λaA H=>?_;refine fF rfl rfl ca.u au.i Ψ (bq ap z) G λaY S=>?_;have S:=c3 S;rw[bk au.u al.i Ψ S aw,bm,aN ba.p 0 (ak.W (ao.F z)) rfl,a8 au.u (s1.W R)];refine ce.range f.sc.length (λp ok af=>Ext C af/\ok= .bool (decide (ab=v)&&ni s (f.sc.take p) (tl.take p))) s1.le ⟨Ext.refl _,by simp[ni]⟩ ?_ ?_
  .rintro p _ af bg ae ⟨A,rfl⟩ bh;obtain⟨u,ag⟩:=aI (l:=f.sc) ae;obtain⟨y,aC⟩:=aI (l:=tl) (i:=p) Ω;have aD:=x7 ag;have aF:=(M.scope.1 u aD).1;have aG:=M.d9 u aD;have aG:=aG;have aF:=aF;obtain⟨x,J⟩:=aI (l:=s.d9) (i:=u.toNat) Ω;have aJ:ni s (f.sc.take (p+1)) (tl.take (p+1))=(ni s (f.sc.take p) (tl.take p)&&decide (y∈az x)):=by
    unfold ni;rw[u9,u9,ag,aC,j4,j4,List.zip_append Θ,List.all_append];simp[J]
   refine bF Ω ?_;refine a6 (λok bi=>Ext C bi/\ok= .bool (decide (ab=v)&&ni s (f.sc.take (p+1)) (tl.take (p+1)))) (λ_ _ ad=>by rw[aR];exact bh _ _ ad) λaA H=>?_;rw[bk au.u al.i Ψ (s1.W (R.F A)) ag];intro bV bj _ _;have K:=A.F bj;rw[cb];refine⟨λB=>?_,λB=>H _ _ ⟨K,by rw[aJ,<-Bool.and_assoc,B];rfl⟩⟩;rw[aN aK.p 3 (aj.W (R.F K)) rfl];refine fF (i:=u.toNat) rfl Ω ca.u au.i Ψ (bq aP (R.F K)) (by rw[u4,J];rfl) λbW bl=>?_;rw[bk au.u al.i Ψ (S.W K) aC];refine(vB (c3 bl)).Y ?_;rintro _ bX _ ⟨rfl,bo⟩;exact H _ _ ⟨K.F bo,by rw[aJ,<-Bool.and_assoc,B,S7]⟩
  .rintro _ af bg ⟨A,rfl⟩;rw[o9,j9 Ω];refine b4 Ω ?_;have bp:(decide (ab=v)&&ni s f.sc tl)=mg s f.sc pos v tl:=by unfold mg;rw[r8,aw];rfl
   rw[bp,cb];refine⟨λB=>?_,λB=>H _ _ ⟨z.F A,⟨g,by rw[av,m5 (by rw[B];decide),T4];exact hm.W A⟩,Q⟩⟩;refine Gl (z.F A) (hm.W A) Q ?_ λbY I br bt bu bw=>H _ _ ⟨bt,⟨br,?_⟩,bw⟩
   .rw[r9];have h1:=List.length_filter_le (mg s f.sc pos v) ((bs f.an).take q);rw[Z3]at h1;omega
   .rw[av,m3 B,Z2,List.map_singleton,bf];exact bu
 .rintro out C bb ⟨z,⟨g,hm⟩,Q⟩;rw[o9,<-SZ L V aL ac]at hm;refine b4 Ω ?_;exact⟨(W.F Z).F z,hm.ls,λq a=>by have:=Q q a;have:=(W.F Z).size;omega⟩
theorem Tb{j pos:Int}(h:e3 w dm k d6 s)(e:bd k d6 s)(P:bV s):
  aq x8 JW [dm,Δ j,Δ pos,Δ v] w λr I=>Ext w I/\r=(match dx s j pos v with|some (f,_,_)=>.tuple #[Δ (eM k s f pos.toNat v),.bool s2]|none=>.tuple #[Δ 0,.bool sp]):=by
 refine aE func137 ?_;refine bn λg1 U ax y Q=>?_;have G:=h.box y Q;refine G.load λu hu=>?_;refine(Ta hu e P).Y ?_;rintro _ aa _ ⟨z,fi,rfl⟩;rw[bz,bA,bN];cases ae:dx s j pos v with
 |none=>
  rw[S3,X6,bS];exact⟨y.F z,rfl⟩
 |some q=>
 obtain⟨f,u',x⟩:=q;rw[T7,Y5,bc];obtain⟨R,S,ah,az,A,V⟩:=ng ae;obtain⟨aA,W,aC,X⟩:=kc V;obtain⟨j,rfl⟩:=Y6 R;obtain⟨pos,rfl⟩:=Y6 S;rw[u7]at ah A;have H:=x7 ah;have Y:=(x6.1 A).1;have ac:∀u,f.sc[pos]?=σ u->v∈aU s u:=λu hu=>by
  rw[A]at hu;cases hu;unfold aU;rw[W];exact X
 have J:=G.W z;obtain⟨hv,aD,aF,aH,aJ,aL,K,aM,_,aO,aP,aQ,Z,aS⟩:=id J;rw[aN aK.p 0 K rfl];refine J.load λaT ab=>?_;refine(zr ab e ah Y ac).Y ?_;rintro aY ad _ ⟨L,B,_⟩;rw[a8 au.u B];have M:(kB s f pos v).length=(bW s f.sc pos v).length:=by unfold kB;rw[r9]
 rw[M];refine ce.range (bW s f.sc pos v).length (λi af C=>Ext ad C/\af=Δ ((((bW s f.sc pos v).take i).map (bu f.an f.cs)).foldl min k)) (by rw[<-M];exact B.le) ⟨Ext.refl _,rfl⟩ ?_ ?_
 .rintro i _ C ag hi ⟨a,rfl⟩ ai;obtain⟨tl,E⟩:=aI (l:=bW s f.sc pos v) hi;obtain⟨m,hm⟩:=oY e H ac (x7 E);have aj:(kB s f pos v)[i]?=σ (m:Int):=by
   unfold kB;rw[u4,E];unfold n7;rw[Y7,hm];rfl
  obtain⟨ak,aV⟩:=ka e H;have aW:=(x6.1 (lX ak hm)).1;obtain⟨c,N⟩:=aI (l:=f.cs) (i:=m) Ω;have am:bu f.an f.cs tl=c:=by
   unfold bu;rw[hm];simp[r8,N]
  have O:=L.F a;refine bF Ω ?_;rw[bk au.u al.i Ψ (B.W a) aj,aN aK.p 6 (K.W O) rfl];refine km (i:=j) rfl c7.u cr.i (bq Z O) (by rw[u4,ah];rfl) λb o cs ao ap=>?_;obtain⟨aX,aZ,v3,rfl,h1,a2,av⟩:=me ap;rw[a1 cr.p rfl,a1 ba.p rfl,aG Ψ (ao 2 _ rfl),bk aB.u ay.i Ψ (c3 av) N];refine Fe.Y ?_;rintro _ a6 _ ⟨rfl,aw⟩;rw[aR];refine ai _ _ ⟨a.F aw,?_⟩;rw[u9,E,j4,Z2,List.foldl_append,List.map_singleton,am];rfl
 .rintro _ C ag ⟨a,rfl⟩;rw[o9];refine b4 Ω ?_;exact⟨(y.F z).F (L.F a),rfl⟩
theorem vV{a b k:Int}(h1:0<=a/\a<=4294967296)(f:0<=b/\b<=4294967296):aq x8 JZ [Δ a,Δ b,Δ k] w λr I=>r=Δ (cK k a b)/\Ext w I:=by
 refine aE func140 ?_;refine(show aq x8 KR [Δ a,Δ b,Δ k] w λr I=>(∃q,r= .tuple #[Δ (cK k a b),q])/\Ext w I from ?_).Y ?_
 .refine aE func210 ?_;unfold cK;rw[bm,ao];refine⟨λh=>⟨⟨_,by rw[m3 h]⟩,Ext.refl _⟩,λh=>?_⟩;rw[dr,lm Ω Ω,mB,m5 h];exact⟨⟨_,rfl⟩,Ext.refl _⟩
 .rintro _ U _ ⟨⟨q,rfl⟩,e⟩;rw[bz,bA];exact⟨rfl,e⟩
end
def cC(w:x5)(af ag av:Nat)(A R:ak)(A9:Nat->ak)(aL:ak)(n:aJ)(s:am)(t:aD)(h:List aD)(u:am)(I:x5):Prop:=ai (λr=>(∃q,A9 q r)\/r=av) w I/\∃cD cs,cm I af ag av A R cD aL n s u t h cs/\∀q r,cD q r->(∃a,A9 a r)\/w.heap.size<=r
section
variable{w I U aa:x5}{af ag av:Nat}{A R:ak}{A9:Nat->ak}{aL:ak}{n:aJ}{s u e9 fi:am}{t:aD}{h:List aD}{cs:List x4}
theorem cC.same(p:cm w af ag av A R A9 aL n s u t h cs)(J:Ext w I):cC w af ag av A R A9 aL n s t h u I:=⟨J.ab _,A9,cs,p.W J,λq r h=>.inl ⟨q,h⟩⟩
theorem cC.comp{cD:Nat->ak}(e:ai (λr=>(∃q,A9 q r)\/r=av) w U)(f:∀q r,cD q r->(∃a,A9 a r)\/w.heap.size<=r)(d:cC U af ag av A R cD aL n s t h fi aa):cC w af ag av A R A9 aL n s t h fi aa:=by
 obtain⟨x,y,bK,B,C⟩:=d;have z:=e.size;refine⟨?_,y,bK,B,λq r j=>(C q r j).elim (λ⟨a,h⟩=>f a r h) λh=>.inr Ω⟩;refine((e.Y λr _ h=>.inl h).F (x.Y λr _ h=>?_):ai (λr=>((∃q,A9 q r)\/r=av)\/w.heap.size<=r) w aa).Y λr j h=>h.elim id λh=>Ω
 rcases h with⟨q,h⟩|h
 .exact (f q r h).imp .inl id
 .exact .inl (.inr h)
def kZ(w:x5)(af ag av:Nat)(A R:ak)(A9:Nat->ak)(aL:ak)(n:aJ)(s:am)(t:aD)(h:List aD)(u:am)(I:x5):Prop:=ai (A9 2) w I/\∃cD cs,cm I af ag av A R cD aL n s u t h cs/\(∀q r,cD q r->(∃a,A9 a r)\/w.heap.size<=r)/\∀r,cD 2 r->A9 2 r\/w.heap.size<=r
theorem kZ.zs(d:kZ w af ag av A R A9 aL n s t h u I):cC w af ag av A R A9 aL n s t h u I:=by
 obtain⟨h1,cD,cs,a,e,_⟩:=d;exact⟨h1.Y λr _ h=>.inl ⟨2,h⟩,cD,cs,a,e⟩
theorem kZ.same(p:cm w af ag av A R A9 aL n s u t h cs)(J:Ext w I):kZ w af ag av A R A9 aL n s t h u I:=⟨J.ab _,A9,cs,p.W J,λq r h=>.inl ⟨q,h⟩,λr h=>.inl h⟩
theorem kZ.comp{cD:Nat->ak}(f:ai (A9 2) w U)(x:∀q r,cD q r->(∃e,A9 e r)\/w.heap.size<=r)(j:∀r,cD 2 r->A9 2 r\/w.heap.size<=r)(d:kZ U af ag av A R cD aL n s t h fi aa):kZ w af ag av A R A9 aL n s t h fi aa:=by
 obtain⟨y,B,bK,C,E,F⟩:=d;have z:=f.size;refine⟨?_,B,bK,C,λq r a=>(E q r a).elim (λ⟨e,h⟩=>x e r h) λh=>.inr Ω,λr a=>(F r a).elim (j r) λh=>.inr Ω⟩;exact((f.Y λr _ h=>.inl h).F (y.Y λr _ h=>j r h):ai (λr=>A9 2 r\/w.heap.size<=r) w aa).Y λr a h=>h.elim id λh=>Ω
theorem cm.Tc{T:ak}{v:x4}{u':am}(p:cm w af ag av A R A9 aL n s u t h cs)(z:∀q r,A9 q r->r<w.heap.size)(ac:cs[5]?=σ v)(e:ai T w I)(f:∀r,r<w.heap.size->T r->A9 2 r)(C:bB (λr=>A9 2 r\/w.heap.size<=r) aL I [v] (u'.d9.map (·.un)))(E:u'.zero=u.zero)(F:u'.d9.map az=u.d9.map az)(G:(u'.d9.map λx=>decide (x.gone≠0))=u.d9.map λx=>decide (x.gone≠0))(H:u'.ho=u.ho)(J:u'.dC=u.dC):
  ∃cD,cm I af ag av A R cD aL n s u' t h cs/\(∀q r,cD q r->(∃K,A9 K r)\/w.heap.size<=r)/\∀r,cD 2 r->A9 2 r\/w.heap.size<=r:=by
 have L:=bI.ly p.doc (zb e) (λr a=>.inl (f r a.2 a.1)) C (λj r M a=>?_) (λr a=>?_)
 .have y:=zc (w:=w) (B:=λr=>A9 2 r\/w.heap.size<=r) λr h=>h;refine⟨_,p.row e f ?_ y,y,λr a=>a⟩;have:=bI.sf ac L;unfold gQ;rw[E,F,G,H,J];exact this
 .rcases a with a|a
  .exact p.iv.1 2 j r (Ne.symm M) a
  .exact λh=>by have:=z j r h;omega
 .rcases a with a|a
  .exact p.iv.2 2 r a
  .exact λh=>by have:=(p.read r h).2.1;omega
theorem ti(p:cm w af ag av A R A9 aL n s u t h cs){i:Nat}{x:bp}(J:u.d9[i]?=σ x):∃g cap y,cs[5]?=σ (.slice (σ ⟨g,0,ν⟩) u.d9.length cap)/\w.cell? ⟨g,i,ν⟩=σ y/\aQ .i64 w y x.un/\
  ∀{I:x5}{v:Nat}{c:Int}{K:Unit->x5->Prop},Ext w I->v<x.un.length->(∀G,kZ w af ag av A R A9 aL n s t h (eR u i x (x.un.set v c)) G->K () G)->
   ad x8 (n9 aB y (Δ (v:Int))) I λa=>aM x8 (o7 ay a (Δ c)) I K:=by
 have H:=p.olds;obtain⟨hv,ak,al,am,an,ao,L,_,_,_,M,_,_,B⟩:=id H.doc;obtain⟨g,cap,c,ap,e,S,N,aq,_⟩:=vL M (by rw[u4,J];rfl) λr _ h=>(B rfl).2 2 r h;obtain⟨y,rfl⟩:=W3.1 (aw.len N);have O:w.cell? ⟨g,i,ν⟩=σ y:=by
  have:=S 0 y rfl;simpa[show aw.n (Λ)=1 from rfl]using this
 rw[r9]at e;refine⟨g,cap,y,by rw[L,<-e];rfl,O,c3 (jS N),λ{I v c K}j ac U=>?_⟩;have V:=H.W j;have z:=j.size;obtain⟨au,ax,aA,aC,P,W,Q,C,X⟩:=vL (bq M j) (by rw[u4,J];rfl) λr _ h=>(B rfl).2 2 r h;obtain⟨E,rfl⟩:=W3.1 (aw.len Q);rw[r9,e]at P;cases P;have Y:E=y:=by
  have h1:=W 0 E rfl;have h1:I.cell? ⟨g,i,ν⟩=σ E:=by simpa[show aw.n (Λ)=1 from rfl]using h1
  rw[kk j O]at h1;exact(Z5 h1).symm
 subst Y;refine FX rfl rfl aB.u ay.i Q ac rfl rfl (λr _ f=>⟨λh=>h,(B rfl).2 2 r (C r f)⟩) λaD F Z=>?_;have aa:=X F (λr _ h=>h) Z λr f=>f.elim .inl False.elim;obtain⟨cD,ae,ah,ai⟩:=V.Tc (u':=eR u i x (x.un.set v c)) (λq r h=>by have:=h.2;omega) (by rw[L];rfl) F (λr _ h=>C r h) (by show bB _ _ _ _ ((u.d9.set i {x with un:=x.un.set v c}).map (·.un));rw[U2];exact aa) rfl (rm J (by unfold az;simp)) (rm J rfl) rfl rfl;refine U _ ⟨(j.ab _).F (F.Y λr _ h=>(C r h).1),cD,cs,ae,λq r f=>?_,λr f=>?_⟩
 .rcases ah q r f with⟨aj,h⟩|h
  .exact .inl ⟨aj,h.1⟩
  .exact .inr Ω
 .exact (ai r f).imp (λh=>h.1) λh=>Ω
theorem Gp(p:cm w af ag av A R A9 aL n s u t h cs){f:bL}(ah:u.ho[j]?=σ f):∃g cap C L y,cs[6]?=σ (.slice (σ ⟨g,0,ν⟩) u.ho.length cap)/\w.rangeAt g (j*4) [C,L,y,.bool (decide (f.live≠0))]/\aQ .i64 w C f.sc/\aQ .i64 w y f.cs/\
  ∀{I:x5}{m:Nat}{c:Int}{K:Unit->x5->Prop},Ext w I->m<f.cs.length->(∀N,cC w af ag av A R A9 aL n s t h (et u j f (f.cs.set m c)) N->K () N)->
   ad x8 (n9 aB y (Δ (m:Int))) I λa=>aM x8 (o7 ay a (Δ c)) I K:=by
 have O:=p.olds;obtain⟨hv,au,ax,az,aA,aC,P,_,_,_,_,Q,_,E⟩:=id O.doc;obtain⟨g,cap,c,aD,e,F,V,aE,_⟩:=vL Q (by rw[u4,ah];rfl) λr _ h=>(E rfl).2 3 r h;have W:=me V;obtain⟨C,L,y,rfl,X,aF,Y⟩:=W;rw[r9]at e;have F:=F;refine⟨g,cap,C,L,y,by rw[P,<-e];rfl,F,c3 X,c3 Y,λ{I m c K}x hm Z=>?_⟩;have aa:=O.W x;have z:=x.size;obtain⟨aG,aH,aI,aJ,S,M,ac,G,ae⟩:=vL (bq Q x) (by rw[u4,ah];rfl) λr _ h=>(E rfl).2 3 r h;rw[r9,e]at S;cases S;obtain⟨aK,aN,U,aO,rfl,ai,H,aj⟩:=Sw ac λr h=>(E rfl).2 3 r (G r h);have M:=M;have ak:U=y:=by
  have h1:=M 2 U rfl;rw[(pv x F) 2 y rfl]at h1;exact(Z5 h1).symm
 subst ak;refine FX rfl rfl aB.u ay.i ai hm rfl rfl (λr _ B=>⟨λh=>h,(E rfl).2 3 r (G r (H r B))⟩) λaP J al=>?_;have am:=aj J (aw.Y al (λr _ h=>h.elim id False.elim) λ_ _ h=>h);have an:=ae J (λr _ h=>H r h) am λr B=>.inl B;obtain⟨cD,ao,ap⟩:=aa.Su (u':=et u j f (f.cs.set m c)) (λq r h=>by have:=h.2;omega) (by rw[P];rfl) J (λr _ h=>G r (H r h)) (by show bB _ _ _ _ ((u.ho.set j {f with cs:=f.cs.set m c}).map jI);rw[U2];exact an) rfl rfl rfl;refine Z _ ⟨(x.ab _).F (J.Y λr _ h=>.inl ⟨3,(G r (H r h)).1⟩),cD,cs,ao,λq r B=>?_⟩;rcases ap q r B with⟨aq,h⟩|h
 .exact .inl ⟨aq,h.1⟩
 .exact .inr Ω
theorem Gq(p:cm w af ag av A R A9 aL n s u t h cs){K:Unit->x5->Prop}(f:∀e,cC w af ag av A R A9 aL n s t h {u with zero:=c} e->K () e):aM x8 (o7 ay (.pointer (σ ⟨av,0+2,ν⟩)) (Δ c)) w K:=by
 refine bw (o:=0+2) ay.i rfl rfl p.box (by rw[p.doc.len.1];omega) λaa a x j=>?_;refine f _ ⟨a.Y λr _ h=>.inr h,A9,_,p.FZ a (λr _ h=>.inr h) j ?_ λq r h=>.inl ⟨q,h⟩,λq r h=>.inl ⟨q,h⟩⟩;exact(bI.ab p.doc a λr _ h he=>h.elim (λ⟨q,h⟩=>(p.apart q r h).2.2 he) λh=>(p.read r h).2.2 he).R8
theorem Gr(p:cm w af ag av A R A9 aL n s u t h cs){i:Nat}{x:bp}(J:u.d9[i]?=σ x):∃g cap y,cs[3]?=σ (.slice (σ ⟨g,0,ν⟩) u.d9.length cap)/\w.cell? ⟨g,i,ν⟩=σ y/\aQ .i64 w y (az x)/\(∀r,lc y r->A9 0 r)/\
  ∀{I:x5}{m:Int}{z:x4}{gz:Nat}{K:Unit->x5->Prop},Ext w I->aH .i64 al I gz z (az {x with mask:=m})->(∀r,lc z r->w.heap.size<=r)->(∀H,cC w af ag av A R A9 aL n s t h {u with d9:=u.d9.set i {x with mask:=m}} H->K () H)->
   ad x8 (n9 ca (.slice (σ ⟨g,0,ν⟩) u.d9.length cap) (Δ (i:Int))) I λa=>aM x8 (o7 au a z) I K:=by
 have L:=p.olds;have X:=(x6.1 J).1;obtain⟨hv,Y,aD,aE,aF,aG,M,_,Z,_,_,_,_,aa⟩:=id L.doc;obtain⟨g,cap,full,ac,c,aI,e,B,ae,C,N,E,ah,aJ,ak⟩:=F0 Z (by rw[u4,J];rfl) λr _ h=>(aa rfl).2 0 r h;obtain⟨y,rfl⟩:=W3.1 (aw.len E);rw[r9]at e;have am:full[i]?=σ y:=by have:=N 0 y rfl;simpa[show aw.n (Λ)=1 from rfl]using this
 refine⟨g,cap,y,by rw[M,<-e];rfl,by have:=B.cell am;exact this,c3 (jS E),λr f=>?_,λ{I m O gz K}F P Q an=>?_⟩
 .obtain⟨aK,aN,ao,ap⟩:=BT E;rcases ap with rfl|aq
  .obtain⟨_,_,_,e,_⟩:=f;cases e
  .obtain⟨e,_⟩:=cd ao f;rw[e];exact(ah _ aq).1
 have z:=F.size;have C:i*1+1<=full.length:=C;rw[e5 ca.u au.i X λ_=>rfl];obtain⟨_,_,_,S⟩:=df P.ls;refine bw (o:=0+i*1) au.i (by rw[S];rfl) (by rw[S];rfl) (B.W F) Ω λU V aO j=>?_;have j:aj U g ac (over full (i*1) [O]):=by
  have e:=F3 (o:=i*1) (q:=0) (x:=O) N C Ξ;rw[V0]at j;rw[Nat.add_zero]at e;rw[e]at j;exact j
 have aP:g<w.heap.size:=B.lt;have G:ai (λr=>r=g) w U:=(F.ab _).F V;have ax:=bG P V λr f he=>by have he:r=g:=he;have:=Q r f;omega
 have ay:=ak G (λr _ h=>.inr h) j (oV ax) λr f=>.inr (Q r f);have W:∀r,r<w.heap.size->r=g->A9 0 r/\r<w.heap.size:=λr f h=>by rw[h];exact ae
 obtain⟨cD,aA,aB⟩:=L.qd (u':={u with d9:=u.d9.set i {x with mask:=m}}) (λq r h=>h.2) (v:=Y) (by rw[M];rfl) G W (by show bB _ _ _ _ ((u.d9.set i {x with mask:=m}).map az);rw[U2];exact ay) rfl (rm J rfl) (rm J rfl) rfl rfl;refine an _ ⟨G.Y λr f h=>.inl ⟨0,(W r f h).1⟩,cD,cs,aA,λq r f=>?_⟩;rcases aB q r f with⟨aC,h⟩|h
 .exact .inl ⟨aC,h.1⟩
 .exact .inr h
end
def gx(s:am)(sc:Λ)(pos:Int)(v:Int):Nat->Nat->Λ->List (Λ)
 |0,_,tl=>[tl]
 |m+1,p,tl=>if(p:Int)=pos then gx s sc pos v m (p+1) (tl.set p v)else(aU s (sc.getD p 0)).flatMap λx=>gx s sc pos v m (p+1) (tl.set p x)
theorem vW{α:Type}{l:List α}{p:Nat}{x:α}(h:p<l.length):(l.set p x).take (p+1)=l.take p++[x]:=by
 grind [u9,List.take_set_of_le]
theorem vX{s:am}{sc:Λ}{pos:Nat}{v:Int}:∀(m p:Nat)(tl:Λ),sc.length=p+m->tl.length=sc.length->gx s sc pos v m p tl=(ii (jH s pos v (sc.drop p) p)).map (tl.take p++ ·)
 |0,p,tl,h1,e=>by
  grind [gx,jH,ii]
 |m+1,p,tl,h1,e=>by
  have ae:p<sc.length:=Ω
  obtain⟨u,hu⟩:=aI (l:=sc) ae;have f:sc.drop p=u::sc.drop (p+1):=by grind [X4]
  have h:sc.getD p 0=u:=by grind
  rw[f];unfold gx jH;rw[ii];by_cases a:p=pos
  .rw[m3 Ω,m3 a,List.flatMap_singleton,vX m (p+1) (tl.set p v) Ω (by grind),T5,vW Ω]
   grind [List.map_congr_left]
  .rw[m5 Ω,m5 a,h,List.map_flatMap];congr 1;funext x;rw[vX m (p+1) (tl.set p x) Ω (by grind),T5,vW Ω]
   grind [List.map_congr_left]
theorem Td{s:am}{m p:Nat}(h1:sc.length=p+m)(e:tl.length=sc.length)(f:a.length=sc.length)(h:a.take p=tl.take p):gx s sc pos v m p a=gx s sc pos v m p tl:=by
 grind [vX]
theorem Te{s:am}(h:tl.length=sc.length):gx s sc pos v sc.length 0 tl=bW s sc pos v:=by
 rw[vX sc.length 0 tl Ω h];unfold bW;simp
def o0(w:x5)(af gs b0 bg bi:Nat)(aZ:x4)(pos v:Int):Prop:=aj w gs ez [Γ af]/\aj w b0 au [aZ]/\aj w bg al [Δ pos]/\aj w bi al [Δ v]
theorem o0.ab{S:ak}{gs b0 bg bi:Nat}{pos:Int}(h:o0 w af gs b0 bg bi aZ pos v)(a:ai S w I)(e:¬S gs/\¬S b0/\¬S bg/\¬S bi):o0 I af gs b0 bg bi aZ pos v:=
 ⟨h.1.ab a e.1,h.2.1.ab a e.2.1,h.2.2.1.ab a e.2.2.1,h.2.2.2.ab a e.2.2.2⟩
theorem o0.W{gs b0 bg bi:Nat}{pos:Int}(h:o0 w af gs b0 bg bi aZ pos v)(J:Ext w I):o0 I af gs b0 bg bi aZ pos v:=h.ab (J.ab λ_=>False) (by grind)
def gR(af ag:Nat)(R:ak)(n:aJ)(s:am)(gs b0 bg bi:Nat)(aZ:x4)(sc:Λ)(pos v:Int)(B0:Nat)(D:Nat->Prop)(w:x5):Prop:=
 o0 w af gs b0 bg bi aZ pos v/\(gs<B0/\b0<B0/\bg<B0/\bi<B0)/\aQ .i64 w aZ sc/\(∀r,lc aZ r->r<B0)/\(Laid w/\B0<=w.heap.size)/\∃A s' bx,bD w af ag A R n s' bx/\(∀i,aU s' i=aU s i)/\∀r,A r\/R r->r<B0\/D r
section
variable{af ag gs b0 bg bi B0:Nat}{R:ak}{n:aJ}{s:am}{aZ:x4}{sc:Λ}{pos v:Int}
theorem gR.W(h:gR af ag R n s gs b0 bg bi aZ sc pos v B0 D w)(J:Ext w I):gR af ag R n s gs b0 bg bi aZ sc pos v B0 D I:=by
 obtain⟨h1,e,f,j,a,A,s',bx,q,r,x⟩:=h;exact⟨h1.W J,e,f.W J,j,⟨a.1.W J,X3 a.2 J.size⟩,A,s',bx,q.W J,r,x⟩
def lE(w:x5)(l gy gt gtb ga:Nat)(iV:Array x4)(q:Nat)(tl:Λ):Prop:=aj w gy BA [.func (.yield l) #[] #[]]/\aj w gtb au [.slice (σ ⟨gt,0,ν⟩) q q]/\aj w ga qC [.func (.func pq) #[] iV]/\
 aH .i64 al w gt (.slice (σ ⟨gt,0,ν⟩) q q) tl
theorem lE.ab{S:ak}{l q:Nat}{iV:Array x4}(h:lE w l gy gt gtb ga iV q tl)(f:ai S w I)(j:¬S gy/\¬S gtb/\¬S ga/\¬S gt):lE I l gy gt gtb ga iV q tl:=
 ⟨h.1.ab f j.1,h.2.1.ab f j.2.1,h.2.2.1.ab f j.2.2.1,bG h.2.2.2 f λr s=>by
  obtain⟨a,_,_,e,x⟩:=s
  grind⟩
theorem lE.W{l q:Nat}{iV:Array x4}(h:lE w l gy gt gtb ga iV q tl)(J:Ext w I):lE I l gy gt gtb ga iV q tl:=h.ab (J.ab λ_=>False) (by grind)
theorem Tf(V:aQ .i64 w aZ sc):aq x8 Bq [Γ af,aZ,Δ pos,Δ v] w λr I=>Ext w I/\∃gs b0 bg bi,r= .func (.func nF) #[] #[Γ b0,Γ bg,Γ bi,Γ gs]/\o0 I af gs b0 bg bi aZ pos v/\w.heap.size<=gs/\w.heap.size<=b0/\w.heap.size<=bg/\w.heap.size<=bi:=by
 obtain⟨_,_,_,y⟩:=df V;refine aE func212 ?_;refine bn λgs U A s h=>?_;refine bn λb0 aa B j a=>?_;refine bn λbg C E e q=>?_;refine bn λbi x G f z=>?_;have h:aj x gs ez [Γ af]:=((aj.W h j).W e).W f;have a:aj x b0 au [aZ]:=by rw[y]at a ⊢;exact(aj.W a e).W f
 have q:=aj.W q f;rw[lS];have H:=s.size;have J:=j.size;have z3:=e.size;exact⟨((s.F j).F e).F f,gs,b0,bg,bi,rfl,⟨h,a,q,z⟩,Ω,Ω,Ω,Ω⟩
theorem gR.own{S:ak}(h:gR af ag R n s gs b0 bg bi aZ sc pos v B0 D w)(f:ai S w I)(G:∀r,S r->B0<=r/\¬D r):gR af ag R n s gs b0 bg bi aZ sc pos v B0 D I:=by
 obtain⟨h1,z,B,j,q,A,s',bx,x,C,E⟩:=h;have no:∀{r:Nat},r<B0->¬S r:=by grind
 refine⟨h1.ab f (by grind),z,jw B f λr y a n c e F=>?_,j,⟨?_,X3 q.2 f.size⟩,A,s',bx,⟨x.1.ab f λr _ y V=>?_,x.2⟩,C,E⟩
 .exact no (j r ⟨a,n,c,e,F⟩) y
 .exact iH f (no Ω) q.1
 grind
def Tg(P:(Nat->Prop)->x5->Prop)(aA:(Nat->Prop)->Nat->x5->Prop)(L:List (Λ))(l B:Nat):Prop:=∀(D:Nat->Prop)(k:Nat)tl aY I,(∀r,D r->B<=r/\r<I.heap.size)->B<=I.heap.size->P D I->L[k]?=σ tl->aQ .i64 I aY tl->aA D k I->
 jm x8 l [aY] I λu a=>u= .bool s2/\(∃D',(∀r,D' r->D r\/I.heap.size<=r/\r<a.heap.size)/\(∀r,D r->D' r)/\P D' a/\aA D' (k+1) a)/\cU I a/\I.heap.size<=a.heap.size/\ai (λr=>r<B\/D r) I a
def tj(D:Nat->Prop)(B gy gtb ga gt:Nat):Prop:=(B<=gy/\¬D gy)/\(B<=gtb/\¬D gtb)/\(B<=ga/\¬D ga)/\B<=gt/\¬D gt
theorem tj.go{D':Nat->Prop}{m bY:Nat}(h:tj D B gy gtb ga gt)(a:∀r,D' r->D r\/m<=r/\r<bY)(hm:gy<m/\gtb<m/\ga<m/\gt<m):tj D' B gy gtb ga gt:=
 have f:∀{g:Nat},g<m->¬D g->¬D' g:=by grind
 ⟨⟨h.1.1,f hm.1 h.1.2⟩,⟨h.2.1.1,f hm.2.1 h.2.1.2⟩,⟨h.2.2.1.1,f hm.2.2.1 h.2.2.1.2⟩,h.2.2.2.1,f hm.2.2.2 h.2.2.2.2⟩
theorem lE.lt{l q:Nat}{iV:Array x4}(h:lE w l gy gt gtb ga iV q tl):gy<w.heap.size/\gtb<w.heap.size/\ga<w.heap.size/\gt<w.heap.size:=
 ⟨h.1.lt,h.2.1.lt,h.2.2.1.lt,(cd h.2.2.2 ⟨_,_,_,rfl,rfl⟩).2⟩
def AtR(l gy gt gtb ga:Nat)(iV:Array x4)(P:(Nat->Prop)->x5->Prop)(aA:(Nat->Prop)->Nat->x5->Prop)(S:ak)(D:Nat->Prop)(w:x5)(sl k p:Nat)(tl:Λ)(I:x5):Prop:=
 w.heap.size<=I.heap.size/\∃D' a,a.length=sl/\a.take p=tl.take p/\lE I l gy gt gtb ga iV sl a/\((∀r,D' r->D r\/w.heap.size<=r/\r<I.heap.size)/\∀r,D r->D' r)/\P D' I/\aA D' k I/\ai S w I
section
variable{l gy gt gtb ga B:Nat}{iV:Array x4}{P:(Nat->Prop)->x5->Prop}{aA:(Nat->Prop)->Nat->x5->Prop}{S T:ak}{D:Nat->Prop}{w U aa:x5}{sl k p:Nat}{tl:Λ}
theorem AtR.own(A:∀D T U aa,ai T U aa->(∀r,T r->B<=r/\¬D r)->P D U->P D aa)(e:∀D k U aa,ai (λr=>B<=r/\¬D r) U aa->gg B U aa->aA D k U->aA D k aa)(h:AtR l gy gt gtb ga iV P aA S D w sl k p tl U)(a:ai T U aa)(f:gg B U aa)(C:∀r,T r->r<w.heap.size/\¬D r/\B<=r/\S r/\r≠gy/\r≠gtb/\r≠ga/\r≠gt):AtR l gy gt gtb ga iV P aA S D w sl k p tl aa:=by
 obtain⟨j,D',q,h1,s,x,⟨E,F⟩,G,y,z⟩:=h;have H:∀r,T r->B<=r/\¬D' r:=by grind
 exact⟨X3 j a.size,D',q,h1,s,x.ab a (by grind),
  by grind [Nat.lt_of_lt_of_le,ai.size],by grind,e D' k U aa (a.Y (by grind)) f y,z.F (a.Y (by grind))⟩
theorem AtR.base{w0:x5}(h:AtR l gy gt gtb ga iV P aA S D w sl k p tl U)(J:Ext w0 w)(a:∀r,r<w0.heap.size->S r->T r):AtR l gy gt gtb ga iV P aA T D w0 sl k p tl U:=by
 obtain⟨e,D',f,h1,j,q,⟨s,x⟩,y,z,A⟩:=h;exact⟨X3 J.size e,D',f,h1,j,q,⟨λr B=>(s r B).imp id λh=>⟨X3 J.size h.1,h.2⟩,x⟩,y,z,((J.ab S).F A).Y a⟩
theorem AtR.comp{a:Nat->Prop}{e:Λ}{x:Int}(E:∀r,r<B\/D r\/r=gt->S r)(F:∀r,a r->D r\/w.heap.size<=r/\r<U.heap.size)(G:∀r,D r->a r)(f:ai S w U)(H:e.take p=tl.take p)(h:AtR l gy gt gtb ga iV P aA (λr=>r<B\/a r\/r=gt) a U sl k (p+1) (e.set p x) aa):AtR l gy gt gtb ga iV P aA S D w sl k p tl aa:=by
 obtain⟨j,D',q,h1,s,y,⟨I,J⟩,z,A,C⟩:=h;have V:=f.size;refine⟨X3 V j,D',q,h1,?_,y,⟨λr K=>?_,by grind⟩,z,A,?_⟩
 .have:=congrArg (List.take p) s
  grind [List.take_set_of_le]
 .grind
 .refine ((f.Y (by grind)).F (C.Y λr _ h=>?_):ai (λr=>S r\/w.heap.size<=r) w aa).Y (by grind)
  grind
end
theorem Th{α β:Type}{l:List α}{a:α->List β}{i:Nat}{y:α}{z:β}(h:l[j]?=σ y)(hi:(a y)[i]?=σ z):(l.flatMap a)[((l.take j).flatMap a).length+i]?=σ z:=by
 have q:=(x6.1 h).1;have e:l=l.take j++y::l.drop (j+1):=by
  grind [List.take_append_drop,X4]
 conv=>lhs;rw[e,List.flatMap_append,T0]
 have f:=(x6.1 hi).1;have el:((l.take j++y::l.drop (j+1)).take j)=l.take j:=by grind
 rw[el,X2 Ω,Nat.add_sub_cancel_left,V6 f];exact hi
theorem Ti{t:o4}{b o:Nat}{x:x4}{K:x4->Prop}(a:k9 x8 t=s2)(h:w.cell? ⟨b,o,ν⟩=σ x):ad x8 (do loadVar t (<-asAddr (.pointer (σ ⟨b,o,ν⟩)))) w K=K x:=ad.of λI J=>by
 have be:=kk J h;unfold k9 at a;cases hu:x8.underlying t with
 |none=>grind
 |some d=>
  rw[hu]at a;cases d<;>first|(cases a;done)|simp[asAddr,loadVar,isAgg,run_underlying hu,be]
def nj(b0 gy gtb bg bi ga gs:Nat):Array x4:=#[Γ b0,Γ gy,Γ gtb,Γ bg,Γ bi,Γ ga,Γ gs]
def vY(p:Nat)(b0 gy gtb bg bi ga gs:Nat):List x4:=[Δ (p:Int),Γ b0,Γ gy,Γ gtb,Γ bg,Γ bi,Γ ga,Γ gs]
theorem Tj{l:Nat}{L:List (Λ)}{aA:(Nat->Prop)->Nat->x5->Prop}(bR:0<=pos)(bS:∀u∈sc,0<=u/\u<n.d6.length)(cV:sc.length<=6)(cW:B0<=B)(cX:gt≠gy/\gt≠gtb/\gt≠ga)(O:∀D k U aa,ai (λr=>B<=r/\¬D r) U aa->gg B U aa->aA D k U->aA D k aa)(bT:Tg (gR af ag R n s gs b0 bg bi aZ sc pos v B0) aA L l B):
  ∀(q p:Nat)(tl:Λ)(k:Nat)(D:Nat->Prop)(w:x5),sc.length=p+q->tl.length=sc.length->(∀r,D r->B<=r/\r<w.heap.size)->B<=w.heap.size->tj D B gy gtb ga gt->lE w l gy gt gtb ga (nj b0 gy gtb bg bi ga gs) sc.length tl->gR af ag R n s gs b0 bg bi aZ sc pos v B0 D w->aA D k w->
   (∀i x,(gx s sc pos v q p tl)[i]?=σ x->L[k+i]?=σ x)->
   aq x8 pq (vY p b0 gy gtb bg bi ga gs) w λr I=>r= .bool s2/\AtR l gy gt gtb ga (nj b0 gy gtb bg bi ga gs) (gR af ag R n s gs b0 bg bi aZ sc pos v B0) aA (λr=>r<B\/D r\/r=gt) D w sc.length (k+(gx s sc pos v q p tl).length) p tl I:=by
 obtain⟨eL,rfl⟩:=Y6 bR;have Y:∀D T U aa,ai T U aa->(∀r,T r->B<=r/\¬D r)->gR af ag R n s gs b0 bg bi aZ sc eL v B0 D U->gR af ag R n s gs b0 bg bi aZ sc eL v B0 D aa:=λD T U aa aL cY h=>h.own aL (by grind);have aN:∀{H:x5}{K:x4->Prop},aj H b0 au [aZ]->K aZ->ad x8 (u5 au (Γ b0)) H K:=λaO aP=>by rw[aG Ψ (aO.cell rfl)];exact aP
 have aQ:∀{aS p:Nat}{tl:Λ}{D:Nat->Prop}{w aa H:x5}{a:Nat}{b:Bool},Ext w aa->w.heap.size<=a->a<aa.heap.size->(∀r,D r->B<=r/\r<w.heap.size)->B<=w.heap.size->(gy<w.heap.size/\gtb<w.heap.size/\ga<w.heap.size/\gt<w.heap.size)->
   AtR l gy gt gtb ga (nj b0 gy gtb bg bi ga gs) (gR af ag R n s gs b0 bg bi aZ sc eL v B0) aA (λr=>r<B\/D r\/r=gt\/r=a) D aa sc.length aS p tl H->aj H a ee [.bool b]->
   aM x8 (o7 ee (Γ a) (.bool s2)) H λ(_:Unit)aT=>ad x8 (do loadVar ee (<-asAddr (Γ a))) aT λr=>wB w.heap.size aT λbe=>r= .bool s2/\AtR l gy gt gtb ga (nj b0 gy gtb bg bi ga gs) (gR af ag R n s gs b0 bg bi aZ sc eL v B0) aA (λr=>r<B\/D r\/r=gt) D w sc.length aS p tl be:=by
  intro aS p tl D w aa H a b z bf ae S Z ah aV aW;have bU:∀r,r=a->r<aa.heap.size/\¬D r/\B<=r/\(r<B\/D r\/r=gt\/r=a)/\r≠gy/\r≠gtb/\r≠ga/\r≠gt:=by
   grind
  refine aM.cR (bw ee.i rfl rfl aW Ξ λaT bV cZ aX bW=>?_);have aX:=aX;have bX:=aV.own Y O bV bW.o bU;rw[Ti Ψ (aX.cell rfl)];intro be bY bZ;refine⟨rfl,((bX.own Y O (bY.ab λ_=>False) (bZ.2.Y Z) λ_ h=>h.elim).base z λr ak h=>?_)⟩
  grind
 intro q;induction q with
 |zero=>
  intro p tl k D w b1 ay S Z E am aY a1 an;refine jq func268 ?_;refine aM.cR (bn λg1 U b2 ap f a2=>?_);refine aM.cR (bE ee.i λa aa bf V M a6=>?_);have z:=ap.F V;have b3:=ap.size;have b4:=V.size;have f:=aj.W f V;have M:=M;have ae:=M.lt;have aB:=O D k w aa (z.ab _) (a2.F a6).o a1;have G:=aY.W z;have C:=am.W z;rw[aG Ψ (f.cell rfl)];refine aN G.1.2.1 ?_;rw[a8 au.u G.2.2.1,bm,ao];refine⟨λ_=>?_,λh=>m6 Ω h⟩;rw[aG Ψ (C.1.cell rfl),aG Ψ (C.2.1.cell rfl)];have b5:=an 0 tl rfl;refine(show jm x8 l [.slice (σ ⟨gt,0,ν⟩) sc.length sc.length] aa _ from jm.Y (bT D k tl _ aa (by grind) Ω G b5 C.2.2.2.ls aB) ?_);rintro _ b6 ⟨rfl,⟨D',d1,d2,b7,b8⟩,b9,ca,ba⟩;refine⟨b9,?_⟩;have ah:=am.lt;have bh:∀{g:Nat},w.heap.size<=g->¬D g:=by grind
  have aC:∀{g:Nat},B<=g->¬D g->¬(g<B\/D g):=by grind
  have aW:=M.ab ba (by grind);have aV:AtR l gy gt gtb ga (nj b0 gy gtb bg bi ga gs) (gR af ag R n s gs b0 bg bi aZ sc eL v B0) aA (λr=>r<B\/D r\/r=gt\/r=a) D aa sc.length (k+1) p tl b6:=
   ⟨ca,D',tl,ay,rfl,C.ab ba ⟨aC E.1.1 E.1.2,aC E.2.1.1 E.2.1.2,aC E.2.2.1.1 E.2.2.1.2,aC E.2.2.2.1 E.2.2.2.2⟩,⟨d1,d2⟩,b7,b8,ba.Y (by grind)⟩
  exact aQ z Ω ae S Z ah aV aW
 |succ q bj=>
  intro p tl k D w b1 ay S Z E am aY a1 an;refine jq func268 ?_;refine aM.cR (bn λg1 U b2 ap f a2=>?_);refine aM.cR (bE ee.i λa aa bf V M a6=>?_);have z:=ap.F V;have b3:=ap.size;have b4:=V.size;have f:=aj.W f V;have M:=M;have ae:=M.lt;have h1:=f.lt;have aB:=O D k w aa (z.ab _) (a2.F a6).o a1;have G:=aY.W z;have C:=am.W z;have ah:=am.lt;have bh:∀{g:Nat},w.heap.size<=g->¬D g:=by grind
  rw[aG Ψ (f.cell rfl)];refine aN G.1.2.1 ?_;rw[a8 au.u G.2.2.1,bm,ao];refine⟨λh=>m6 h Ω,λ_=>?_⟩;rw[aG Ψ (f.cell rfl),aG Ψ (G.1.2.2.1.cell rfl),bm,ao];have bl:∀{H:x5}{K:x4->Prop},aj H gtb au [.slice (σ ⟨gt,0,ν⟩) sc.length sc.length]->K (.slice (σ ⟨gt,0,ν⟩) sc.length sc.length)->ad x8 (u5 au (Γ gtb)) H K:=λaO aP=>by rw[aG Ψ (aO.cell rfl)];exact aP
  have bo:∀{D:Nat->Prop}(r:Nat),tj D B gy gtb ga gt->r=gt->B<=r/\¬D r:=λr h e=>e▸⟨h.2.2.2.1,h.2.2.2.2⟩;refine⟨λhe=>?_,λcb=>?_⟩
  .refine bl C.2.1 ?_;rw[aG Ψ (f.cell rfl),aG Ψ (G.1.2.2.2.cell rfl),ju rfl au.u al.i C.2.2.2 Ω];refine aM.cR (jv al.i C.2.2.2 Ω λaD Q c0 cc cd=>?_);have bp:lE aD l gy gt gtb ga (nj b0 gy gtb bg bi ga gs) sc.length (tl.set p v):=⟨C.1.ab Q Ω,C.2.1.ab Q Ω,C.2.2.1.ab Q Ω,cc⟩;have ce:=Y D _ _ _ Q (by grind) G;have cf:=O D k aa aD (Q.Y (by grind)) cd.o aB;have cg:=f.ab Q Ω;have ch:=M.ab Q Ω;rw[aG Ψ (bp.2.2.1.cell rfl),aG Ψ (cg.cell rfl),aR,lm Ω Ω];have hw:gx s sc eL v (q+1) p tl=gx s sc eL v q (p+1) (tl.set p v):=by rw[gx,m3 he]
   rw[hw];rw[hw]at an;refine(show aq x8 pq (vY (p+1) b0 gy gtb bg bi ga gs) aD _ from aq.Y (bj (p+1) (tl.set p v) k D aD Ω (by grind) (by grind) Ω E bp ce cf an) ?_);rintro _ ci c1 ⟨rfl,bq⟩;have cj:aj ci a ee [.bool sp]:=by
    obtain⟨_,_,_,_,_,_,_,_,_,ck⟩:=bq;exact ch.ab ck (by grind)
   exact aQ z Ω ae S Z ah (AtR.comp (by grind) (by grind) (λ_ h=>h) (Q.Y Ω) rfl bq) cj
  intro c2 aE _ cl;have aF:=G.W aE;obtain⟨A,s',bx,br,cm,c3⟩:=id aF.2.2.2.2.2;obtain⟨u,hu⟩:=aI (l:=sc) (i:=p) Ω;obtain⟨cn,c4⟩:=bS u (x7 hu);have c5:=br.2.2.2.1.d9;obtain⟨x,bs⟩:=aI (l:=s'.d9) (i:=u.toNat) Ω;rw[aG Ψ (aF.1.1.cell rfl)];refine aN aF.1.2.1 ?_;rw[aG Ψ ((f.W aE).cell rfl),bk au.u al.i Ψ aF.2.2.1 hu];refine(jF (i:=u) br).Y ?_;rintro _ c6 cp ⟨⟨b,c7,rfl,bt⟩,bu⟩;refine(mM).Y ?_;rintro _ aH cq ⟨cr,bz,rfl,c8,bA⟩;have bB:=lA bt cn bs;have ct:aU s (sc.getD p 0)=az x:=by
   rw[<-cm,r8,hu,Option.getD_some];unfold aU;rw[bs]
  have bC:gx s sc eL v (q+1) p tl=(az x).flatMap λy=>gx s sc eL v q (p+1) (tl.set p y):=by rw[gx,m5 cb,ct]
  have W:=(aE.F bu).F cr;have cu:=(cl.F cp).F cq;have z12:=W.size;have da:=(aE.F bu).size;have db:=bA.lt;have bD:B<=aH.heap.size:=Ω
  have cw:=O D k aa aH (W.ab _) cu.o aB;have bF:=G.W W;have bG:=C.W W;refine⟨Nat,sp,sp,jQ,#[Γ bz],0,_,_,λ_=>_,λ_ j I=>AtR l gy gt gtb ga (nj b0 gy gtb bg bi ga gs) (gR af ag R n s gs b0 bg bi aZ sc eL v B0) aA (λr=>r<B\/D r\/r=gt) D aH sc.length (k+(((az x).take j).flatMap λy=>gx s sc eL v q (p+1) (tl.set p y)).length) p tl I/\aj I g1 al [Δ (p:Int)]/\aj I a ee [.bool sp],
   λ_ _ _ _=>False,rfl,(mL (g:=bz) bt.1).s.x,?_,λ_ _ _ J h=>⟨h.1.W J,h.2.W J⟩,?_,by grind,⟨bA,bF.2.2.2.2.1.1⟩,?_,?_,?_,λ_ _ _ h=>h.elim,by grind⟩
  .rintro _ _ _ _ ⟨_,_,_,_,rfl⟩;rfl
  .rintro _ j dc dd aL cz ⟨X,av,N⟩;have J:=aL.W (by grind);exact⟨X.own Y O (J.ab λ_=>False) (cz.Y bD) λ_ h=>h.elim,av.W J,N.W J⟩
  .exact⟨⟨o6 _,D,tl,ay,rfl,bG,⟨by grind,λ_ h=>h⟩,bF,by simpa using cw,ai.refl _ _⟩,f.W W,M.W W⟩
  .rintro _ _ j _ de _ _ ⟨cA,df⟩ ⟨dg,rfl,y,cB,cC⟩ ⟨cD,bH,cE⟩;cases cC;intro bI aw cF _;have bJ:(az x)[j]?=σ (y:Int):=by rw[<-bB,u4,cB];rfl
   have cG:=cD.own Y O (aw.ab λ_=>False) (cF.2.Y bD) λ_ h=>h.elim;obtain⟨dh,ax,aJ,X,av,N,⟨aK,cH⟩,cI,cJ,cK⟩:=cG;have cL:=bG.lt;have bb:=E.go aK cL;have bK:∀r,ax r->B<=r/\r<bI.heap.size:=λr ak=>(aK r ak).elim (λh=>⟨(S r h).1,by have:=(S r h).2;omega⟩) Ω;refine bl N.2.1 ?_;rw[aG Ψ ((bH.W aw).cell rfl),ju rfl au.u al.i N.2.2.2 Ω];refine aM.cR (jv al.i N.2.2.2 Ω λac P di cM cN=>?_);have bL:lE ac l gy gt gtb ga (nj b0 gy gtb bg bi ga gs) sc.length (aJ.set p y):=⟨N.1.ab P Ω,N.2.1.ab P Ω,N.2.2.1.ab P Ω,cM⟩;have cO:=Y ax _ _ _ P (λr h=>bo r bb h) cI;have cP:=O ax _ bI ac (P.Y λr _ h=>bo r bb h) cN.o cJ;have bM:aj ac g1 al [Δ (p:Int)]:=(bH.W aw).ab P Ω;have cQ:aj ac a ee [.bool sp]:=(cE.W aw).ab P Ω;have cS:=(cA.W aw).ab P Ω;rw[aG Ψ (bL.2.2.1.cell rfl),aG Ψ (bM.cell rfl),aR,lm Ω Ω];have bO:gx s sc eL v q (p+1) (aJ.set p (y:Int))=gx s sc eL v q (p+1) (tl.set p (y:Int)):=Td Ω (by rw[Z9];exact ay) (by rw[Z9];exact X) (by rw[vW Ω,vW Ω,av]);refine(show aq x8 pq (vY (p+1) b0 gy gtb bg bi ga gs) ac _ from aq.Y (bj (p+1) (aJ.set p y) _ ax ac Ω (by rw[Z9];exact X) (λr ak=>⟨(bK r ak).1,by have:=(bK r ak).2;omega⟩) Ω bb bL cO cP λi dj hi=>?_) ?_)
   .rw[bO]at hi;rw[Nat.add_assoc];refine an _ _ ?_;rw[bC];exact Th bJ hi
   rintro _ dk dl ⟨rfl,bP⟩;rw[bN,Y5,bc];have bQ:=AtR.comp (λr h=>h) (λr h=>(aK r h).imp id Ω) cH (cK.F (P.Y Ω)) av bP;obtain⟨_,_,_,_,_,_,_,cT,_,bd⟩:=bP;have a7:∀{g:Nat},w.heap.size<=g->g<aH.heap.size->¬(g<B\/ax g\/g=gt):=λcU dm h=>by
    rcases h with h|h|h
    .omega
    .exact (aK _ h).elim (bh cU) Ω
    .omega
   refine⟨⟨cS.ab bd (a7 Ω Ω),cT.2.2.2.2.1.1⟩,⟨?_,bM.ab bd (a7 Ω Ω),cQ.ab bd (a7 Ω Ω)⟩,by grind⟩;have e:k+(((az x).take j).flatMap λy=>gx s sc eL v q (p+1) (tl.set p y)).length+(gx s sc eL v q (p+1) (aJ.set p (y:Int))).length=k+(((az x).take (j+1)).flatMap λy=>gx s sc eL v q (p+1) (tl.set p y)).length:=by
    rw[bO,u9,bJ,j4,List.flatMap_append,List.flatMap_singleton,c9];omega
   rw[e]at bQ;exact bQ
  .rintro _ j dn rfl ⟨X,av,N⟩;rw[j9 (by rw[<-bB,r9];omega),<-bC]at X;exact aQ z Ω ae S Z ah (X.base W (by grind)) N
end
section
variable{af ag gs b0 bg bi B0:Nat}{R:ak}{n:aJ}{s:am}{aZ:x4}{sc:Λ}{v:Int}
theorem Gs{eL:Nat}(S:∀u∈sc,0<=u/\u<n.d6.length)(W:sc.length<=6):
  rK x8 s2 sp nF [Γ b0,Γ bg,Γ bi,Γ gs] 0 (λk=>k=(bW s sc eL v).length)
   (λk vs X w=>X=k+1/\∃tl aY,(bW s sc eL v)[k]?=σ tl/\vs=[aY]/\aQ .i64 w aY tl) (gR af ag R n s gs b0 bg bi aZ sc eL v B0):=by
 refine⟨nF.enters,λl aA aW w Y _ Z hf ac=>?_⟩;have E:∀D k U aa,ai (λr=>w.heap.size<=r/\¬D r) U aa->gg w.heap.size U aa->aA D k U->aA D k aa:=λD k U aa ae ah=>Y D k U aa (ae.Y λr _ h=>⟨rfl,h⟩) ah;have V:=hf.2.2.1;have ak:=hf.2.2.2.2.1.2;obtain⟨_,_,_,aX⟩:=df V;refine rW func267 ?_;refine aM.cR (bn λgy U a1 j G am=>?_);have an:∀{H:x5}{K:x4->Prop},aj H b0 au [aZ]->K aZ->ad x8 (u5 au (Γ b0)) H K:=λao ap=>by rw[aG (v:=aZ) Ψ (ao.Qz rfl)];exact ap
 refine an (hf.1.2.1.W j) ?_;rw[a8 au.u (V.W j)];refine aM.cR (kM (k:=.i64) au.u al.i Ω Ω λgt aa a2 A J aq=>?_);refine aM.cR (bE au.i λgtb a6 a7 q M av=>?_);refine aM.cR (bw au.i rfl rfl M (by simp[x4.cells]) λba C bb aw ax=>?_);refine aM.cR (bE qC.i λga bc bd e N ay=>?_);rw[lS];refine aM.cR (bw qC.i rfl rfl N (by simp[x4.cells]) λa y be az aB=>?_);have bf:=j.size;have bh:=A.size;have z3:=q.size;have z5:=e.size;have bj:=G.lt;have bk:=J.lt;have bl:=M.lt;have bm:=N.lt;have aC:aj a gy BA [.func (.yield l) #[] #[]]:=(((((aj.W G A).W q).ab C Ω).W e).ab y Ω);have aD:aj a gt al (ints .i64 (o5 sc.length 0)):=((((J.W q).ab C Ω).W e).ab y Ω);have aE:aj a gtb au [.slice (σ ⟨gt,0,ν⟩) sc.length sc.length]:=((aj.W aw e).ab y Ω);have O:aj a ga qC [.func (.func pq) #[] (nj b0 gy gtb bg bi ga gs)]:=az;rw[aG (v:=.func (.func pq) #[] (nj b0 gy gtb bg bi ga gs)) Ψ (O.Qz rfl)];have hm:aH .i64 al a gt (.slice (σ ⟨gt,0,ν⟩) sc.length sc.length) (o5 sc.length 0):=by
  have:=cf.full (n:=sc.length) (k:=1) aD Ξ (by simp only[maxLen];omega);unfold aH;rw[List.length_replicate];exact this
 have aF:=(j.F A).F q;have P:ai (λr=>w.heap.size<=r/\¬False) w a:=(((aF.ab _).F (C.Y λr _ h=>⟨by have h:r=gtb:=h;omega,id⟩)).F (e.ab _)).F (y.Y λr _ h=>⟨by have h:r=ga:=h;omega,id⟩);have aI:cU w a:=((((am.F aq).F av).F ax).F ay).F aB;have aJ:gR af ag R n s gs b0 bg bi aZ sc eL v B0 (λ_=>False) a:=hf.own P λr aK=>⟨Ω,aK.2⟩;have Q:=Te (s:=s) (sc:=sc) (pos:=eL) (v:=v) (tl:=o5 sc.length 0) Ξ;refine(show ip x8 pq (vY 0 b0 gy gtb bg bi ga gs) a _ from(Tj (L:=bW s sc eL v) (B:=w.heap.size) (l:=l) (gy:=gy) (gt:=gt) (gtb:=gtb) (ga:=ga) (pos:=eL) Ω S W ak ⟨Ω,Ω,Ω⟩ E ?_ sc.length 0 (o5 sc.length 0) 0 (λ_=>False) a Ω Ξ (λ_ h=>h.elim) Ω ⟨⟨Ω,id⟩,⟨Ω,id⟩,⟨Ω,id⟩,Ω,id⟩ ⟨aC,aE,O,hm⟩ aJ (E _ _ _ _ P aI.o ac) λi x hi=>?_).free.Y ?_)
 .intro D k tl aY I aL aN aO aP aR z;refine jm.Y (Z D k (k+1) [aY] I aL aN aO ⟨rfl,tl,aY,aP,rfl,aR⟩ z) ?_;rintro u bo (⟨h1,aS,aT,aU,aV⟩|⟨h,_⟩)
  .exact⟨h1,aS,aT (.inr rfl),aU,aV rfl⟩
  .cases h
 .rw[Q]at hi;rw[V0];exact hi
 .rintro _ bp ⟨_,rfl,_,D',_,_,_,_,_,_,z,_⟩;rw[Q,V0]at z;exact .inl ⟨D',_,rfl,z⟩
end
def Gt(m gs b0 bg bi:Nat)(aZ:x4):Prop:=(m<=gs/\m<=b0/\m<=bg/\m<=bi)/\∀r,lc aZ r->m<=r
section
variable{af ag gs b0 bg bi B0 m:Nat}{A R:ak}{n:aJ}{s s':am}{t:aD}{aZ:x4}{sc:Λ}{pos v:Int}{w I:x5}
theorem bD.lt(h:bD w af ag A R n s t){r:Nat}(a:A r\/R r):r<w.heap.size:=by
 obtain⟨⟨j,q,x,y,⟨_,_,e,f⟩,_⟩,_⟩:=h;exact a.elim (f r) (e r)
theorem gR.put{D' S:Nat->Prop}(h:gR af ag R n s gs b0 bg bi aZ sc pos v B0 D w)(j:ai S w I)(hm:Gt m gs b0 bg bi aZ)(z:∀r,S r->r<m\/B0<=r)(B:Laid I)(C:bD I af ag A R n s' t)(E:∀i,aU s' i=aU s i)(F:∀r,A r\/R r->r<B0\/D' r):gR af ag R n s gs b0 bg bi aZ sc pos v B0 D' I:=by
 obtain⟨h1,f,q,x,G,_⟩:=h;have no:∀{r:Nat},m<=r->r<B0->¬S r:=λh1 f q=>by have:=z _ q;omega
 exact⟨h1.ab j ⟨no hm.1.1 f.1,no hm.1.2.1 f.2.1,no hm.1.2.2.1 f.2.2.1,no hm.1.2.2.2 f.2.2.2⟩,f,jw q j λr H a n c e y=>no (hm.2 r ⟨a,n,c,e,y⟩) (x r ⟨a,n,c,e,y⟩) H,x,⟨B,X3 G.2 j.size⟩,A,s',t,C,E,F⟩
theorem Gu{f:bL}{X:x5->Prop}(h:bD w af ag A R n s t)(y:Laid w)(ah:s.ho[j]?=σ f)(B:∀aZ gs b0 bg bi I,Ext w I->Gt w.heap.size gs b0 bg bi aZ->gR af ag R n s gs b0 bg bi aZ f.sc pos v I.heap.size (λ_=>False) I->K (.func (.func nF) #[] #[Γ b0,Γ bg,Γ bi,Γ gs]) I):
  aq x8 rP [Γ af,Δ (j:Int)] w λaZ U=>(Ext w U\/X U)/\aq x8 Bq [Γ af,aZ,Δ pos,Δ v] U K:=by
 refine(md h ah).Y ?_;rintro aZ U _ ⟨q,g,C,hm⟩;refine⟨.inl q,(Tf hm.ls).Y ?_⟩;rintro _ aa _ ⟨x,gs,b0,bg,bi,rfl,a,E,G,H,L⟩;have J:=q.F x;have M:=q.size;have z:=J.size;refine B aZ gs b0 bg bi aa J ⟨⟨Ω,Ω,Ω,Ω⟩,λr e=>(cd hm e).1▸C⟩ ⟨a,⟨a.1.lt,a.2.1.lt,a.2.2.1.lt,a.2.2.2.lt⟩,hm.ls.W x,λr e=>?_,⟨y.W J,o6 _⟩,A,s,t,h.W J,λ_=>rfl,λr e=>.inl ?_⟩
 .have:=cd hm e;have:=x.size;omega
 .have:=h.lt e;omega
end
section
variable{k:Int}{d6:Λ}{s:am}{f:bL}{j pos:Nat}{v:Int}{tl:Λ}
theorem zt{m:Nat}(ah:s.ho[j]?=σ f)(a:f.live≠0)(hm:cj f.an tl 0=σ (m:Int)):(iS s j tl).isSome=s2/\nc s j tl=bu f.an f.cs tl:=by
 unfold iS nc;rw[ah];simp[a,hm]
end
section
variable{w:x5}{af ag:Nat}{A R:ak}{n:aJ}{s:am}{t:aD}
theorem Gv{f:bL}(h:bD w af ag A R n s t)(ai:Laid w)(ah:s.ho[j]?=σ f)(aA:f.live≠0)(ac:∀u,f.sc[pos]?=σ u->v∈aU s u):
  aq x8 J4 [Γ af,Δ (j:Int),Δ (pos:Int),Δ v] w λr I=>r=Δ (eM n.k s f pos v)/\Ext w I:=by
 have ak:=h.2.2.2.1;have am:=x7 ah;obtain⟨O,aS,_⟩:=ak.ho f am;refine jq func145 ?_;refine bn λg1 U aT P z=>?_;refine bn λao aa aV L M=>?_;have z:=aj.W z L;have M:=M;rw[aG Ψ (z.cell rfl)];refine(n2 (h.W (P.F L))).Y ?_;rintro _ aW _ ⟨rfl,Q⟩;refine bE ay.i λS aX a1 V ap=>?_;have a2:=P.size;have a6:=L.size;have z3:=Q.size;have z4:=V.size;have a8:=z.lt;have ba:=M.lt;have bb:=ap.lt;refine bw ay.i rfl rfl ap (by simp[x4.cells]) λbc W bd X=>?_;have X:=X;intro au B _ _;have be:=B.size;have av:=Q.F V;have Y:=((((P.F L).F Q).F V).then W (by rintro r q rfl;omega)).F B;have Z:aj au g1 ez [Γ af]:=((z.W av).ab W Ω).W B;have aw:aj au ao al [Δ (j:Int)]:=((M.W av).ab W Ω).W B;have ax:=X.W B;have bf:=ax.lt;rw[aG Ψ (Z.cell rfl),aG Ψ (Z.cell rfl),aG Ψ (aw.cell rfl)];refine Gu (h.W Y) (ai.W Y) ah λaZ gs b0 bg bi aB C aC aD=>?_;have bh:=C.size;refine⟨Nat,s2,sp,nF,#[Γ b0,Γ bg,Γ bi,Γ gs],0,_,_,_,λD k I=>Ext w I/\aj I g1 ez [Γ af]/\aj I ao al [Δ (j:Int)]/\aj I S ay [Δ ((((bW s f.sc pos v).take k).map (bu f.an f.cs)).foldl min n.k)],
  λ_ _ _ _=>False,rfl,Gs (λu hu=>⟨(O.scope.1 u hu).1,O.d9 u hu⟩) O.scope.2,?_,λ_ _ _ J h=>h.W J,?_,λ_ _ _ _ _ _ _ h=>h,aD,?_,?_,?_,λ_ _ _ h=>h.elim,λ_ _ _ _ h=>h.elim⟩
 .rintro _ _ _ _ ⟨_,_,_,_,rfl,_⟩;rfl
 .rintro D k aE aF N bj ⟨x,E,G,y⟩;have a7:∀{g:Nat}{e:o4}{cs:List x4},g<aB.heap.size->aj aE g e cs->aj aF g e cs:=λbk aH=>aH.ab N λh=>by have:=h.2.1;omega
  exact⟨x.then N λr q h=>by have:=h.2.1;omega,a7 Ω E,a7 Ω G,a7 Ω y⟩
 .exact⟨Y.F C,Z.W C,aw.W C,ax.W C⟩
 .rintro aY D k bl bm bo bp aI ⟨rfl,tl,bq,az,e,aJ⟩ ⟨x,E,G,y⟩;cases e;intro br H _ aK;obtain⟨m,hm⟩:=oY ak am ac (x7 az);obtain⟨aL,N⟩:=zt ah aA hm;rw[aG Ψ ((E.W H).cell rfl),aG Ψ ((G.W H).cell rfl)];refine(vz (h.W (x.F H)) (aJ.W H)).Y ?_;rintro _ bs aN ⟨rfl,aO⟩;have a:=H.F aO;rw[m3 aL,N,bz,bA,aG Ψ ((y.W a).cell rfl),nK];refine aM.cR (bw ay.i rfl rfl (y.W a) Ξ λbt K bx ad aP=>?_);have bB:=a.size;have ae:=(x.F a).then K (by rintro r q rfl;omega);have aQ:=h.W ae;refine⟨⟨D,λr h=>.inl h,λ_ h=>h,(aI.W a).put K aC (λr q=>.inl (by have q:r=S:=q;omega)) (ai.W ae) aQ (λ_=>rfl) λr q=>.inl (by have:=h.lt q;omega),ae,(E.W a).ab K Ω,(G.W a).ab K Ω,?_⟩,aK.F (aN.kD.F aP.kD),(a.ab _).F (K.Y λr _ h=>.inl (by have h:r=S:=h;omega))⟩;have ad:=ad;rw[u9,az,j4,Z2,List.foldl_append];exact ad
 .rintro D k bC rfl ⟨x,E,G,y⟩;rw[aG Ψ (y.cell rfl)];intro bF aR _;refine⟨?_,x.F aR⟩;rw[j9 (o6 _)];rfl
theorem Tk{j pos:Int}(h:bD w af ag A R n s t)(z:Laid w):aq x8 Kk [Γ af,Δ j,Δ pos,Δ v] w λr I=>Ext w I/\r=(match dx s j pos v with|some (f,_,_)=>.tuple #[Δ (eM n.k s f pos.toNat v),Δ 0]|none=>.tuple #[Δ 0,Δ 1]):=by
 refine aE func164 ?_;refine(zp h).Y ?_;rintro _ U _ ⟨a,u,e,rfl,ae⟩;rw[bz,bA];rcases ae with⟨rfl,f,x,ae⟩|⟨rfl,ae⟩
 .rw[ae,bM,ao];refine⟨λh=>m6 rfl h,λ_=>?_⟩;obtain⟨h1,B,C,E,q,G⟩:=ng ae;obtain⟨L,H,M,J⟩:=kc G;obtain⟨j,rfl⟩:=Y6 h1;obtain⟨pos,rfl⟩:=Y6 B;refine(Gv (j:=j) (pos:=pos) (h.W a) (z.W a) C E λu' y=>?_).Y ?_
  .have q:f.sc[pos]?=σ u:=q;rw[q]at y;cases y;unfold aU;rw[H];exact J
  .rintro _ aa _ ⟨rfl,K⟩;exact⟨a.F K,rfl⟩
 .rw[ae,bM,ao];exact⟨λ_=>⟨a,rfl⟩,λh=>m6 Φ h⟩
end
def tk(t:aD):Prop:=∀m,t.marks.getLast? =σ m->m.olds+t.cells.length<100000000/\t.olds.length<=m.olds+t.cells.countP λc=>decide (c.st=m.st)
def eu(ax:List aD)(t:aD):Prop:=i9 t ax/\tk t
theorem i9.m{t:aD}(h:i9 t []):eu [] t:=⟨h,λm hm=>by rw[h.1]at hm;cases hm⟩
theorem eu.room{ax:List aD}{t:aD}(h:eu ax t):Room t:=by
 cases hm:t.marks.getLast? with
 |none=>exact .inl (List.getLast?_eq_none_iff.1 hm)
 |some m=>
  obtain⟨h1,a⟩:=h.2 m hm;have:=List.countP_le_length (p:=λc:Cell=>decide (c.st=m.st)) (l:=t.cells);exact .inr Ω
theorem tk.set{t:aD}{i:Nat}{x:Int}(h:tk t):tk (t.set i x):=by
 unfold aD.set;cases e:t.cells[i]? with
 |none=>exact h
 |some c=>
  obtain⟨f,j⟩:=x6.1 e;cases hm:t.marks.getLast? with
  |none=>
   intro m a
   grind
  |some m=>
   obtain⟨h1,q⟩:=h m hm;simp only;split
   .rename_i r;intro bY a
    grind
   .intro bY a
    grind
theorem eu.set{ax:List aD}{t:aD}{i:Nat}{x:Int}(h:eu ax t):eu ax (t.set i x):=⟨h.1.set,h.2.set⟩
def cA(ax:List aD)(w:x5)(af ag:Nat)(A R:ak)(n:aJ)(s':am)(I:x5):Prop:=ai (eQ w) w I/\Laid I/\∃aS bx,Grow A w aS I/\bD I af ag aS R n s' bx/\eu ax bx/\¬aS 0
def dD(ax:List aD)(w:x5)(af ag:Nat)(A R:ak)(n:aJ)(m:Nat)(D:Nat->Prop)(s':am)(I:x5):Prop:=
 ai (λr=>eQ w r\/w.heap.size<=r) w I/\(Laid I/\w.heap.size<=m/\0<w.heap.size/\(∀r,A r\/R r->r<w.heap.size))/\∃aS bx,Grow A w aS I/\bD I af ag aS R n s' bx/\(eu ax bx/\¬aS 0)/\∀r,aS r->r<m\/D r
section
variable{ax:List aD}{w U aa:x5}{af ag m:Nat}{A R:ak}{n:aJ}{s s' qf:am}{t:aD}{D D' S:Nat->Prop}
theorem dD.start(h:bD w af ag A R n s t)(e:Laid w)(f:¬A 0)(aC:eu ax t)(J:Ext w U)(hm:w.heap.size<=m):dD ax w af ag A R n m D s U:=
 ⟨J.ab _,⟨e.W J,hm,by
  obtain⟨j,q,x,y,⟨h1,_,_,z⟩,_⟩:=h.1
  grind,λr a=>h.lt a⟩,A,t,Grow.W J,h.W J,⟨aC,f⟩,λr a=>.inl (by have:=h.lt (.inl a);omega)⟩
theorem dD.own(h:dD ax w af ag A R n m D s' U)(a:ai S U aa)(C:∀r,S r->m<=r/\¬D r):dD ax w af ag A R n m D s' aa:=by
 obtain⟨h1,⟨f,j,q,s⟩,aS,bx,⟨g1,x,y⟩,e,z,B⟩:=h;refine⟨h1.F (a.Y (by grind)),⟨iH a (by grind) f,j,q,s⟩,aS,bx,⟨?_,x,y⟩,⟨e.1.ab a λr _ E V=>?_,e.2⟩,z,B⟩
 .exact ((g1.Y (by grind)).F (a.Y (by grind)):ai (λr=>A r\/m<=r) w aa).Y (by grind)
 grind
theorem dD.W(h:dD ax w af ag A R n m D s' U)(J:Ext U aa):dD ax w af ag A R n m D s' aa:=h.own (J.ab λ_=>False) λ_ h=>h.elim
theorem dD.qg(h:dD ax w af ag A R n m D s' U):∃aS bx,bD U af ag aS R n s' bx/\eu ax bx/\¬aS 0/\∀{aa:x5}{qf:am}{D' a:Nat->Prop}{f:aD},ai (eQ U) U aa->Grow aS U a aa->bD aa af ag a R n qf f->eu ax f->(∀r,D r->D' r)->(∀r,U.heap.size<=r->r<aa.heap.size->D' r)->
  dD ax w af ag A R n m D' qf aa/\ai (λr=>r<m\/D r) U aa/\∀r,a r->r<m\/D' r:=by
 obtain⟨h1,⟨y,z,B,C⟩,aS,bx,E,F,j,K⟩:=h;refine⟨aS,bx,F,j.1,j.2,λ{aa qf D' a f}G e s H L I=>?_⟩;have M:=h1.size;have J:¬a 0:=λh=>(e.2.1 0 h).elim j.2 Ω;have x:∀r,a r->r<m\/D' r:=λr q=>(e.2.1 r q).elim (by grind) λh=>.inr (I r h (s.lt (.inl q)));refine⟨⟨h1.F (G.Y λr _ h=>?_),⟨iH e.1 j.2 y,z,B,C⟩,a,f,E.F e,s,⟨H,J⟩,x⟩,e.1.Y (by grind),x⟩;by_cases q:w.heap.size<=r
 .omega
 .exact .inl (oN (λo aC V N=>h1.a7 r o aC V (by grind)) h)
theorem dD.open(h:dD ax w af ag A R n m D s' U):∃aS bx,bD U af ag aS R n s' bx/\eu ax bx/\∀{aa:x5}{qf:am}{D' a:Nat->Prop}{e:aD},ai (eQ U) U aa->Grow aS U a aa->bD aa af ag a R n qf e->eu ax e->(∀r,D r->D' r)->(∀r,U.heap.size<=r->r<aa.heap.size->D' r)->
  dD ax w af ag A R n m D' qf aa/\ai (λr=>r<m\/D r) U aa/\∀r,a r->r<m\/D' r:=by
 grind [dD.qg]
theorem dD.done(h:dD ax w af ag A R n m D s' U)(J:Ext U aa):cA ax w af ag A R n s' aa:=by
 obtain⟨h1,⟨e,q,r,s⟩,aS,bx,f,j,a,x⟩:=h.W J;exact⟨h1.Y (by grind),e,aS,bx,f,j,a.1,a.2⟩
end
section
variable{ax:List aD}{w:x5}{af ag:Nat}{A R:ak}{n:aJ}{s:am}{t:aD}
theorem qh{u:Nat}{x:bp}(a:bd n.k n.d6 s)(J:s.d9[u]?=σ x)(ac:v∈az x):eF n (u:Int) v:=by
 have h:=(x6.1 J).1;have j:=a.d9;obtain⟨z,e⟩:=aI (l:=n.d6) (i:=u) Ω;have q:=(a.var _ x z J e).1;have r:=a.eZ.2.2 z (x7 e);have f:=(e2.1 ac).1;refine⟨Ω,Ω,f.1,?_⟩
 grind
theorem Gw{f:bL}{g:Int->Int}(a:bd k d6 s)(ah:s.ho[j]?=σ f):et s j f (er g [] f.an f.cs)=s:=by
 obtain⟨e,h⟩:=ka a (x7 ah);rw[Sz e Ω (by grind)];have:s.ho.set j f=s.ho:=by
  apply Y3
  grind
 unfold et;show{s with ho:=s.ho.set j f}=s;rw[this]
theorem Gx{u:Nat}{f:bL}{x:bp}{F1 F2:S8}{tup un:Int->Int}(h:bD w af ag A R n s t)(aO:Laid w)(bf:¬A 0)(aC:eu ax t)(ah:s.ho[j]?=σ f)(bh:f.live≠0)(hu:f.sc[pos]?=σ (u:Int))(J:s.d9[u]?=σ x)(ac:v∈az x)(h1:∀tl∈bW s f.sc pos v,(0<=tup (bu f.an f.cs tl)/\tup (bu f.an f.cs tl)<=n.k)/\∀{w:x5}{A:ak}{s:am}{t:aD},bD w af ag A R n s t->aq x8 F1 [Γ af,Δ (bu f.an f.cs tl),Δ c] w λr I=>r=Δ (tup (bu f.an f.cs tl))/\Ext w I)(aP:(0<=un (x.un.getD v.toNat 0)/\un (x.un.getD v.toNat 0)<=n.k)/\∀{w:x5}{A:ak}{s:am}{t:aD},bD w af ag A R n s t->aq x8 F2 [Γ af,Δ (x.un.getD v.toNat 0),Δ c] w λr I=>r=Δ (un (x.un.getD v.toNat 0))/\Ext w I):
  aq x8 J5 [.agg #[.func (.func F1) #[] #[],.func (.func F2) #[] #[]],Γ af,Δ (j:Int),Δ (pos:Int),Δ v,Δ c] w λ_ I=>cA ax w af ag A R n (fA s j f pos u x v tup un) I:=by
 have B:=h.2.2.2.1;have ad:=x7 ah;obtain⟨ae,b2,_⟩:=B.ho f ad;have aQ:∀u',f.sc[pos]?=σ u'->v∈aU s u':=by grind [aU]
 have bj:=Gh B ad aQ;refine jq func148 ?_;refine bn λbl U b3 aR N=>?_;refine bn λg1 aa b4 ao a=>?_;refine bn λb5 b6 b7 W q=>?_;refine bn λb8 y b9 X O=>?_;have N:aj y bl rU [.func (.func F1) #[] #[],.func (.func F2) #[] #[]]:=((aj.W N ao).W W).W X;have a:aj y g1 ez [Γ af]:=(aj.W a W).W X;have q:=aj.W q X;have O:=O;have ap:=((aR.F ao).F W).F X;have ca:=aR.size;have cb:=ao.size;have z3:=W.size;have cc:=ap.size;have aT:=N.lt;have C:=a.lt;have aV:=q.lt;have aW:=O.lt;rw[aG Ψ (a.cell rfl),aG Ψ (q.cell rfl)];refine(md (h.W ap) ah).Y ?_;rintro cd ce _ ⟨bm,_,_,bo⟩;rw[bk au.u al.i Ψ bo.ls hu];intro cf bq _ _;have E:=bm.F bq;have av:=ap.F E;have z46:=E.size;rw[aG Ψ ((a.W E).cell rfl),aG Ψ ((a.W E).cell rfl),aG Ψ ((q.W E).cell rfl)];refine Gu (h.W av) (aO.W av) ah λaZ gs b0 bg bi aX aw br bs=>?_;have cg:=aw.size;have bt:=E.F aw;refine⟨Nat,s2,sp,nF,#[Γ b0,Γ bg,Γ bi,Γ gs],0,_,_,_,
  λD k I=>dD ax w af ag A R n w.heap.size D (et s j f (er tup ((bW s f.sc pos v).take k) f.an f.cs)) I/\(ai (λr=>r<w.heap.size\/aX.heap.size<=r) y I/\aX.heap.size<=I.heap.size),
  λ_ _ _ _=>False,rfl,Gs (λu hu=>⟨(ae.scope.1 u hu).1,ae.d9 u hu⟩) ae.scope.2,?_,λ_ _ _ J h=>h.W J,?_,by grind,bs,?_,?_,?_,by grind,by grind⟩
 .grind
 .rintro D k ch ci P cj ⟨G,H,ay⟩;exact⟨G.own P (by grind),H.F (P.Y Ω),X3 ay P.size⟩
 .refine⟨?_,bt.ab _,o6 _⟩;have e:et s j f (er tup ((bW s f.sc pos v).take 0) f.an f.cs)=s:=Gw B ah;rw[e];exact dD.start h aO bf aC (av.F aw) (o6 _)
 .rintro aY D k ck aA cl cm bw ⟨rfl,tl,cn,aB,e,a1⟩ ⟨G,H,ay⟩;cases e;intro cp Q _ bx;obtain⟨m,hm⟩:=oY B ad aQ (x7 aB);obtain⟨bB,bC⟩:=Gi B ah bj aB hm;obtain⟨⟨bE,bF⟩,bG⟩:=h1 tl (x7 aB);have a7:∀{S:x5}{g:Nat}{e:o4}{cs:List x4},Ext aA S->w.heap.size<=g->g<y.heap.size->aj y g e cs->aj S g e cs:=λJ Y bH aE=>(aE.ab H Ω).W J;have bI:=(x6.1 ah).1;have a2:(et s j f (er tup ((bW s f.sc pos v).take k) f.an f.cs)).ho[j]?=σ {f with cs:=er tup ((bW s f.sc pos v).take k) f.an f.cs}:=Z6 bI;obtain⟨Y,P⟩:=zt a2 bh hm;obtain⟨A9,t9,aF,a6,aH⟩:=G.open;rw[aG Ψ ((a7 Q Ω C a).cell rfl),aG Ψ ((a7 Q Ω aV q).cell rfl)];refine(vz (aF.W Q) (a1.W Q)).Y ?_;rintro _ cq bJ ⟨rfl,bK⟩;rw[m3 Y,P,bz,bA];intro bM bN _ bO;have z:=(Q.F bK).F bN;rw[aG Ψ ((a7 z Ω C a).cell rfl),aG Ψ ((a7 z Ω aV q).cell rfl),
   aN rU.p 0 (a7 z Ω aT N) rfl,aG Ψ ((a7 z Ω C a).cell rfl),aG Ψ ((a7 z Ω aW O).cell rfl)]
  show aq x8 F1 [Γ af,Δ (bu f.an (er tup ((bW s f.sc pos v).take k) f.an f.cs) tl),Δ c] bM _;rw[bB];refine(bG (aF.W z)).Y ?_;rintro _ cr bP ⟨rfl,a8⟩;have V:=z.F a8;refine⟨.inl a8,(RL (aF.W V) a6.room (a1.W V)).Y ?_⟩;rintro r ba bQ ⟨_,_,aI⟩;obtain⟨_,Z,aS,bR,bS,aJ,K⟩:=aI Y ⟨bE,bF⟩ _ m a2 hm;rw[bC]at K;have ct:=V.size;have cu:=Z.size;obtain⟨bb,aK,bT⟩:=aH (D':=λr=>D r\/aA.heap.size<=r/\r<ba.heap.size) (iN V Z) ((Grow.W V).F aJ) K a6.set (by grind) Ω;refine⟨⟨λr=>D r\/aA.heap.size<=r/\r<ba.heap.size,λr h=>h,by grind,?_,bb,H.F (aK.Y (by grind)),Ω⟩,bx.F ((((bJ.F bO).F bP).F bQ).kD),aK.Y (by grind)⟩;refine bw.put aK br (λr L=>?_) bb.2.1.1 K (λ_=>rfl) λr L=>?_
  .grind
  .rcases L with L|L
   .exact (bT r L).imp Ω id
   .exact .inl (by have:=h.lt (.inr L);omega)
 .rintro D k bU rfl ⟨G,H,ay⟩;rw[j9 (o6 _)]at G;have bc:=qh B J ac;obtain⟨cw,cz,aL,bd,aH⟩:=G.open;have a7:∀{S:x5}{g:Nat}{e:o4}{cs:List x4},Ext bU S->w.heap.size<=g->g<y.heap.size->aj y g e cs->aj S g e cs:=λJ Y bH aE=>(aE.ab H Ω).W J;rw[aG Ψ ((a7 (Ext.refl _) Ω C a).cell rfl)];refine(p5 aL).Y ?_;rintro _ cB _ ⟨rfl,bV⟩;have bX:fz (et s j f (er tup (bW s f.sc pos v) f.an f.cs)) (u:Int).toNat v.toNat=x.un.getD v.toNat 0:=by
   grind [fz,u7,et]
  rw[m3 bc,bX,bz,bA];intro bY bZ _ _;have M:=bV.F bZ;rw[aG Ψ ((a7 M Ω C a).cell rfl),aN rU.p 1 (a7 M Ω aT N) rfl,aG Ψ ((a7 M Ω C a).cell rfl),aG Ψ ((a7 M Ω aW O).cell rfl)];show aq x8 F2 [Γ af,Δ (x.un.getD v.toNat 0),Δ c] bY _;refine(aP.2 (aL.W M)).Y ?_;rintro _ cC _ ⟨rfl,be⟩;have aM:=M.F be;refine⟨.inl be,(FE (aL.W aM) bd.room).Y ?_⟩;rintro r cD _ ⟨_,_,aI⟩;obtain⟨_,Z,aS,bR,bS,aJ,K⟩:=aI bc aP.1;have e:ly (et s j f (er tup (bW s f.sc pos v) f.an f.cs)) (u:Int).toNat v.toNat (un (x.un.getD v.toNat 0))=fA s j f pos u x v tup un:=by
   unfold ly fA eR;rw[u7,show(et s j f (er tup (bW s f.sc pos v) f.an f.cs)).d9[u]?=σ x from J]
  rw[e]at K;intro cE b1 _;exact(aH (iN aM Z) ((Grow.W aM).F aJ) K bd.set (by grind) λ_ _ _=>trivial).1.done b1
end
theorem tm(h e:Nat){l a:Nat}(f:l<256)(hm:a<256):(256*h+l) &&& (256*e+a)=256*(h &&& e)+(l &&& a):=by
 have j:l &&& a<2 ^ 8:=Nat.and_lt_two_pow _ hm;apply Nat.eq_of_testBit_eq;intro i;rw[Nat.testBit_and,show 256=2 ^ 8 from rfl,Nat.testBit_two_pow_mul_add _ f,Nat.testBit_two_pow_mul_add _ hm,Nat.testBit_two_pow_mul_add _ j]
 grind
def iW(m x:Nat):Nat:=(x / 2 &&& m)+(x &&& m)
def jJ(m x:Nat):Nat:=(x / 4 &&& m)+(x &&& m)
def lF(m x:Nat):Nat:=(x / 16+x) &&& m
def dg(a:Nat):Nat:=lF 15 (jJ 51 (iW 85 a))
theorem Tl:∀e<2,∀l<256,(128*e+l / 2) &&& 85=l / 2 &&& 85:=by decide+kernel
theorem Tm:∀e<4,∀l<256,(64*e+l / 4) &&& 51=l / 4 &&& 51:=by decide+kernel
theorem Tn:∀e<5,∀l<69,(16*e+l / 16+l) &&& 15=(l / 16+l) &&& 15:=by decide+kernel
theorem o1:∀l<256,iW 85 l<256/\jJ 51 (iW 85 l)<69/\jJ 51 (iW 85 l) % 16<5/\dg l<=8/\(dg l=0->l=0):=by decide+kernel
theorem vZ(h a:Nat){l:Nat}(e:l<256):iW (256*a+85) (256*h+l)=256*iW a h+iW 85 l:=by
 unfold iW;rw[show(256*h+l) / 2=256*(h / 2)+(128*(h % 2)+l / 2) by omega,tm _ _ Ω Ω,tm _ _ e Ω,Tl _ Ω _ e];omega
theorem v7(h a:Nat){l:Nat}(e:l<256):jJ (256*a+51) (256*h+l)=256*jJ a h+jJ 51 l:=by
 unfold jJ;rw[show(256*h+l) / 4=256*(h / 4)+(64*(h % 4)+l / 4) by omega,tm _ _ Ω Ω,tm _ _ e Ω,Tm _ Ω _ e];omega
theorem wa(h a:Nat){l:Nat}(e:l<69)(he:h % 16<5):lF (256*a+15) (256*h+l)=256*lF a h+lF 15 l:=by
 unfold lF;rw[show(256*h+l) / 16+(256*h+l)=256*(h / 16+h)+(16*(h % 16)+l / 16+l) by omega,tm _ _ Ω Ω,Tn _ he _ e]
def four(a b c d:Nat):Nat:=256*(256*(256*d+c)+b)+a
theorem To{a b c d:Nat}(e:a<256)(f:b<256)(h:c<256)(j:d<256):iW 6148914691236517205 (four a b c d)=four (iW 85 a) (iW 85 b) (iW 85 c) (iW 85 d):=by
 unfold four;rw[show 6148914691236517205=256*(256*(256*(256*1431655765+85)+85)+85)+85 from rfl,vZ _ _ e,vZ _ _ f,vZ _ _ h];have:=vZ 0 1431655765 j
 grind [iW]
theorem Tp{a b c d:Nat}(e:a<256)(f:b<256)(h:c<256)(j:d<256):jJ 3689348814741910323 (four a b c d)=four (jJ 51 a) (jJ 51 b) (jJ 51 c) (jJ 51 d):=by
 unfold four;rw[show 3689348814741910323=256*(256*(256*(256*858993459+51)+51)+51)+51 from rfl,v7 _ _ e,v7 _ _ f,v7 _ _ h];have:=v7 0 858993459 j
 grind [jJ]
theorem Tq{a b c d:Nat}(e:a<69)(f:b<69/\b % 16<5)(h:c<69/\c % 16<5)(j:d<69/\d % 16<5):lF 1085102592571150095 (four a b c d)=four (lF 15 a) (lF 15 b) (lF 15 c) (lF 15 d):=by
 unfold four;rw[show 1085102592571150095=256*(256*(256*(256*252645135+15)+15)+15)+15 from rfl,wa _ _ e Ω,wa _ _ f.1 Ω,wa _ _ h.1 Ω];have:=wa 0 252645135 j.1 Ω
 grind [lF]
def rp(x:Nat):Nat:=dg (x % 256)+dg (x / 256 % 256)+dg (x / 65536 % 256)+dg (x / 16777216)
theorem Tr{x:Nat}(h:x<4294967296):rp x=0↔x=0:=by
 constructor
 .intro a;unfold rp at a;have h1:=(o1 (x % 256) Ω).2.2.2.2 Ω;have e:=(o1 (x / 256 % 256) Ω).2.2.2.2 Ω;have f:=(o1 (x / 65536 % 256) Ω).2.2.2.2 Ω;have j:=(o1 (x / 16777216) Ω).2.2.2.2 Ω;omega
 .rintro rfl;decide
theorem Gy{x:Nat}(J:x<4294967296):aq x8 Jh [.int .u64 (x:Int)] w λv I=>v=Δ (rp x:Int)/\Ext w I:=by
 obtain⟨a,b,c,d,E,G,H,L,e,ag,ah,ai,aj⟩:∃a b c d,a<256/\b<256/\c<256/\d<256/\x=four a b c d/\a=x % 256/\b=x / 256 % 256/\c=x / 65536 % 256/\d=x / 16777216:=
  ⟨x % 256,x / 256 % 256,x / 65536 % 256,x / 16777216,Ω,Ω,Ω,Ω,by grind [four],rfl,rfl,rfl,rfl⟩
 obtain⟨O,P,a3,a4,_⟩:=o1 a E;obtain⟨Q,R,S,ak,_⟩:=o1 b G;obtain⟨U,V,W,am,_⟩:=o1 c H;obtain⟨d1,d2,d3,d4,_⟩:=o1 d L;have g1:=To E G H L;have X:=Tp O Q U d1;have Y:=Tq P ⟨R,S⟩ ⟨V,W⟩ ⟨d2,d3⟩;have Z:rp x=dg a+dg b+dg c+dg d:=by grind [rp]
 rw[<-e]at g1;have aa:iW 6148914691236517205 x<4294967296:=by grind [four]
 have M:jJ 3689348814741910323 (iW 6148914691236517205 x)<4294967296:=by grind [four]
 have A:lF 1085102592571150095 (jJ 3689348814741910323 (iW 6148914691236517205 x))=four (dg a) (dg b) (dg c) (dg d):=by rw[g1,X,Y];rfl
 have ab:four (dg a) (dg b) (dg c) (dg d)<4294967296:=by grind [four]
 refine aE func69 ?_;have s:∀{t:o4}{cx cy:Bool}{K:x4->Prop}(p q:Nat),p+q<18446744073709551616->ad x8 (aT .add t cx cy (.int .u64 (p:Int)) (.int .u64 (q:Int))) w K=K (.int .u64 ((p+q:Nat):Int)):=λp q h=>by
  rw[aR,lw Ω Ω];rfl
 have small:∀(p m:Nat),p &&& m<=p:=λp m=>Nat.and_le_left;rw[show(1:Int)=((1:Nat):Int)from rfl,mJ Ω,show(6148914691236517205:Int)=((6148914691236517205:Nat):Int)from rfl,u64_and Ω Ω,u64_and Ω Ω,s (x / 2 ^ 1 &&& 6148914691236517205) (x &&& 6148914691236517205) (by grind)];obtain⟨y,B⟩:∃y,(x / 2 ^ 1 &&& 6148914691236517205)+(x &&& 6148914691236517205)=y:=⟨_,rfl⟩;rw[B];have B:iW 6148914691236517205 x=y:=B;rw[B]at aa M A;rw[show(2:Int)=((2:Nat):Int)from rfl,mJ Ω,show(3689348814741910323:Int)=((3689348814741910323:Nat):Int)from rfl,u64_and Ω Ω,u64_and Ω Ω,s (y / 2 ^ 2 &&& 3689348814741910323) (y &&& 3689348814741910323) (by grind)];obtain⟨z,C⟩:∃z,(y / 2 ^ 2 &&& 3689348814741910323)+(y &&& 3689348814741910323)=z:=⟨_,rfl⟩;rw[C];have C:jJ 3689348814741910323 y=z:=C;rw[C]at M A;rw[show(4:Int)=((4:Nat):Int)from rfl,mJ Ω,s (z / 2 ^ 4) z Ω,show(1085102592571150095:Int)=((1085102592571150095:Nat):Int)from rfl,u64_and Ω Ω];have A:z / 2 ^ 4+z &&& 1085102592571150095=four (dg a) (dg b) (dg c) (dg d):=A;rw[A];obtain⟨j,N⟩:∃j,four (dg a) (dg b) (dg c) (dg d)=j:=⟨_,rfl⟩;rw[N]at ab ⊢;unfold four at N;rw[show(8:Int)=((8:Nat):Int)from rfl,mJ Ω,s j (j / 2 ^ 8) Ω];obtain⟨r,ac⟩:∃r,j+j / 2 ^ 8=r:=⟨_,rfl⟩;rw[ac];rw[show(16:Int)=((16:Nat):Int)from rfl,mJ Ω,s r (r / 2 ^ 16) Ω];obtain⟨f,ae⟩:∃f,r+r / 2 ^ 16=f:=⟨_,rfl⟩;rw[ae];rw[show(32:Int)=((32:Nat):Int)from rfl,mJ Ω,s f (f / 2 ^ 32) Ω,fR gi.u al.u,lm Ω Ω,show(127:Int)=((127:Nat):Int)from rfl,Fr Ω Ω];refine⟨?_,Ext.refl _⟩;rw[Z,show 127=2 ^ 7-1 from rfl,Nat.and_two_pow_sub_one_eq_mod];have an:j / 2 ^ 8=65536*dg d+256*dg c+dg b:=Ω
 have ao:r / 2 ^ 16=256*dg d+(dg c+dg d):=Ω
 have ap:f / 2 ^ 32=0:=Ω
 have au:f=128*(131072*dg d+512*(dg c+dg d)+2*(dg b+dg c+dg d))+(dg a+dg b+dg c+dg d):=Ω
 have af:(f+f / 2 ^ 32) % 2 ^ 7=dg a+dg b+dg c+dg d:=Ω
 rw[af]
theorem js{b n:Nat}(a:mK b n):aq x8 A2 [kq b n] w λr I=>(∃q:Int,r=Δ q/\(q=0↔b=0))/\Ext w I:=by
 have e:b<4294967296:=by
  have:=a.2;have:(2:Nat) ^ n<=2 ^ 32:=T2 Ω a.1;omega
 refine aE func26 ?_;refine bn λg U s f h=>?_;rw[aN ci.p 0 h rfl];refine(Gy e).Y ?_;rintro _ aa _ ⟨rfl,j⟩;refine⟨⟨_,rfl,?_⟩,f.F j⟩
 grind [Tr]
def qi(ax:List aD)(w:x5)(af ag:Nat)(A R:ak)(n:aJ)(s:am)(a:fL)(r:x4)(I:x5):Prop:=r=Δ (bh n.k s a).2/\cA ax w af ag A R n (bh n.k s a).1 I
section
variable{ax:List aD}{w:x5}{af ag:Nat}{A R:ak}{n:aJ}{s:am}{t:aD}{a:fL}
theorem cA.same(h:bD w af ag A R n s t)(a:Laid w)(e:¬A 0)(aC:eu ax t)(J:Ext w I):cA ax w af ag A R n s I:=(dD.start (m:=w.heap.size) (D:=λ_=>False) h a e aC J (o6 _)).done (Ext.refl _)
theorem cA.before{s':am}(J:Ext w U)(h:cA ax U af ag A R n s' I):cA ax w af ag A R n s' I:=by
 obtain⟨h1,a,aS,bx,e,f⟩:=h;exact⟨iN J h1,a,aS,bx,(Grow.W J).F e,f⟩
theorem zu{j pos u:Int}{f:bL}{x:bp}(h:dx s j pos v=σ (f,u,x)):∃q e u':Nat,j=q/\pos=e/\u=u'/\s.ho[q]?=σ f/\f.live≠0/\f.sc[e]?=σ (u':Int)/\s.d9[u']?=σ x/\v∈az x/\∀r,f.sc[e]?=σ r->v∈aU s r:=by
 obtain⟨h1,A,B,C,a,E⟩:=ng h;obtain⟨F,w,G,y⟩:=kc E;obtain⟨j,rfl⟩:=Y6 h1;obtain⟨pos,rfl⟩:=Y6 A;obtain⟨u,rfl⟩:=Y6 F;refine⟨j,pos,u,rfl,rfl,rfl,B,C,a,w,y,λu' z=>?_⟩;have a:f.sc[pos]?=σ (u:Int):=a;rw[a]at z;cases z;unfold aU;rw[w];exact y
theorem zv(hk:a.kind=0)(h:bD w af ag A R n s t)(z:Laid w)(E:¬A 0)(aC:eu ax t):aq x8 Jk [Γ af,Δ a.i,Δ a.pos,Δ a.v,Δ a.c] w (qi ax w af ag A R n s a):=by
 have H:=h.2.2.2.1;refine aE func74 ?_;refine(zp h).Y ?_;rintro _ U _ ⟨y,u,e,rfl,ae⟩;rw[bz,bA];have q:bh n.k s a=match dx s a.i a.pos a.v with
  |none=>(s,1)
  |some (f,u,x)=>if dI n.k a.c (eM n.k s f a.pos.toNat a.v)≠0 then(s,dI n.k a.c (eM n.k s f a.pos.toNat a.v))else(fA s a.i.toNat f a.pos.toNat u.toNat x a.v (λg=>cK n.k g a.c) λg=>b6 n.k g a.c,0):=by unfold bh;rw[m3 hk]<;>cases dx s a.i a.pos a.v<;>rfl
 rcases ae with⟨rfl,f,x,ae⟩|⟨rfl,ae⟩
 rotate_left
 .rw[ae]at q;rw[bM,ao];exact⟨λ_=>⟨by rw[q],by rw[q];exact cA.same h z E aC y⟩,λh=>m6 Φ h⟩
 rw[ae]at q;rw[bM,ao];refine⟨λh=>m6 rfl h,λ_=>?_⟩;obtain⟨j,pos,u,S,T,V,ah,K,hu,J,ac,W⟩:=zu ae;have X:=x7 ah;simp only[S,T,V,u7]at q ⊢;refine(Gv (j:=j) (pos:=pos) (h.W y) (z.W y) ah K W).Y ?_;rintro _ aa _ ⟨rfl,L⟩;refine(vT (h.W (y.F L))).Y ?_;rintro _ ai _ ⟨Y,rfl⟩;have B:=(y.F L).F Y;refine dh (λI=>cA ax w af ag A R n (bh n.k s a).1 I) ?_ λaA M=>?_
 .intro I Z;refine⟨?_,Z⟩;rw[q];split
  .rfl
  .rename_i r;rw[X1.1 r]
 rw[bm,ao];refine⟨λr=>?_,λr=>M _ ?_⟩
 .obtain⟨C,hm⟩:=nf (λh=>h r);rw[ds (cs:=#[.func (.func po) #[] #[],.func (.func pp) #[] #[]]) Ψ];have N:∀t∈bW s f.sc pos a.v,a.c<=bu f.an f.cs t:=λt ab=>((qe _ _ _).1 hm).2 _ (l9.2 ⟨t,ab,rfl⟩);have O:=ik (v:=a.v.toNat) H J;refine(Gx (t:=t) (F1:=po) (F2:=pp) (tup:=λg=>cK n.k g a.c) (un:=λg=>b6 n.k g a.c) (h.W B) (z.W B) E aC ah K hu J ac (λtl P=>?_) ⟨oX O C.1,λ{w A s t}G=>th G O C⟩).Y ?_
  .have Q:=nh (t:=tl) H X;exact⟨oW Q ⟨C.1,N tl P⟩,λ{w A s t}G=>vU G Q C (.inr (N tl P))⟩
  .rintro _ aj _ ad;refine M _ ?_;rw[q,m5 (λh=>h r)];exact ad.before B
 .rw[q,m3 r];exact cA.same h z E aC B
theorem Gz(hk:a.kind=1)(h:bD w af ag A R n s t)(C:Laid w)(E:¬A 0)(aC:eu ax t):aq x8 Jl [Γ af,Δ a.i,Δ a.pos,Δ a.v,Δ a.c] w (qi ax w af ag A R n s a):=by
 have G:=h.2.2.2.1;refine aE func75 ?_;refine(zp h).Y ?_;rintro _ U _ ⟨y,u,e,rfl,ae⟩;rw[bz,bA];have q:bh n.k s a=match dx s a.i a.pos a.v with
  |none=>(s,1)
  |some (f,u,x)=>if dI n.k a.c (x.un.getD a.v.toNat 0)≠0 then(s,dI n.k a.c (x.un.getD a.v.toNat 0))else(fA s a.i.toNat f a.pos.toNat u.toNat x a.v (λg=>b6 n.k g a.c) λg=>cK n.k g a.c,0):=by unfold bh;rw[m5 Ω,m3 hk]<;>cases dx s a.i a.pos a.v<;>rfl
 rcases ae with⟨rfl,f,x,ae⟩|⟨rfl,ae⟩
 rotate_left
 .rw[ae]at q;rw[bM,ao];exact⟨λ_=>⟨by rw[q],by rw[q];exact cA.same h C E aC y⟩,λh=>m6 Φ h⟩
 rw[ae]at q;rw[bM,ao];refine⟨λh=>m6 rfl h,λ_=>?_⟩;obtain⟨j,pos,u,O,P,Q,ah,S,hu,J,ac,Z⟩:=zu ae;have T:=x7 ah;simp only[O,P,Q,u7]at q ⊢;refine(p5 (i:=(u:Int)) (v:=a.v) (h.W y)).Y ?_;rintro _ aa _ ⟨rfl,K⟩;have V:fz s (u:Int).toNat a.v.toNat=x.un.getD a.v.toNat 0:=by
  unfold fz;rw[u7,J]
 rw[m3 (qh G J ac),V,bz,bA];refine(vT (h.W (y.F K))).Y ?_;rintro _ ab _ ⟨W,rfl⟩;have z:=(y.F K).F W;refine dh (λI=>cA ax w af ag A R n (bh n.k s a).1 I) ?_ λaA L=>?_
 .intro I X;refine⟨?_,X⟩;rw[q];split
  .rfl
  .rename_i r;rw[X1.1 r]
 rw[bm,ao];refine⟨λr=>?_,λr=>L _ ?_⟩
 .obtain⟨B,hm⟩:=nf (λh=>h r);rw[ds (cs:=#[.func (.func pp) #[] #[],.func (.func po) #[] #[]]) Ψ];have M:=ik (v:=a.v.toNat) G J;refine(Gx (t:=t) (F1:=pp) (F2:=po) (tup:=λg=>b6 n.k g a.c) (un:=λg=>cK n.k g a.c) (h.W z) (C.W z) E aC ah S hu J ac (λtl ad=>?_) ⟨oW M ⟨B.1,hm⟩,λ{w A s t}H=>vU H M B (.inr hm)⟩).Y ?_
  .have N:=nh (t:=tl) G T;exact⟨oX N B.1,λ{w A s t}H=>th H N B⟩
  .rintro _ ai _ Y;refine L _ ?_;rw[q,m5 (λh=>h r)];exact Y.before z
 .rw[q,m3 r];exact cA.same h C E aC z
end
def jK(s:am)(i:Int):Option bp:=match(if 0<=i then s.d9[i.toNat]? else ν)with
 |some x=>if x.gone=0 then σ x else ν
 |none=>ν
theorem zw{s:am}{i:Int}{x:bp}(h:jK s i=σ x):0<=i/\s.d9[i.toNat]?=σ x/\x.gone=0:=by
 grind [jK]
theorem GA{g:Int->Int}{un L:Λ}(h:L[j]?=σ v):eG g un (L.take (j+1))=(eG g un (L.take j)).set v.toNat (g ((eG g un (L.take j)).getD v.toNat 0)):=by
 grind [eG,u9]
theorem Ts{i:Nat}:∀(L M:Λ)(s:am),ij s i v (L++M)=ij (ij s i v L) i v M
 :=by
 intro a;induction a<;>grind [ij]
theorem Tt{s:am}{i:Nat}{w:Int}{L:Λ}(h:L[j]?=σ w):ij s i v (L.take (j+1))=if w≠v then eb (ij s i v (L.take j)) i w.toNat else ij s i v (L.take j):=by
 rw[u9,h,j4,Ts];rfl
def mh(m u:Int):Int:=if m<0\/u<m then u else m
theorem Tu:∀(l:Λ)(m:Int),0<=m->(∀c∈l,0<=c)->l.foldl mh m=l.foldl min m
 :=by
 intro a;induction a<;>grind [mh]
theorem Tv{x:bp}(h:∀v∈az x,0<=x.un.getD v.toNat 0):((az x).map λv=>x.un.getD v.toNat 0).foldl mh (-1)=jl x:=by
 unfold jl;have a:∀c∈(az x).map (λv=>x.un.getD v.toNat 0),0<=c:=by grind
 generalize (az x).map (λv=>x.un.getD v.toNat 0)=l at a;cases l with
 |nil=>rfl
 |cons c l=>exact Tu l c (a c (.head _)) λc h=>a c (.tail _ h)
section
variable{ax:List aD}{w:x5}{af ag:Nat}{A R:ak}{n:aJ}{s:am}{t:aD}{a:fL}
theorem GB{i:Int}(h:bD w af ag A R n s t):aq x8 J6 [Γ af,Δ i] w λr I=>Ext w I/\r=Δ (if(jK s i).isSome=s2 then 0 else 1):=by
 have a:=h.2.2.2.1;have G:=a.d9;refine aE func149 ?_;rw[dl ez.u];simp only[b8,bc];refine a6 (λr U=>r= .bool (!(jK s i).isSome)/\Ext w U) ?_ ?_
 .rintro _ U ⟨rfl,H⟩;rw[cb]
  grind
 intro aA f;refine(vw h).Y ?_;rintro _ aa _ ⟨rfl,e⟩;rw[cb];refine⟨λB=>f _ _ ⟨?_,e⟩,λB=>?_⟩
 .grind [jK,dw]
 refine(jF (i:=i) (h.W e)).Y ?_;rintro _ K _ ⟨⟨b,m,rfl,j⟩,C⟩;refine(xz).Y ?_;rintro _ L _ ⟨rfl,E⟩;rw[bm];refine f _ _ ⟨?_,(e.F C).F E⟩;congr 1;by_cases q:0<=i/\i<n.d6.length
 .obtain⟨x,J⟩:=aI (l:=s.d9) (i:=i.toNat) Ω;obtain⟨z,y⟩:=aI (l:=n.d6) (i:=i.toNat) Ω;have M:=a.eZ.2.2 z (x7 y);have N:=(a.var _ x z J y).1;have hm:=(j.2.2 x q.1 J).1
  grind [dw,jK]
 .obtain⟨rfl,rfl⟩:=j.2.1 q
  grind [jK]
theorem GC{u:Nat}{x:bp}{F1 F2:S8}{g z:Int->Int}(h:bD w af ag A R n s t)(aB:Laid w)(aY:¬A 0)(aC:eu ax t)(J:s.d9[u]?=σ x)(h1:∀v∈az x,(0<=g (x.un.getD v.toNat 0)/\g (x.un.getD v.toNat 0)<=n.k)/\∀{w:x5}{A:ak}{s:am}{t:aD},bD w af ag A R n s t->aq x8 F1 [Γ af,Δ (x.un.getD v.toNat 0),Δ c] w λr I=>r=Δ (g (x.un.getD v.toNat 0))/\Ext w I)(aE:(0<=z s.zero/\z s.zero<=n.k)/\∀{w:x5}{A:ak}{s':am}{t:aD},bD w af ag A R n s' t->aq x8 F2 [Γ af,Δ s.zero,Δ c] w λr I=>r=Δ (z s.zero)/\Ext w I):
  aq x8 J7 [Γ af,Δ (u:Int),Δ c,.func (.func F1) #[] #[],.func (.func F2) #[] #[]] w λ_ I=>cA ax w af ag A R n (iT s u x g z) I:=by
 have aZ:=h.2.2.2.1;have aF:=(x6.1 J).1;refine jq func150 ?_;refine bn λg1 U bt aH a=>?_;refine bn λa1 aa bu W q=>?_;refine bn λbw bx bB K C=>?_;refine bn λbC B bE L M=>?_;have a:aj B g1 ez [Γ af]:=((aj.W a W).W K).W L;have q:aj B a1 al [Δ (u:Int)]:=(aj.W q K).W L;have C:=aj.W C L;have M:=M;have N:=((aH.F W).F K).F L;have bF:=aH.size;have bG:=W.size;have z3:=K.size;have bH:=N.size;have O:=a.lt;have aI:=q.lt;have aJ:=C.lt;have a2:=M.lt;rw[aG Ψ (a.cell rfl),aG Ψ (q.cell rfl)];refine(jF (i:=(u:Int)) (h.W N)).Y ?_;rintro _ bI _ ⟨⟨b,bJ,rfl,aK⟩,aL⟩;refine(mM).Y ?_;rintro _ X _ ⟨a6,aM,rfl,bK,aN⟩;have bL:=lA aK Ω (show s.d9[(u:Int).toNat]?=σ x by grind);have E:=aL.F a6;have z5:=aL.size;have z46:=E.size;have bM:=aN.lt;have a8:=qa x;have ba:eR s u x (eG g x.un ((az x).take 0))=s:=by
  unfold eR;show{s with d9:=s.d9.set u x}=s;have:s.d9.set u x=s.d9:=by
   apply Y3
   grind
  rw[this]
 refine kH.old ⟨_,sp,jQ,#[Γ aM],_,_,_,_,λj I=>dD ax w af ag A R n w.heap.size (λr=>X.heap.size<=r) (eR s u x (eG g x.un ((az x).take j))) I/\ai (λr=>r<w.heap.size\/X.heap.size<=r) X I,λ_ _ _=>False,rfl,(mL (g:=aM) aK.1).s,?_,
  λ_ _ J h=>⟨h.1.W J,h.2.W J⟩,λ_ _ _ J h=>⟨h.1.W J,h.2.F (J.ab _)⟩,by grind,⟨aN,aB.W (N.F E)⟩,?_,?_,?_,by grind,by grind⟩
 .grind
 .refine⟨?_,ai.refl _ _⟩;rw[ba];exact dD.start h aB aY aC (N.F E) (o6 _)
 .rintro _ j _ bb ⟨bc,bN⟩ ⟨bO,rfl,v,ac,bd⟩ ⟨P,G⟩;cases bd;intro bP Q _ _;have Y:(az x)[j]?=σ (v:Int):=by grind
  have aO:=x7 Y;have a7:∀{H:x5}{g:Nat}{e:o4}{cs:List x4},Ext bb H->w.heap.size<=g->g<B.heap.size->aj B g e cs->aj H g e cs:=λJ be bf Z=>((Z.W E).ab G Ω).W J;obtain⟨bQ,bR,ad,aP,ae⟩:=P.open;have aQ:eF n (u:Int) (v:Int):=qh aZ J aO;have bS:∀y∈az x,0<=y/\y<x.un.length:=by grind [e2]
  have ah:=vJ (g:=g) ((az x).take j) x.un (v:Int) (by grind) (by grind) Ω;rw[m5 (zn a8 Y)]at ah;have bg:fz (eR s u x (eG g x.un ((az x).take j))) (u:Int).toNat (v:Int).toNat=x.un.getD (v:Int).toNat 0:=by
   unfold fz eR;rw[u7,Z6 aF];exact ah
  rw[aG Ψ ((a7 Q Ω O a).cell rfl),aG Ψ ((a7 Q Ω aI q).cell rfl)];refine(p5 (ad.W Q)).Y ?_;rintro _ bT _ ⟨rfl,bh⟩;rw[m3 aQ,bg,bz,bA];intro bi bj _ _;have f:=(Q.F bh).F bj;rw[aG Ψ ((a7 f Ω O a).cell rfl),aG Ψ ((a7 f Ω aI q).cell rfl),
   aG Ψ ((a7 f Ω a2 M).cell rfl),aG Ψ ((a7 f Ω O a).cell rfl),aG Ψ ((a7 f Ω aJ C).cell rfl)]
  show aq x8 F1 [Γ af,Δ (x.un.getD (v:Int).toNat 0),Δ c] bi _;obtain⟨bk,bl⟩:=h1 v aO;refine(bl (ad.W f)).Y ?_;rintro _ bU _ ⟨rfl,aR⟩;have an:=f.F aR;refine⟨.inl aR,(FE (ad.W an) aP.room).Y ?_⟩;rintro r bV _ ⟨_,_,ao⟩;obtain⟨_,ap,aS,bm,bo,au,S⟩:=ao aQ bk;have e:ly (eR s u x (eG g x.un ((az x).take j))) (u:Int).toNat (v:Int).toNat (g (x.un.getD (v:Int).toNat 0))=eR s u x (eG g x.un ((az x).take (j+1))):=by
   rw[GA Y,ah];unfold ly eR;rw[u7,Z6 aF]
   grind [List.set_set]
  rw[e]at S;have bW:=G.size;obtain⟨aT,aU,bX⟩:=ae (iN an ap) ((Grow.W an).F au) S aP.set (λr h=>h) Ω;exact⟨⟨bc.ab aU Ω,aT.2.1.1⟩,⟨aT,G.F aU⟩,by grind⟩
 .rintro k bq rfl ⟨P,G⟩;rw[j9 (by grind)]at P;obtain⟨bY,bZ,av,aV,ae⟩:=P.open;have a7:∀{H:x5}{g:Nat}{e:o4}{cs:List x4},Ext bq H->w.heap.size<=g->g<B.heap.size->aj B g e cs->aj H g e cs:=λJ be bf Z=>((Z.W E).ab G Ω).W J;intro b0 V _ _;have aw:=a7 V Ω O a;rw[aG Ψ (aw.cell rfl),aG Ψ (aw.cell rfl),aG Ψ (aw.cell rfl),aG Ψ ((a7 V Ω aJ C).cell rfl)];refine(sY (av.W V)).Y ?_;rintro _ br _ ⟨rfl,ay⟩;have aW:=V.F ay;refine⟨.inl ay,?_⟩;show aq x8 F2 [Γ af,Δ s.zero,Δ c] br _;refine(aE.2 (av.W aW)).Y ?_;rintro _ b1 _ ⟨rfl,aX⟩;have aA:=aW.F aX;refine⟨.inl (ay.F aX),(RK (av.W aA) aV.room).Y ?_⟩;rintro r b2 _ ⟨_,ao⟩;obtain⟨_,ap,aS,bm,bo,au,S⟩:=ao aE.1;intro b3 bs _;exact(ae (iN aA ap) ((Grow.W aA).F au) S aV.set (by grind) λ_ _ _=>trivial).1.done bs
end
section
variable{w:x5}{af ag av:Nat}{A R:ak}{A9:Nat->ak}{aL:ak}{n:aJ}{s u:am}{t:aD}{h:List aD}{cs:List x4}{a:fL}
theorem Tw(hk:a.kind<2):bh n.k u a=match dx u a.i a.pos a.v with
  |none=>(u,1)
  |some (f,v,x)=>if dI n.k a.c (if a.kind=1 then x.un.getD a.v.toNat 0 else eM n.k u f a.pos.toNat a.v)≠0 then(u,dI n.k a.c (if a.kind=1 then x.un.getD a.v.toNat 0 else eM n.k u f a.pos.toNat a.v))
   else(fA u a.i.toNat f a.pos.toNat v.toNat x a.v (λg=>if a.kind=0 then cK n.k g a.c else b6 n.k g a.c) λg=>if a.kind=0 then b6 n.k g a.c else cK n.k g a.c,0):=by
 unfold bh;by_cases e:a.kind=0
 .rw[m3 e];simp only[e];cases dx u a.i a.pos a.v<;>rfl
 .have h1:a.kind=1:=Ω
  rw[m5 e,m3 h1];simp only[h1];cases dx u a.i a.pos a.v<;>rfl
theorem getD_some{i:Nat}(h:i<l.length):l[i]?=σ (l.getD i 0):=by
 rw[r8,v8 h];rfl
theorem Tx(p:cm w af ag av A R A9 aL n s u t h cs)(G:bd n.k n.d6 u)(bQ:bV u)(hk:a.kind<2):aq x8 wY [Γ av,Δ (a.kind:Int),Δ a.i,Δ a.pos,Δ a.v,Δ a.c] w λr I=>r=Δ (bh n.k u a).2/\cC w af ag av A R A9 aL n s t h (bh n.k u a).1 I:=by
 have C:=Tw (n:=n) (u:=u) hk;have c5:=G.d9;have bR:=G.ep;refine aE func73 ?_;have bT:cs[0]?=σ (Δ n.k):=by obtain⟨_,_,_,_,_,_,rfl,_⟩:=p.qc;rfl
 rw[aP aK.p 0 p.box bT,aW,ao];refine⟨λ_=>?_,λh=>Ω⟩;rw[cc];refine p.look.load λdm bX=>?_;refine(Tb bX G bQ).Y ?_;rintro _ U _ ⟨aC,rfl⟩;cases ae:dx u a.i a.pos a.v with
 |none=>
  rw[ae]at C;simp only;rw[bz,bA,bN,X6,bS];exact⟨by rw[C],by rw[C];exact cC.same p aC⟩
 |some q=>
 obtain⟨f,P,x⟩:=q;rw[ae]at C;simp only;rw[bz,bA,bN,Y5,bc];obtain⟨j,pos,P,bY,bZ,b0,ah,c6,hu,J,ac,aT⟩:=zu ae;have aD:=x7 ah;simp only[bY,bZ,b0,u7]at C ⊢;have b2:=(x6.1 ah).1;have bo:=(x6.1 J).1;have b3:=(x6.1 hu).1;obtain⟨b5,c8⟩:=ka G aD;have b8:=Gh G aD aT;have b9:=(e2.1 ac).1;obtain⟨v,Q⟩:=Y6 b9.1;have bp:=ik (v:=a.v.toNat) G J;have aF:=p.W aC;have bq:∀{aa:x5}{fi:am}{br:List x4}{bs:Nat->ak}{f2:bL},cm aa af ag av A R bs aL n s fi t h br->fi.ho[j]?=σ f2->∃S cap W aU y,br[6]?=σ (.slice (σ ⟨S,0,ν⟩) fi.ho.length cap)/\j<fi.ho.length/\aa.cell? ⟨S,0+j*4+0+0,ν⟩=σ W/\aa.cell? ⟨S,0+j*4+0+2,ν⟩=σ y/\aQ .i64 aa W f2.sc/\aQ .i64 aa y f2.cs/\
   ∀{I:x5}{m:Nat}{c:Int}{K:Unit->x5->Prop},Ext aa I->m<f2.cs.length->(∀bt,cC aa af ag av A R bs aL n s t h (et fi j f2 (f2.cs.set m c)) bt->K () bt)->ad x8 (n9 aB y (Δ (m:Int))) I λa=>aM x8 (o7 ay a (Δ c)) I K:=λca aH=>by
  obtain⟨S,cap,W,aU,y,cd,bw,ce,cf,V⟩:=Gp ca aH;exact⟨S,cap,W,aU,y,cd,(x6.1 aH).1,by rw[V0];exact bw 0 _ rfl,by rw[V0];exact bw 2 _ rfl,ce,cf,V⟩
 obtain⟨S,c9,W,aU,da,cg,ch,ci,_,cj,_,_⟩:=bq aF ah;rw[aP aK.p 6 aF.box cg,e5 c7.u cr.i ch λ_=>rfl,a1 cr.p rfl,a1 ba.p rfl,aG Ψ ci,bk au.u al.i Ψ cj hu];generalize bx:(if a.kind=1 then x.un.getD a.v.toNat 0 else eM n.k u f pos a.v)=most at C;refine a6 (λr aa=>r=Δ most/\Ext w aa) ?_ λaA bB=>?_
 rotate_left
 .rw[bm,ao];refine⟨λh1=>?_,λh1=>bB _ _ ⟨by rw[<-bx,m5 Ω],aC⟩⟩;have h1:a.kind=1:=Ω
  obtain⟨aV,bC,y,aX,aZ,aJ,_⟩:=ti aF J;rw[aP aK.p 5 aF.box aX,e5 c0.u aB.i bo λ_=>rfl,aG Ψ (by rw[V0,U3];exact aZ),Q,bk aB.u ay.i Ψ aJ (getD_some Ω)];refine bB _ _ ⟨?_,aC⟩;rw[<-bx,m3 h1,Q,u7]
 rintro _ aa ⟨rfl,ck⟩;refine BV.Y ?_;rintro _ db _ ⟨rfl,cl⟩;have X:=ck.F cl;have bD:cE a.c n.k↔0<=a.c/\a.c<=n.k:=⟨λh=>h.2,λaH=>⟨bR,aH⟩⟩;rw[bN,cb];refine⟨λY=>?_,λY=>?_⟩
 .have cn:¬cE a.c n.k:=by simpa using Y
  have E:dI n.k a.c most=3:=by unfold dI;rw[m3 λh=>cn (bD.2 h)]
  rw[m3 (by rw[E];decide),E]at C;exact⟨by rw[C],by rw[C];exact cC.same p X⟩
 have bE:=bD.1 (show cE a.c n.k by simpa using Y);rw[bU,ao];refine⟨λcp=>?_,λcq=>?_⟩
 .have E:dI n.k a.c most=7:=by unfold dI;rw[m5 (λh=>h bE),m3 cp]
  rw[m3 (by rw[E];decide),E]at C;exact⟨by rw[C],by rw[C];exact cC.same p X⟩
 have E:dI n.k a.c most=0:=by unfold dI;rw[m5 (λh=>h bE),m5 cq]
 rw[m5 (λh=>h E)]at C;have ct:=p.W X;rw[cc];refine ct.look.load λdc cu=>?_;refine(zr cu G ah b3 aT).Y ?_;rintro aY a2 _ ⟨cw,a7,cz⟩;have bG:=X.F cw;rw[a8 au.u a7];have bH:(kB u f pos a.v).length=(bW u f.sc pos a.v).length:=by unfold kB;rw[r9]
 rw[bH];obtain⟨tup,bb⟩:∃tup:Int->Int,tup=λg=>if a.kind=0 then cK n.k g a.c else b6 n.k g a.c:=⟨_,rfl⟩;obtain⟨un,be⟩:∃un:Int->Int,un=λg=>if a.kind=0 then b6 n.k g a.c else cK n.k g a.c:=⟨_,rfl⟩;rw[<-bb,<-be]at C;have cA:=p.olds.W bG;have dd:=p.box.lt;have de:=X.size;have cB:∀{I:x5},ai (λr=>(∃q,A9 q r/\r<w.heap.size)\/r=av) a2 I->aQ .i64 I aY (kB u f pos a.v):=λcD=>jw a7 cD λr E b n c e Y=>by
  have:=cz r ⟨b,n,c,e,Y⟩;rcases E with⟨q,E⟩|E
  .have:=E.2;omega
  .omega
 refine b7.range (bW u f.sc pos a.v).length (λq I=>cC a2 af ag av A R (λq r=>A9 q r/\r<w.heap.size) aL n s t h (et u j f (er tup ((bW u f.sc pos a.v).take q) f.an f.cs)) I) (by rw[<-bH];exact a7.le) ?_ ?_ ?_
 .rw[List.take_zero,Gw G ah];exact cC.same cA (Ext.refl _)
 .rintro q Z cF cG aN cH;obtain⟨tl,bf⟩:=aI (l:=bW u f.sc pos a.v) cG;obtain⟨m,hm⟩:=oY G aD aT (x7 bf);have cI:(kB u f pos a.v)[q]?=σ (m:Int):=by
   unfold kB;rw[u4,bf];unfold n7;rw[Y7,hm];rfl
  obtain⟨bI,bJ⟩:=Gi G ah b8 bf hm;have cJ:=(x6.1 (lX b5 hm)).1;have df:m<f.cs.length:=by rw[u7]at cJ;omega
  obtain⟨V,cL,bM,O,bg⟩:=id aN;obtain⟨bK,bO⟩:∃bK,bK=er tup ((bW u f.sc pos a.v).take q) f.an f.cs:=⟨_,rfl⟩;have dg:bK.length=f.cs.length:=by rw[bO,ri _ _ _ _ Ω]
  rw[<-bO]at O bI bJ;have bP:(et u j f bK).ho[j]?=σ {f with cs:=bK}:=Z6 b2;obtain⟨aO,cM,di,dj,cN,cO,cP,_,bi,_,cQ,cR⟩:=bq O bP;have cS:bK[m]?=σ (bu f.an f.cs tl):=by
   rw[getD_some Ω,<-bI];unfold bu;rw[hm];simp
  have dk:=nh (t:=tl) G aD;have dl:bM[0]?=σ (Δ n.k):=by obtain⟨_,_,_,_,_,_,rfl,_⟩:=O.qc;rfl
  have cT:=cB V;refine bF Ω ?_;refine dh (λH=>cC a2 af ag av A R (λq r=>A9 q r/\r<w.heap.size) aL n s t h (et u j f (er tup ((bW u f.sc pos a.v).take (q+1)) f.an f.cs)) H) (λH N=>by rw[aR];exact cH _ N) λcU cV=>?_;have aj:∀{L:x5},Ext Z L->ad x8 (n9 aB cN (Δ (m:Int))) L λa'=>aM x8 (o7 ay a' (Δ (tup (bu f.an f.cs tl)))) L λ(_:Unit)H=>cU H:=λbj=>by
   refine cR bj (by show m<bK.length;omega) λH N=>cV _ (cC.comp V bg ?_);have cW:et (et u j f bK) j {f with cs:=bK} (bK.set m (tup (bu f.an f.cs tl)))=lz (et u j f bK) j m (tup (bu f.an f.cs tl)):=by unfold lz;rw[bP];rfl
   rw[cW,bJ]at N;exact N
  have row:∀{z:x5}{K:x4->x4->x4->x4->x4->x4->Prop},Ext Z z->K (Γ av) (.pointer (σ ⟨av,0+6,ν⟩)) (.slice (σ ⟨aO,0,ν⟩) (et u j f bK).ho.length cM) (.pointer (σ ⟨aO,0+j*4,ν⟩)) (.pointer (σ ⟨aO,0+j*4+0,ν⟩)) (.pointer (σ ⟨aO,0+j*4+0+2,ν⟩))->
    ad x8 (b1 (Γ av)) z λap=>ad x8 (u6 aK ap 6) z λaw=>ad x8 (u5 c7 aw) z λax=>ad x8 (n9 c7 ax (Δ (j:Int))) z λaz=>ad x8 (u6 cr az 0) z λaS=>ad x8 (u6 ba aS 2) z λcX=>K ap aw ax az aS cX:=λJ bl=>by
   rw[aP aK.p 6 (O.box.W J) cO,e5 c7.u cr.i cP λ_=>rfl,a1 cr.p rfl,a1 ba.p rfl];exact bl
  rw[bk au.u al.i Ψ cT cI];refine row (Ext.refl _) ?_;rw[aG Ψ bi,bk aB.u ay.i Ψ cQ cS,bm,ao];refine⟨λbn=>?_,λbn=>?_⟩
  .intro z B _ _;refine row B ?_;rw[aG Ψ (kk B bi)];refine(vV Ω Ω).Y ?_;rintro _ L _ ⟨rfl,M⟩;refine⟨.inl M,?_⟩;have:=aj (B.F M);rw[bb]at this;simp only[m3 (show a.kind=0 by omega)]at this;exact this
  .intro z B _ _;refine row B ?_;rw[aG Ψ (kk B bi)];refine(mQ Ω Ω).Y ?_;rintro _ L _ ⟨rfl,M⟩;refine⟨.inl M,?_⟩;have:=aj (B.F M);rw[bb]at this;simp only[m5 (show¬a.kind=0 by omega)]at this;exact this
 .rintro Z cF aN;rw[o9]at aN;refine b4 Ω ?_;obtain⟨V,cL,bM,O,bg⟩:=id aN;have cY:(et u j f (er tup (bW u f.sc pos a.v) f.an f.cs)).d9[P]?=σ x:=J;obtain⟨aV,bC,y,aX,aZ,aJ,cZ⟩:=ti O cY;refine dh (λH=>cC w af ag av A R A9 aL n s t h (fA u j f pos P x a.v tup un) H) (λH N=>⟨by rw[C],by rw[C];exact N⟩) λc1 c2=>?_;have c3:P<(et u j f (er tup (bW u f.sc pos a.v) f.an f.cs)).d9.length:=bo;have row:∀{z:x5}{K:x4->x4->x4->x4->x4->Prop},Ext Z z->K (Γ av) (.pointer (σ ⟨av,0+5,ν⟩)) (.slice (σ ⟨aV,0,ν⟩) (et u j f (er tup (bW u f.sc pos a.v) f.an f.cs)).d9.length bC) (.pointer (σ ⟨aV,0+P*1,ν⟩)) y->
    ad x8 (b1 (Γ av)) z λap=>ad x8 (u6 aK ap 5) z λaw=>ad x8 (u5 c0 aw) z λax=>ad x8 (n9 c0 ax (Δ (P:Int))) z λaz=>ad x8 (u5 aB az) z λaS=>K ap aw ax az aS:=λJ bl=>by
   rw[aP aK.p 5 (O.box.W J) aX,e5 c0.u aB.i c3 λ_=>rfl,aG Ψ (by rw[V0,U3];exact kk J aZ)];exact bl
  have aj:∀{L:x5},Ext Z L->ad x8 (n9 aB y (Δ (v:Int))) L λa'=>aM x8 (o7 ay a' (Δ (un (x.un.getD v 0)))) L λ(_:Unit)H=>c1 H:=λbj=>by
   refine cZ bj Ω λH N=>c2 _ ?_;have c4:=cC.comp V bg N.zs;have:=cC.comp (bG.ab _) (λq r E=>.inl ⟨q,E.1⟩) c4;unfold fA;rw[show a.v.toNat=v by omega];exact this
  rw[bm,ao];refine⟨λbn=>?_,λbn=>?_⟩
  .intro z B _ _;refine row B (row B ?_);rw[Q,bk aB.u ay.i Ψ (aJ.W B) (getD_some Ω)];rw[Q,u7]at bp;refine(mQ Ω Ω).Y ?_;rintro _ L _ ⟨rfl,M⟩;refine⟨.inl M,?_⟩;have:=aj (B.F M);rw[be]at this;simp only[m3 (show a.kind=0 by omega)]at this;exact this
  .intro z B _ _;refine row B (row B ?_);rw[Q,bk aB.u ay.i Ψ (aJ.W B) (getD_some Ω)];rw[Q,u7]at bp;refine(vV Ω Ω).Y ?_;rintro _ L _ ⟨rfl,M⟩;refine⟨.inl M,?_⟩;have:=aj (B.F M);rw[be]at this;simp only[m5 (show¬a.kind=0 by omega)]at this;exact this
end
section
variable{ax:List aD}{w:x5}{af ag:Nat}{A R:ak}{n:aJ}{s:am}{t:aD}{a:fL}
theorem cA.step{aS:ak}{s':am}{bx:aD}(h:bD w af ag A R n s t)(f:Laid w)(e:¬A 0)(J:Ext w U)(j:ai (eQ U) U aa)(a:Grow A U aS aa)(q:bD aa af ag aS R n s' bx)(aC:eu ax bx):cA ax w af ag A R n s' aa:=by
 refine⟨iN J j,iH a.1 e (f.W J),aS,bx,(Grow.W J).F a,q,aC,λr=>(a.2.1 0 r).elim e λx=>?_⟩;obtain⟨y,z,B,C,⟨h1,_⟩,_⟩:=h.1;have:=h.lt (.inl h1);have:=J.size;omega
theorem zx(hk:a.kind=2):bh n.k s a=match jK s a.i with
  |none=>(s,1)
  |some x=>if dI n.k a.c (jl x)≠0 then(s,dI n.k a.c (jl x))else(iT s a.i.toNat x (λg=>cK n.k g a.c) λg=>b6 n.k g a.c,0):=by
 unfold bh jK;rw[m5 Ω,m5 Ω,m3 hk];cases (if 0<=a.i then s.d9[a.i.toNat]? else ν)with
 |none=>rfl
 |some x=>
  simp only;by_cases e:x.gone=0
  .rw[m5 Ω,m3 e]
  .rw[m3 e,m5 e]
theorem zy(hk:a.kind=3):bh n.k s a=match jK s a.i with
  |none=>(s,1)
  |some x=>if dI n.k a.c (if az x=[]then-1 else s.zero)≠0 then(s,dI n.k a.c (if az x=[]then-1 else s.zero))else(iT s a.i.toNat x (λg=>b6 n.k g a.c) λg=>cK n.k g a.c,0):=by
 unfold bh jK;rw[m5 Ω,m5 Ω,m5 Ω,m3 hk];cases (if 0<=a.i then s.d9[a.i.toNat]? else ν)with
 |none=>rfl
 |some x=>
  simp only;by_cases e:x.gone=0
  .rw[m5 Ω,m3 e]
  .rw[m3 e,m5 e]
theorem GD(hk:a.kind=2)(h:bD w af ag A R n s t)(M:Laid w)(X:¬A 0)(aC:eu ax t):aq x8 Jm [Γ af,Δ a.i,Δ a.c] w (qi ax w af ag A R n s a):=by
 have C:=h.2.2.2.1;have e:=zx (n:=n) (s:=s) hk;refine jq func76 ?_;refine bn λg1 U bC aw E=>?_;refine bn λaB aa bF Y G=>?_;have E:=aj.W E Y;have G:=G;have Z:=aw.F Y;have bG:=aw.size;have bH:=Y.size;have bI:=E.lt;have bJ:=G.lt;rw[aG Ψ (E.cell rfl),aG Ψ (G.cell rfl)];refine(GB (h.W Z)).Y ?_;rintro _ bK _ ⟨ad,rfl⟩;have a1:=Z.F ad;have z3:=ad.size;cases ac:jK s a.i with
 |none=>
  rw[ac]at e;rw[m5 Ξ,bM,ao];refine⟨λ_=>?_,λh=>m6 Φ h⟩;intro a2 a7 _;exact⟨by rw[e],by rw[e];exact cA.same h M X aC (a1.F a7)⟩
 |some x=>
 rw[ac]at e;simp only at e;obtain⟨aD,J,bL⟩:=zw ac;obtain⟨u,hu⟩:=Y6 aD;rw[hu,u7]at J;rw[hu,u7]at e;rw[m3 (by rfl),bM,ao];refine⟨λh=>m6 rfl h,λ_=>?_⟩;refine bE ay.i λaE bN bO aF aH=>?_;refine bw ay.i rfl rfl aH (by simp[x4.cells]) λaI ae bP N=>?_;have N:=N;have z5:=aF.size;have bQ:=aH.lt;have ah:=ad.F aF;have ak:aj aI g1 ez [Γ af]:=(E.W ah).ab ae Ω;have am:aj aI aB al [Δ a.i]:=(G.W ah).ab ae Ω;have O:=(Z.F ah).then ae (by rintro r aJ rfl;omega);rw[aG Ψ (ak.cell rfl),aG Ψ (am.cell rfl)];refine(jF (i:=a.i) (h.W O)).Y ?_;rintro _ bR _ ⟨⟨b,bS,rfl,aK⟩,aL⟩;refine(mM).Y ?_;rintro _ a8 _ ⟨ba,aM,rfl,bT,aN⟩;have aO:=lA aK aD (show s.d9[a.i.toNat]?=σ x by rw[hu,u7];exact J);have f:=aL.F ba;have bU:=aL.size;have bV:=aN.lt;have bW:=N.lt;have aP:∀j (v:Nat),(az x)[j]?=σ (v:Int)->(((az x).take (j+1)).map λv=>x.un.getD v.toNat 0).foldl mh (-1)=mh ((((az x).take j).map λv=>x.un.getD v.toNat 0).foldl mh (-1)) (x.un.getD v 0):=λj v aQ=>by
  rw[u9,aQ,j4,Z2,List.foldl_append];rfl
 refine kH.old ⟨_,sp,jQ,#[Γ aM],_,_,_,_,λj I=>ai (λr=>r=aE) a8 I/\aj I aE ay [Δ ((((az x).take j).map λv=>x.un.getD v.toNat 0).foldl mh (-1))],λ_ _ _=>False,rfl,(mL (g:=aM) aK.1).s,?_,
  λ_ _ J h=>⟨h.1.W J,h.2.W J⟩,λ_ _ _ J h=>⟨h.1.F (J.ab _),h.2.W J⟩,λ_ _ _ _ _ h=>h,⟨aN,M.W (O.F f)⟩,⟨ai.refl _ _,N.W f⟩,?_,?_,λ_ _ h=>h.elim,λ_ _ _ h=>h.elim⟩
 .rintro _ _ _ _ ⟨_,_,_,_,rfl⟩;rfl
 .rintro _ j _ bX ⟨aR,aT⟩ ⟨aQ,rfl,v,bb,bc⟩ ⟨y,P⟩;cases bc;intro bY aU _ _;have an:(az x)[j]?=σ (v:Int):=by rw[<-aO,u4,bb];rfl
  have bd:=qh C J (x7 an);have ap:=y.F (aU.ab _);have be:=(O.F f).then ap (by rintro r aJ rfl;omega);rw[aG Ψ (((ak.W f).ab ap Ω).cell rfl),aG Ψ (((am.W f).ab ap Ω).cell rfl)];refine(p5 (h.W be)).Y ?_;rintro _ bf _ ⟨rfl,bg⟩;have bi:fz s a.i.toNat (v:Int).toNat=x.un.getD v 0:=by
   unfold fz;rw[hu,u7,J];rfl
  rw[m3 (by rw[hu];exact bd),bi,bz,bA];have H:=aU.F bg;have K:=P.W H;refine a6 (λr bj=>(r= .bool (decide ((((az x).take j).map λv=>x.un.getD v.toNat 0).foldl mh (-1)<0\/x.un.getD v 0<(((az x).take j).map λv=>x.un.getD v.toNat 0).foldl mh (-1))))/\bj=bf) ?_ λaA L=>?_
  .rintro _ _ ⟨rfl,rfl⟩;rw[ao];refine⟨λQ=>?_,λS=>?_⟩
   .refine bw ay.i rfl rfl K Ξ λbZ bk b0 bl=>?_;have q:=(H.ab _).F bk;refine⟨⟨aR.ab q Ω,iH q Ω aT⟩,⟨y.F q,?_⟩,λh=>by cases h⟩;rw[aP j v an];unfold mh at Q ⊢;rw[m3 Q];exact bl
   .refine⟨⟨aR.W H,aT.W H⟩,⟨y.F (H.ab _),?_⟩,λh=>by cases h⟩;rw[aP j v an];unfold mh at S K ⊢;rw[m5 S];exact K
  rw[aG Ψ (K.cell rfl),aW,ao];refine⟨λQ=>L _ _ ⟨by rw[ms (Or.inl Q)],rfl⟩,λS=>?_⟩;rw[aG Ψ (K.cell rfl),aW];refine L _ _ ⟨?_,rfl⟩;congr 1;exact decide_eq_decide.2 ⟨.inr,λh=>h.resolve_left S⟩
 .rintro k aV rfl ⟨y,P⟩;rw[j9 (by rw[<-aO,r9];exact o6 _),Tv λv _=>(ik C J).1]at P;have aX:=(O.F f).then y (by rintro r aJ rfl;omega);have aY:aj aV g1 ez [Γ af]:=(ak.W f).ab y Ω;have bo:aj aV aB al [Δ a.i]:=(am.W f).ab y Ω;rw[aG Ψ (aY.cell rfl),aG Ψ (P.cell rfl)];refine(vT (h.W aX)).Y ?_;rintro _ b1 _ ⟨au,rfl⟩;have V:=aX.F au;refine dh (λI=>cA ax w af ag A R n (bh n.k s a).1 I) ?_ λaA L=>?_
  .intro I bp b2 W _;obtain⟨bq,br,aS,bx,bs,bt,bu⟩:=bp;refine⟨?_,bq.F (W.ab _),br.W W,aS,bx,bs.F (Grow.W W),bt.W W,bu⟩;rw[e];split
   .rfl
   .rename_i B;rw[X1.1 B]
  rw[bm,ao];refine⟨λB=>?_,λB=>L _ ?_⟩
  .obtain⟨q,hm⟩:=nf (λh=>h B);rw[aG Ψ ((aY.W au).cell rfl),aG Ψ ((bo.W au).Qz rfl),hu];refine(GC (t:=t) (u:=u) (F1:=po) (F2:=pp) (g:=λg=>cK n.k g a.c) (z:=λg=>b6 n.k g a.c) (h.W V) (M.W V) X aC J (λv ac=>?_) ⟨oX C.zero q.1,λ{w A s' t}av=>th av C.zero q⟩).Y ?_
   .have aZ:=ik (v:=v.toNat) C J;exact⟨oW aZ ⟨q.1,ze ac hm⟩,λ{w A s t}av=>vU av aZ q (.inr (ze ac hm))⟩
   .rintro _ a2 _ bB;refine L _ ?_;rw[e,m5 (λh=>h B)];exact bB.before V
  .rw[e,m3 B];exact cA.same h M X aC V
theorem Ty{b m:Nat}{i:Int}{x:bp}(f:vx s n i b m)(hi:0<=i)(J:s.d9[i.toNat]?=σ x):b=0↔az x=[]:=by
 have a:=lA f hi J;constructor
 .rintro rfl;rw[<-a];have:ic 0 m=[]:=List.eq_nil_iff_forall_not_mem.2 λv ac=>by
   have:=(xx.1 ac).2;simp at this
  rw[this];rfl
 .intro he;rw[he]at a;have ac:=List.map_eq_nil_iff.1 a;refine Nat.eq_of_testBit_eq λj=>?_;rw[Nat.zero_testBit];cases e:b.testBit j with
  |false=>rfl
  |true=>
   have q:j<m:=by
    rcases Nat.lt_or_ge j m with h|h
    .exact h
    .have:=Nat.testBit_lt_two_pow (Nat.lt_of_lt_of_le f.1.2 (T2 Ω h));rw[this]at e;cases e
   have:j∈ic b m:=xx.2 ⟨q,e⟩;rw[ac]at this;cases this
theorem Tz(hk:a.kind=3)(h:bD w af ag A R n s t)(E:Laid w)(G:¬A 0)(aC:eu ax t):aq x8 Jn [Γ af,Δ a.i,Δ a.c] w (qi ax w af ag A R n s a):=by
 have H:=h.2.2.2.1;have f:=zy (n:=n) (s:=s) hk;refine aE func77 ?_;refine(GB h).Y ?_;rintro _ U _ ⟨K,rfl⟩;cases ac:jK s a.i with
 |none=>
  rw[ac]at f;rw[m5 Ξ,bM,ao];exact⟨λ_=>⟨by rw[f],by rw[f];exact cA.same h E G aC K⟩,λh=>m6 Φ h⟩
 |some x=>
 rw[ac]at f;simp only at f;obtain⟨M,J,ah⟩:=zw ac;rw[m3 (by rfl),bM,ao];refine⟨λh=>m6 rfl h,λ_=>?_⟩;refine(sY (h.W K)).Y ?_;rintro _ aa _ ⟨rfl,X⟩;have N:=K.F X;refine a6 (λr I=>r=Δ (if az x=[]then-1 else s.zero)/\Ext w I) ?_ λaA y=>?_
 .rintro _ ai ⟨rfl,O⟩;refine(vT (h.W O)).Y ?_;rintro _ aj _ ⟨Y,rfl⟩;have B:=O.F Y;refine dh (λI=>cA ax w af ag A R n (bh n.k s a).1 I) ?_ λaA y=>?_
  .intro I Z;refine⟨?_,Z⟩;rw[f];generalize (if az x=[]then(-1:Int)else s.zero)=ak;split
   .rfl
   .rename_i j;rw[X1.1 j]
  rw[bm,ao];refine⟨λj=>?_,λj=>y _ ?_⟩
  .obtain⟨C,hm⟩:=nf (λh=>h j);have P:a.c<=s.zero:=by
    split at hm
    .omega
    .exact hm
   obtain⟨u,hu⟩:=Y6 M;rw[hu,u7]at J;rw[hu];refine(GC (t:=t) (u:=u) (F1:=pp) (F2:=po) (g:=λg=>b6 n.k g a.c) (z:=λg=>cK n.k g a.c) (h.W B) (E.W B) G aC J (λv ac=>?_) ⟨oW H.zero ⟨C.1,P⟩,λ{w A s' t}L=>vU L H.zero C (.inr P)⟩).Y ?_
   .have Q:=ik (v:=v.toNat) H J;exact⟨oX Q C.1,λ{w A s t}L=>th L Q C⟩
   .rintro _ al _ ab;refine y _ ?_;rw[f,m5 (λh=>h j),hu,u7];exact ab.before B
  .rw[f,m3 j];exact cA.same h E G aC B
 refine(jF (i:=a.i) (h.W N)).Y ?_;rintro _ am _ ⟨⟨b,an,rfl,S⟩,ad⟩;refine(js S.1).Y ?_;rintro _ ap _ ⟨⟨q,rfl,T⟩,ae⟩;have V:=(N.F ad).F ae;have W:=Ty S M J;rw[bm,ao];refine⟨λh=>y _ _ ⟨by rw[m3 (W.1 (T.1 h))],V⟩,λh=>y _ _ ⟨by rw[m5 λe=>h (T.2 (W.2 e))],V⟩⟩
theorem GF(hk:a.kind=4)(h:bD w af ag A R n s t)(f:Laid w)(j:¬A 0)(aC:eu ax t):aq x8 Jo [Γ af,Δ a.i,Δ a.v] w (qi ax w af ag A R n s a):=by
 have q:=h.2.2.2.1;have e:bh n.k s a=match dH s a.i a.v with
  |none=>(s,1)
  |some x=>if b6 n.k s.zero (x.un.getD a.v.toNat 0)<n.k then(s,7)else(eb s a.i.toNat a.v.toNat,0):=by
  unfold bh;rw[m5 Ω,m5 Ω,m5 Ω,m5 Ω,m3 hk]<;>cases dH s a.i a.v<;>rfl
 refine aE func78 ?_;refine(zo h).Y ?_;rintro _ U _ ⟨z,rfl⟩;cases ac:dH s a.i a.v with
 |none=>
  rw[ac]at e;rw[m5 Ξ,bM,ao];exact⟨λ_=>⟨by rw[e],by rw[e];exact cA.same h f j aC z⟩,λh=>m6 Φ h⟩
 |some x=>
 rw[ac]at e;simp only at e;obtain⟨X,J,Y,I⟩:=kc ac;rw[m3 (by rfl),bM,ao];refine⟨λh=>m6 rfl h,λ_=>?_⟩;have C:eF n a.i a.v:=by
  have:=qh q J I;rwa [show((a.i.toNat:Nat):Int)=a.i by omega]at this
 refine(p5 (h.W z)).Y ?_;rintro _ aa _ ⟨rfl,K⟩;have L:fz s a.i.toNat a.v.toNat=x.un.getD a.v.toNat 0:=by
  unfold fz;rw[J]
 rw[m3 C,L,bz,bA];have E:=z.F K;refine(sY (h.W E)).Y ?_;rintro _ Z _ ⟨rfl,M⟩;have G:=E.F M;refine(th (h.W G) q.zero (ik q J)).Y ?_;rintro _ ab _ ⟨rfl,N⟩;have H:=G.F N;refine(n2 (h.W H)).Y ?_;rintro _ ad _ ⟨rfl,O⟩;have B:=H.F O;rw[aW,ao];refine⟨λP=>?_,λQ=>?_⟩
 .rw[m3 P]at e;exact⟨by rw[e],by rw[e];exact cA.same h f j aC B⟩
 .rw[m5 Q]at e;refine(yV (h.W B) aC.room).Y ?_;rintro r ae _ ⟨_,S⟩;obtain⟨rfl,T,aS,y,V,W⟩:=S C;refine⟨by rw[e],?_⟩;rw[e];exact cA.step h f j B T V W aC.set
theorem TA(hk:5<=a.kind)(h:bD w af ag A R n s t)(O:Laid w)(V:¬A 0)(aC:eu ax t):aq x8 Jp [Γ af,Δ a.i,Δ a.v] w (qi ax w af ag A R n s a):=by
 have av:=h.2.2.2.1;have q:bh n.k s a=match dH s a.i a.v with
  |none=>(s,1)
  |some x=>(ij s a.i.toNat a.v (az x),0):=by
  unfold bh;rw[m5 Ω,m5 Ω,m5 Ω,m5 Ω,m5 Ω]<;>cases dH s a.i a.v<;>rfl
 refine jq func79 ?_;refine bn λg1 U aX W z=>?_;refine bn λaY aa aZ P B=>?_;refine bn λa1 Q a2 K C=>?_;have z:aj Q g1 ez [Γ af]:=(aj.W z P).W K;have B:=aj.W B K;have C:=C;have L:=(W.F P).F K;have a6:=W.size;have a8:=P.size;have z3:=K.size;have aw:=z.lt;have ay:=B.lt;have aA:=C.lt;rw[aG Ψ (z.cell rfl),aG Ψ (B.cell rfl),aG Ψ (C.cell rfl)];refine(zo (h.W L)).Y ?_;rintro _ ba _ ⟨E,rfl⟩;have X:=L.F E;have z4:=E.size;cases ac:dH s a.i a.v with
 |none=>
  rw[ac]at q;rw[m5 Ξ,bM,ao];refine⟨λ_=>?_,λh=>m6 Φ h⟩;intro bb aB _;exact⟨by rw[q],by rw[q];exact cA.same h O V aC (X.F aB)⟩
 |some x=>
 rw[ac]at q;simp only at q;obtain⟨aD,J,bc,bd⟩:=kc ac;rw[m3 (by rfl),bM,ao];refine⟨λh=>m6 rfl h,λ_=>?_⟩;rw[aG Ψ ((z.W E).cell rfl),aG Ψ ((B.W E).Qz rfl)];refine(jF (i:=a.i) (h.W X)).Y ?_;rintro _ be _ ⟨⟨b,aE,rfl,Y⟩,Z⟩;refine(mM (b:=b) (n:=aE)).Y ?_;rintro _ S _ ⟨aF,ad,rfl,bf,ae⟩;have ah:=lA Y aD J;have M:=(E.F Z).F aF;have bg:=Z.size;have bi:=M.size;have bj:=ae.lt;refine kH.old ⟨_,sp,jQ,#[Γ ad],_,_,_,_,λj I=>dD ax w af ag A R n w.heap.size (λr=>S.heap.size<=r) (ij s a.i.toNat a.v ((az x).take j)) I/\ai (λr=>r<w.heap.size\/S.heap.size<=r) S I,λ_ _ _=>False,rfl,(mL (g:=ad) Y.1).s,?_,
  λ_ _ J h=>⟨h.1.W J,h.2.W J⟩,λ_ _ _ J h=>⟨h.1.W J,h.2.F (J.ab _)⟩,λ_ _ _ _ _ h=>h,⟨ae,O.W (L.F M)⟩,⟨dD.start h O V aC (L.F M) (o6 _),ai.refl _ _⟩,?_,?_,λ_ _ h=>h.elim,λ_ _ _ h=>h.elim⟩
 .rintro _ _ _ _ ⟨_,_,_,_,rfl⟩;rfl
 .rintro _ j _ bk ⟨ak,aH⟩ ⟨bl,rfl,v,aI,aJ⟩ ⟨G,H⟩;cases aJ;intro aK f _ _;have al:(az x)[j]?=σ (v:Int):=by rw[<-ah,u4,aI];rfl
  have aL:eF n a.i (v:Int):=by
   have:=qh av J (x7 al);rwa [show((a.i.toNat:Nat):Int)=a.i by omega]at this
  have a7:∀{g:Nat}{e:o4}{cs:List x4},w.heap.size<=g->g<Q.heap.size->aj Q g e cs->aj aK g e cs:=λaM aN aO=>((aO.W M).ab H Ω).W f;have N:=Tt (s:=s) (i:=a.i.toNat) (v:=a.v) al;obtain⟨bm,bo,aP,am,aQ⟩:=G.open;rw[aG Ψ ((a7 Ω aA C).cell rfl),bM,ao];refine⟨λaR=>?_,λhe=>?_⟩
  .rw[m3 aR]at N;rw[aG Ψ ((a7 Ω aw z).cell rfl),aG Ψ ((a7 Ω ay B).cell rfl)];refine(yV (aP.W f) am.room).Y ?_;rintro r bp _ ⟨_,aT⟩;obtain⟨rfl,aU,aS,y,aV,an⟩:=aT aL;rw[<-N]at an;have bq:=H.size;obtain⟨ap,au,br⟩:=aQ (iN f aU) ((Grow.W f).F aV) an am.set (λr h=>h) λr aM aN=>Ω
   exact⟨⟨ak.ab au Ω,ap.2.1.1⟩,⟨ap,H.F au⟩,λh=>by cases h⟩
  .rw[m5 he]at N;exact⟨⟨ak.W f,aH.W f⟩,⟨by rw[N];exact G.W f,H.F (f.ab _)⟩,λh=>by cases h⟩
 .rintro k bs rfl ⟨G,H⟩;rw[j9 (by rw[<-ah,r9];exact o6 _)]at G;intro bt aW _;exact⟨by rw[q],by rw[q];exact G.done aW⟩
end
theorem TB{dd:x4}(h:aQ .i64 w dd l)(E:l.length<=1000000):aq x8 J1 [dd,Δ v] w λr I=>Ext w I/\(∃g,aH .i64 al I g r (l.filter λy=>!decide (y=v)))/\∀q,lc r q->w.heap.size<=q:=by
 refine aE func142 ?_;rw[a8 au.u h];refine ce.range l.length (λi out a=>Ext w a/\(∃g,aH .i64 al a g out ((l.take i).filter λy=>!decide (y=v)))/\∀r,lc out r->w.heap.size<=r) h.le ⟨Ext.refl _,⟨0,aH.nil _ _ _ _⟩,λr z=>by obtain⟨_,_,_,e,_⟩:=z;cases e⟩ ?_ ?_
 .rintro q out a A B ⟨f,⟨g,hm⟩,j⟩ G;obtain⟨y,C⟩:=aI (l:=l) B;have H:(l.take (q+1)).filter (λy=>!decide (y=v))=(l.take q).filter (λy=>!decide (y=v))++(if y≠v then[y]else[]):=by
   grind [u9]
  refine bF Ω ?_;refine a6 (λs x=>Ext w x/\(∃g,aH .i64 al x g s ((l.take (q+1)).filter λy=>!decide (y=v)))/\∀r,lc s r->w.heap.size<=r) (λ_ _ J=>by rw[aR];grind) λaA K=>?_;rw[bk au.u al.i Ψ (h.W f) C,bM,ao];refine⟨λL=>?_,by grind⟩;refine Gl f hm j ?_ (by grind)
  grind
 .rintro out a A ⟨f,hm,j⟩;rw[o9]at hm;refine b4 Ω ?_
  grind
theorem zz{i:Nat}{v:Int}:∀(L:Λ)(s:am)(x:bp),s.d9[i]?=σ x->(∀y∈L,0<=y)->∃m,ij s i v L={s with d9:=s.d9.set i {x with mask:=m}}/\az {x with mask:=m}=(az x).filter λy=>!(decide (y∈L)&& !decide (y=v))
 |[],s,x,J,_=>by
  refine⟨x.mask,?_,(List.filter_eq_self.2 λy _=>Ξ).symm⟩;have:s.d9.set i x=s.d9:=by
   apply Y3
   grind
  show s={s with d9:=s.d9.set i x};rw[this]
 |w::L,s,x,J,h=>by
  have hw:=h w (.head _);have j:=(x6.1 J).1;rw[ij];by_cases e:w≠v
  .rw[m3 e];have a:eb s i w.toNat={s with d9:=s.d9.set i {x with mask:=((x.mask.toNat ||| 2 ^ w.toNat:Nat):Int)}}:=by grind [eb]
   obtain⟨m,h1,f⟩:=zz L (eb s i w.toNat) {x with mask:=((x.mask.toNat ||| 2 ^ w.toNat:Nat):Int)} (by rw[a];exact Z6 j) (by grind);refine⟨m,?_,?_⟩
   .rw[h1,a]
    grind [List.set_set]
   .rw[f,zd hw,List.filter_filter]
    grind
  .rw[m5 e];obtain⟨m,h1,f⟩:=zz L s x J (by grind);refine⟨m,h1,?_⟩
   grind
theorem filter_one(a:l.Nodup)(ac:v∈l):l.filter (λy=>decide (y=v))=[v]:=by
 induction l<;>grind [List.filter_eq_nil_iff]
def k0(u:am)(a:fL):Option bp:=if 3<a.kind then dH u a.i a.v else jK u a.i
section
variable{w:x5}{af ag av:Nat}{A R:ak}{A9:Nat->ak}{aL:ak}{n:aJ}{s u:am}{t:aD}{h:List aD}{cs:List x4}{a:fL}
theorem GG{x:bp}(h:k0 u a=σ x):0<=a.i/\u.d9[a.i.toNat]?=σ x/\x.gone=0/\(3<a.kind->a.v∈az x):=by
 unfold k0 at h;split at h
 .obtain⟨h1,e,f,j⟩:=kc h
  grind
 .rename_i hk;obtain⟨h1,e,f⟩:=zw h
  grind
theorem TC(h:¬(0<=a.i/\a.i<u.d9.length)):k0 u a=ν:=by
 cases he:k0 u a with
 |none=>rfl
 |some x=>
  obtain⟨h1,e,_⟩:=GG he
  grind
theorem TD{x:bp}(e:0<=a.i)(J:u.d9[a.i.toNat]?=σ x):k0 u a=if x.gone=0/\(3<a.kind->a.v∈az x)then σ x else ν:=by
 grind [k0,dH,jK]
theorem TE(hk:2<=a.kind/\a.kind<=5)(h:k0 u a=ν):bh n.k u a=(u,1):=by
 grind [k0,bh,zx,zy]
theorem GH{x:bp}(f:0<=c):jl x<c↔az x=[]\/∃v∈az x,x.un.getD v.toNat 0<c:=by
 unfold jl;constructor
 .intro h;cases a:az x with
  |nil=>grind
  |cons b l=>
   refine .inr ?_;rw[a]at h;simp only[List.map_cons]at h;by_cases j:∀v∈b::l,c<=x.un.getD v.toNat 0
   .have:=(qe (l.map λv=>x.un.getD v.toNat 0) (x.un.getD b.toNat 0) c).2 (by grind);omega
   grind
 .rintro (h|⟨v,ac,q⟩)
  .grind
  .cases a:az x with
   |nil=>grind
   |cons b l=>
    rw[a]at ac;simp only[List.map_cons];rcases Int.lt_or_le ((l.map λv=>x.un.getD v.toNat 0).foldl min (x.un.getD b.toNat 0)) c with ax|ax
    .exact ax
    .obtain⟨r,e⟩:=(qe _ _ _).1 ax;rcases List.mem_cons.1 ac with rfl|ac
     .omega
     .have:=e _ (l9.2 ⟨v,ac,rfl⟩);omega
def zA(n:aJ)(u:am)(x:bp)(a:fL):Prop:=az x=[]\/(a.kind=3/\u.zero<a.c)\/(a.kind=2/\∃v∈az x,x.un.getD v.toNat 0<a.c)
theorem TF{x:bp}(hk:a.kind=2\/a.kind=3)(h:k0 u a=σ x):(¬(0<=a.c/\a.c<=n.k)->bh n.k u a=(u,3))/\((0<=a.c/\a.c<=n.k)->zA n u x a->bh n.k u a=(u,7))/\
  ((0<=a.c/\a.c<=n.k)->¬zA n u x a->bh n.k u a=(iT u a.i.toNat x (λg=>if a.kind=2 then cK n.k g a.c else b6 n.k g a.c) (λg=>if a.kind=2 then b6 n.k g a.c else cK n.k g a.c),0)/\(a.kind=2->∀v∈az x,a.c<=x.un.getD v.toNat 0)/\(a.kind=3->a.c<=u.zero)):=by
 have ac:jK u a.i=σ x:=by grind [k0]
 rcases hk with hk|hk
 .have f:=zx (n:=n) (s:=u) hk;rw[ac]at f;simp only at f;simp only[hk];refine⟨λe=>?_,λe hi=>?_,λe hi=>?_⟩
  .grind [dI]
  .have j:=(GH e.1).2 (hi.elim .inl (by grind))
   grind [dI]
  .have j:¬jl x<a.c:=λh=>hi (((GH e.1).1 h).elim .inl λh=>.inr (.inr ⟨hk,h⟩));have r:dI n.k a.c (jl x)=0:=by grind [dI]
   rw[r,m5 Φ]at f;refine⟨by grind,λ_ v ac=>?_,Ω⟩;rcases Int.lt_or_le (x.un.getD v.toNat 0) a.c with ax|ax
   .exact m6 (.inr (.inr ⟨hk,v,ac,ax⟩)) hi
   .exact ax
 .have f:=zy (n:=n) (s:=u) hk;rw[ac]at f;simp only at f;simp only[hk];refine⟨λe=>?_,λe hi=>?_,λe hi=>?_⟩
  .grind [dI]
  .have j:(if az x=[]then-1 else u.zero)<a.c:=by
    by_cases q:az x=[]
    .grind
    .rw[m5 q];rcases hi with hi|hi|hi
     all_goals grind
   grind [dI]
  .have q:¬az x=[]:=λh=>hi (.inl h);have w:¬u.zero<a.c:=λh=>hi (.inr (.inl ⟨hk,h⟩))
   grind [dI]
end
section
variable{w:x5}{af ag av:Nat}{A R:ak}{A9:Nat->ak}{aL:ak}{n:aJ}{s u:am}{t:aD}{h:List aD}{cs:List x4}{a:fL}
theorem TG(p:cm w af ag av A R A9 aL n s u t h cs)(an:bd n.k n.d6 u)(hk:2<=a.kind/\a.kind<=5):aq x8 wY [Γ av,Δ (a.kind:Int),Δ a.i,Δ a.pos,Δ a.v,Δ a.c] w λr I=>r=Δ (bh n.k u a).2/\cC w af ag av A R A9 aL n s t h (bh n.k u a).1 I:=by
 have ct:=an.d9;have cu:=an.ep;refine aE func73 ?_;have bM:cs[0]?=σ (Δ n.k):=by obtain⟨_,_,_,_,_,_,rfl,_⟩:=p.qc;rfl
 rw[aP aK.p 0 p.box bM,aW,ao];refine⟨λh=>Ω,λ_=>?_⟩;refine a6 (λr I=>r= .bool (!(k0 u a).isSome)/\Ext w I) ?_ λaA a7=>?_
 rotate_left
 .rw[cc];refine p.look.load λdm cw=>?_;refine(Si cw).Y ?_;rintro _ U _ ⟨rfl,W⟩;rw[bN,cb];refine⟨λO=>a7 _ _ ⟨by rw[TC (λh=>by rw[ct]at h;rw[ms h]at O;cases O)];rfl,W⟩,λO=>?_⟩;have ba:0<=a.i/\a.i<n.d6.length:=by simpa using O
  obtain⟨x,J⟩:=aI (l:=u.d9) (i:=a.i.toNat) Ω;have br:=TD ba.1 J;obtain⟨hv,cz,dn,aU,dp,bs,bO,_,_,cA,cB,dq,dr,ds⟩:=(p.look).W W;rw[aP aK.p 4 bO rfl];refine fF (i:=a.i.toNat) rfl Ω jo.u ee.i Ψ cB (by rw[u4,J];rfl) λbP bt=>?_;have bt:[bP]=[x4.bool (decide (x.gone≠0))]:=bt;obtain rfl:bP=x4.bool (decide (x.gone≠0)):=by simpa using bt
  rw[ao];refine⟨λP=>a7 _ _ ⟨by rw[br,m5 λh=>P h.1];rfl,W⟩,λP=>?_⟩;have P:=X1.1 P;rw[bU,ao];refine⟨λbu=>?_,λbu=>a7 _ _ ⟨by rw[br,m3 ⟨P,λh=>m6 h Ω⟩];rfl,W⟩⟩;rw[aP aK.p 3 bO rfl];refine fF (a:=az x) (i:=a.i.toNat) rfl Ω ca.u au.i Ψ cA (by rw[u4,J];rfl) λdt cD=>?_;refine(vB (c3 cD)).Y ?_;rintro _ aa _ ⟨rfl,H⟩;rw[bN];refine a7 _ _ ⟨?_,W.F H⟩;rw[br];by_cases ac:a.v∈az x
  .rw[m3 ⟨P,λ_=>ac⟩,ms ac];rfl
  .rw[m5 λh=>ac (h.2 Ω),rc ac];rfl
 rintro _ U ⟨rfl,W⟩;cases hm:k0 u a with
 |none=>
  have f:=TE (n:=n) hk hm;rw[S3,X6,bS];exact⟨by rw[f],by rw[f];exact cC.same p W⟩
 |some x=>
 rw[T7,Y5,bc];obtain⟨cF,J,du,cG⟩:=GG hm;obtain⟨C,aH⟩:=Y6 cF;rw[aH,u7]at J;have bw:=(x6.1 J).1;have E:∀y∈az x,0<=y/\y<x.un.length:=λy N=>(e2.1 N).1;simp only[aH];have bQ:∀v:Nat,0<=x.un.getD v 0/\x.un.getD v 0<=n.k:=λv=>ik an J;have M:=p.W W;have dv:=bM;have bx:∀{aa:x5}{fi:am}{bR:List x4}{bz:Nat->ak}{aJ:bp},cm aa af ag av A R bz aL n s fi t h bR->fi.d9[C]?=σ aJ->∃aU ap y,aQ .i64 aa y aJ.un/\(∀{j:x5}{K:x4->x4->x4->x4->x4->Prop},Ext aa j->K (Γ av) (.pointer (σ ⟨av,0+5,ν⟩)) aU (.pointer (σ ⟨ap,0+C*1,ν⟩)) y->
    ad x8 (b1 (Γ av)) j λaw=>ad x8 (u6 aK aw 5) j λaC=>ad x8 (u5 c0 aC) j λaN=>ad x8 (n9 c0 aN (Δ (C:Int))) j λbb=>ad x8 (u5 aB bb) j λcH=>K aw aC aN bb cH)/\
   ∀{I:x5}{v:Nat}{c:Int}{K:Unit->x5->Prop},Ext aa I->v<aJ.un.length->(∀bT,kZ aa af ag av A R bz aL n s t h (eR fi C aJ (aJ.un.set v c)) bT->K () bT)->ad x8 (n9 aB y (Δ (v:Int))) I λa=>aM x8 (o7 ay a (Δ c)) I K:=λ{aa fi bR bz aJ}bV B=>by
  obtain⟨ap,cI,y,cJ,cL,Z,bA⟩:=ti bV B;have cM:=(x6.1 B).1;refine⟨.slice (σ ⟨ap,0,ν⟩) fi.d9.length cI,ap,y,Z,λ{j K}aD aV=>?_,bA⟩;rw[aP aK.p 5 (bV.box.W aD) cJ,e5 c0.u aB.i cM λ_=>rfl,aG Ψ (by rw[V0,U3];exact kk aD cL)];exact aV
 obtain⟨cN,cO,bB,bW,cP,ae,cQ,bX⟩:=Gr M J;have bY:∀{j:x5}{K:x4->x4->x4->Prop},Ext U j->K (Γ av) (.pointer (σ ⟨av,0+3,ν⟩)) (.slice (σ ⟨cN,0,ν⟩) u.d9.length cO)->
   ad x8 (b1 (Γ av)) j λaw=>ad x8 (u6 aK aw 3) j λaC=>ad x8 (u5 ca aC) j λaN=>K aw aC aN:=λaD aV=>by
  rw[aP aK.p 3 (M.box.W aD) bW];exact aV
 have qd:∀{j:x5}{K:x4->Prop},Ext U j->K bB->
   ad x8 (b1 (Γ av)) j λaw=>ad x8 (u6 aK aw 3) j λaC=>ad x8 (u5 ca aC) j λaN=>ad x8 (n9 ca aN (Δ (C:Int))) j λbb=>ad x8 (u5 au bb) j K:=λaD aV=>by
  rw[aP aK.p 3 (M.box.W aD) bW,e5 ca.u au.i bw λ_=>rfl,aG Ψ (by rw[V0,U3];exact kk aD cP)];exact aV
 have low:∀{u':am}{I:x5},cC U af ag av A R A9 aL n s t h u' I->cC w af ag av A R A9 aL n s t h u' I:=λbe=>cC.comp (W.ab _) (λq r E=>.inl ⟨q,E⟩) be;refine a6 (λ_ I=>cC w af ag av A R A9 aL n s t h (bh n.k u a).1 I/\(bh n.k u a).2=0) (λ_ I be=>⟨by rw[be.2],be.1⟩) λcR bC=>?_;refine a6 (λr I=>r= .bool (decide (a.kind=2\/a.kind=3))/\U=I) ?_ λdw bZ=>?_
 rotate_left
 .rw[bm,ao];refine⟨λB=>bZ _ _ ⟨?_,rfl⟩,λB=>?_⟩
  .congr 1;exact decide_eq_decide.2 ⟨λ_=>.inl Ω,λ_=>B⟩
  .rw[bm];refine bZ _ _ ⟨?_,rfl⟩;congr 1;exact decide_eq_decide.2 ⟨λh=>.inr Ω,λh=>Ω⟩
 rintro _ _ ⟨rfl,rfl⟩;rw[ao];refine⟨λcS=>?_,λdx=>?_⟩
 .
  obtain⟨cT,bf,bD⟩:=TF cS hm;refine BV.Y ?_;rintro _ aa _ ⟨rfl,H⟩;have dy:=H;have b0:cE a.c n.k↔0<=a.c/\a.c<=n.k:=⟨λh=>h.2,λB=>⟨cu,B⟩⟩;rw[bN,cb];refine⟨λO=>?_,λO=>?_⟩
  .have f:=cT λh=>m6 (b0.2 h) (by simpa using O);exact⟨by rw[f],by rw[f];exact low (cC.same M H)⟩
  have ba:=b0.1 (show cE a.c n.k by simpa using O);have bf:=bf ba;have bD:=bD ba;refine a6 (λr I=>Ext U I/\∃b,r= .bool b/\(b=s2↔az x=[]\/(a.kind=3/\u.zero<a.c))) ?_ λdz bE=>?_
  rotate_left
  .refine qd H ?_;rw[a8 au.u (ae.W H),bm,ao];refine⟨λhe=>bE _ _ ⟨H,s2,rfl,⟨λ_=>.inl (j6 Ω),λ_=>rfl⟩⟩,λbg=>?_⟩;have bg:az x≠[]:=λh=>bg (by rw[h];rfl);rw[bm,ao];refine⟨λbu=>?_,λbu=>bE _ _ ⟨H,sp,rfl,⟨(λh=>by cases h),λh=>h.elim (λh=>m6 h bg) λh=>Ω⟩⟩⟩;have bG:cs[2]?=σ (Δ u.zero):=by obtain⟨_,_,_,_,_,_,rfl,_⟩:=p.qc;rfl
   rw[aP aK.p 2 (M.box.W H) bG,bU];exact bE _ _ ⟨H,_,rfl,by rw[ro];exact⟨λh=>.inr ⟨Ω,h⟩,λh=>h.elim (λh=>m6 h bg) λh=>h.2⟩⟩
  rintro _ cU ⟨aO,b,rfl,b2⟩;rw[cb];refine⟨λcV=>?_,λah=>?_⟩
  .have f:=bf ((b2.1 cV).elim .inl λh=>.inr (.inl h));exact⟨by rw[f],by rw[f];exact low (cC.same M aO)⟩
  have b3:¬(az x=[]\/(a.kind=3/\u.zero<a.c)):=λh=>by rw[b2.2 h]at ah;cases ah
  refine qd aO ?_;rw[a8 au.u (ae.W aO)];refine ce.range (az x).length (λq _ I=>Ext U I/\(a.kind=2->∀v∈(az x).take q,a.c<=x.un.getD v.toNat 0)) ae.le ⟨aO,λ_ v ac=>by simp at ac⟩ ?_ ?_
  .rintro q b5 aF cW bH ⟨L,bi⟩ cX;obtain⟨v,ac⟩:=aI (l:=az x) bH;have aj:=x7 ac;have bj:=E v aj;obtain⟨G,rfl⟩:=Y6 bj.1;refine bF Ω ?_;rw[bk au.u al.i Ψ (ae.W L) ac];refine a6 (λr I=>aF=I/\r= .bool (decide (a.kind=2/\x.un.getD G 0<a.c))) ?_ λdA b8=>?_
   .rintro _ _ ⟨rfl,rfl⟩;rw[ao];refine⟨λaX=>?_,λbI=>?_⟩
    .have f:=bf (.inr (.inr ⟨aX.1,_,aj,aX.2⟩));exact⟨by rw[f],by rw[f];exact low (cC.same M L)⟩
    .rw[aR];refine cX _ _ ⟨L,λB y N=>?_⟩;rw[u9,ac,j4,j5,Y1]at N;rcases N with N|rfl
     .exact bi B y N
     .rcases Int.lt_or_le (x.un.getD G 0) a.c with ax|ax
      .exact m6 ⟨B,ax⟩ bI
      .exact ax
   rw[bm,ao];refine⟨λB=>?_,λB=>b8 _ _ ⟨rfl,by rw[rc λh=>B Ω]⟩⟩;obtain⟨aU,ap,y,Z,look,_⟩:=bx (M.W L) J;refine look (Ext.refl _) ?_;rw[bk aB.u ay.i Ψ Z (getD_some (i:=G) Ω),bU];refine b8 _ _ ⟨rfl,?_⟩;congr 1;exact decide_eq_decide.2 ⟨λh=>⟨Ω,h⟩,λh=>h.2⟩
  rintro b5 aF cW ⟨L,bi⟩;rw[o9]at bi;have cY:¬zA n u x a:=λhi=>hi.elim (λh=>b3 (.inl h)) λh=>h.elim (λh=>b3 (.inr h)) λ⟨B,v,ac,aX⟩=>by have:=bi B v ac;omega
  obtain⟨f,dC,dD⟩:=bD cY;rw[aH,u7]at f;refine b4 Ω ?_;refine qd L ?_;rw[a8 au.u (ae.W L)];obtain⟨g,P⟩:∃g:Int->Int,g=λg=>if a.kind=2 then cK n.k g a.c else b6 n.k g a.c:=⟨_,rfl⟩;obtain⟨z,bJ⟩:∃z:Int->Int,z=λg=>if a.kind=2 then b6 n.k g a.c else cK n.k g a.c:=⟨_,rfl⟩;rw[<-P,<-bJ]at f;have cZ:=M.W L;have c1:=ae.W L;have b9:=qa x;obtain⟨cf,dE⟩:∃cf,bB=cf:=⟨_,rfl⟩;have c2:eR u C x (eG g x.un ((az x).take 0))=u:=by
   unfold eR;show{u with d9:=u.d9.set C x}=u;have:u.d9.set C x=u.d9:=by
    apply Y3;intro i;by_cases e:C=i
    .subst e;rw[Z6 bw,J]
    .rw[Y9 e]
   rw[this]
  have c4:∀{I:x5},ai (A9 2) aF I->aQ .i64 I bB (az x):=λc5=>jw c1 c5 λr E b n c e O=>M.iv.1 0 2 r Φ (cQ r ⟨b,n,c,e,O⟩) E;refine b7.range (az x).length (λq I=>kZ aF af ag av A R A9 aL n s t h (eR u C x (eG g x.un ((az x).take q))) I) ae.le (by rw[c2];exact kZ.same cZ (Ext.refl _)) ?_ ?_
  .rintro q bl c6 bH aS c7;obtain⟨bn,c8,cg,aT,bK,c9⟩:=id aS;obtain⟨v,ac⟩:=aI (l:=az x) bH;have aj:=x7 ac;have bj:=E v aj;obtain⟨G,rfl⟩:=Y6 bj.1;have bo:(eR u C x (eG g x.un ((az x).take q))).d9[C]?=σ {x with un:=eG g x.un ((az x).take q)}:=Z6 bw;have dF:(eG g x.un ((az x).take q)).length=x.un.length:=vI _ _;have bL:=vJ (g:=g) ((az x).take q) x.un (G:Int) (b9.sublist (List.take_sublist _ _)) (λy N=>E y (R2 N)) Ω;rw[m5 (zn b9 ac),u7]at bL;have da:=bQ G;obtain⟨aU,ap,y,Z,look,bA⟩:=bx aT bo;refine bF Ω ?_;refine dh (λQ=>kZ aF af ag av A R A9 aL n s t h (eR u C x (eG g x.un ((az x).take (q+1)))) Q) (λQ S=>by rw[aR];exact c7 _ S) λdb dc=>?_;have aY:∀{V:x5},Ext bl V->ad x8 (n9 aB y (Δ (G:Int))) V λa'=>aM x8 (o7 ay a' (Δ (g (x.un.getD G 0)))) V λ(_:Unit)Q=>db Q:=λbq=>by
    refine bA bq (by show G<(eG g x.un ((az x).take q)).length;omega) λQ S=>dc _ (kZ.comp bn bK c9 ?_);have e:eR (eR u C x (eG g x.un ((az x).take q))) C {x with un:=eG g x.un ((az x).take q)} ((eG g x.un ((az x).take q)).set G (g (x.un.getD G 0)))=eR u C x (eG g x.un ((az x).take (q+1))):=by
     rw[GA ac,u7,bL];unfold eR;simp only[List.set_set]
    rw[e]at S;exact S
   have ch:(eG g x.un ((az x).take q))[G]?=σ (x.un.getD G 0):=by rw[getD_some Ω,bL]
   rw[bk au.u al.i Ψ (c4 bn) ac,bm,ao];refine⟨λB=>?_,λB=>?_⟩
   .intro j X _ _;refine look X (look X ?_);rw[bk aB.u ay.i Ψ (Z.W X) ch];refine(vV Ω Ω).Y ?_;rintro _ V _ ⟨rfl,Y⟩;refine⟨.inl Y,?_⟩;have:=aY (X.F Y);rw[P]at this;simp only[m3 (show a.kind=2 by omega)]at this;exact this
   .intro j X _ _;refine look X (look X ?_);rw[bk aB.u ay.i Ψ (Z.W X) ch];refine(mQ Ω Ω).Y ?_;rintro _ V _ ⟨rfl,Y⟩;refine⟨.inl Y,?_⟩;have:=aY (X.F Y);rw[P]at this;simp only[m5 (show¬a.kind=2 by omega)]at this;exact this
  .rintro bl c6 aS;rw[o9]at aS;refine b4 Ω ?_;have aS:=aS.zs;obtain⟨bn,c8,cg,aT,bK⟩:=id aS;have ci:cg[2]?=σ (Δ u.zero):=by obtain⟨_,_,_,_,_,_,rfl,_⟩:=aT.qc;rfl
   have dd:=an.zero;have aY:∀{V:x5},Ext bl V->aM x8 (o7 ay (.pointer (σ ⟨av,0+2,ν⟩)) (Δ (z u.zero))) V λ(_:Unit)Q=>cR b5 Q:=λbq=>by
    refine Gq (aT.W bq) λQ S=>bC _ _ ⟨?_,by rw[f]⟩;rw[f];have cj:=cC.comp (bq.ab _) (λq r E=>.inl ⟨q,E⟩) S;have aZ:=cC.comp bn bK cj;exact low (cC.comp (L.ab _) (λq r E=>.inl ⟨q,E⟩) aZ)
   rw[bm,ao];refine⟨λB=>?_,λB=>?_⟩
   .rw[aP aK.p 2 aT.box ci];refine(mQ Ω Ω).Y ?_;rintro _ V _ ⟨rfl,Y⟩;rw[cc,a1 aK.p rfl];have:=aY Y;rw[bJ]at this;simp only[m3 (show a.kind=2 by omega)]at this;exact this
   .rw[aP aK.p 2 aT.box ci];refine(vV Ω Ω).Y ?_;rintro _ V _ ⟨rfl,Y⟩;rw[cc,a1 aK.p rfl];have:=aY Y;rw[bJ]at this;simp only[m5 (show¬a.kind=2 by omega)]at this;exact this
 .
  have ck:3<a.kind:=Ω
  have aj:=cG ck;obtain⟨G,bs⟩:=Y6 (E _ aj).1;have bj:=(E _ aj).2;have cl:dH u a.i a.v=σ x:=by unfold k0 at hm;rwa [m3 ck]at hm
  rw[bm,ao];refine⟨λaZ=>?_,λaZ=>?_⟩
  .have aZ:a.kind=4:=Ω
   have f:bh n.k u a=if b6 n.k u.zero (x.un.getD a.v.toNat 0)<n.k then(u,7)else(eb u a.i.toNat a.v.toNat,0):=by
    unfold bh;rw[m5 Ω,m5 Ω,m5 Ω,m5 Ω,m3 aZ,cl]
   have dd:=an.zero;have da:=bQ G;intro aa H _ _;have bG:cs[2]?=σ (Δ u.zero):=by obtain⟨_,_,_,_,_,_,rfl,_⟩:=p.qc;rfl
   obtain⟨aU,ap,y,Z,look,_⟩:=bx (M.W H) J;rw[aP aK.p 2 (M.box.W H) bG];refine look (Ext.refl _) ?_;rw[bs,bk aB.u ay.i Ψ Z (getD_some Ω)];refine(mQ Ω Ω).Y ?_;rintro _ cU _ ⟨rfl,aO⟩;have cn:=H.F aO;rw[bs,u7]at f;unfold b6 at f;rw[aW,ao];refine⟨λaX=>?_,λbI=>?_⟩
   .rw[m3 aX]at f;exact⟨by rw[f],by rw[f];exact low (cC.same M cn)⟩
   .rw[m5 bI]at f;intro aF L _ _;have a2:=cn.F L;refine bY a2 ?_;refine qd a2 ?_;have dG:=rn x;have de:=an.eZ.2.2;refine(TB (ae.W a2) (by
     obtain⟨cp,cq⟩:=aI (l:=n.d6) (i:=C) Ω;have h1:=(an.var C x cp J cq).1;have B:=de cp (x7 cq);omega)).Y ?_
    rintro cz bl _ ⟨bo,⟨gz,df⟩,dg⟩;refine⟨.inl bo,?_⟩;have di:=a2.F bo;have dI:=a2.size;refine bX (m:=((x.mask.toNat ||| 2 ^ G:Nat):Int)) di (gz:=gz) (by rw[show G=(G:Int).toNat from rfl,zd Ω];exact df) (λr E=>by have:=dg r E;omega) λQ S=>bC _ _ ⟨?_,by rw[f]⟩;rw[f,aH,u7];unfold eb;rw[J];exact low S
  .have cj:a.kind=5:=Ω
   obtain⟨m,dj,dk⟩:=zz (i:=a.i.toNat) (v:=a.v) (az x) u x (by rw[aH,u7];exact J) λy N=>(E y N).1;have f:bh n.k u a=(ij u a.i.toNat a.v (az x),0):=by
    unfold bh;rw[m5 Ω,m5 Ω,m5 Ω,m5 Ω,m5 Ω,cl]
   have dl:az {x with mask:=m}=[a.v]:=by
    rw[dk,<-filter_one (qa x) aj];refine List.filter_congr λy N=>?_;rw[ms N,S7,Bool.not_not]
   rw[bm,ao];refine⟨λ_=>?_,λh=>Ω⟩;refine bY (Ext.refl _) ?_;refine e6 au.u al.i rfl λv4 dJ aF dK L cr=>?_;refine bX L (by rw[dl];exact cr) (λr E=>by have:=cd cr E;omega) λQ S=>bC _ _ ⟨?_,by rw[f]⟩;rw[f,dj,aH,u7];exact low S
end
def jL(A R:ak)(A9:Nat->ak)(aL:ak)(av:Nat)(r:Nat):Prop:=A r\/R r\/(∃q,A9 q r)\/aL r\/r=av
section
variable{P:ak}{gG w I:x5}{af ag av Wz WA WB:Nat}{A R aS R':ak}{A9 cD:Nat->ak}{aL F5:ak}{n:aJ}{s s':am}{t bx:aD}{h be:List aD}{cs bK:List x4}{m bY:Nat}
variable{Z mi:ak}
end
theorem rq(h:Laid w):0<w.heap.size:=by
 rcases Nat.eq_zero_or_pos w.heap.size with a|a
 .have e:=h 0 _ rfl
  grind [x5.cell?]
 .exact a
def fC(Z aL:ak)(w:x5)(af ag av:Nat)(n:aJ)(s:am):Prop:=∃A R A9 t cs,cm w af ag av A R A9 aL n s s t [] cs/\(Laid w/\¬Z 0)/\(bV s/\dJ (dp n) s/\n.ho.length<=256)/\(∀r,Z r↔jL A R A9 aL av r)/\∀q r,A9 q r->r<w.heap.size
section
variable{Z aL S:ak}{w I U:x5}{af ag av:Nat}{A R:ak}{A9:Nat->ak}{n:aJ}{s u:am}{t:aD}{cs:List x4}
theorem fC.W(h:fC Z aL w af ag av n s)(J:Ext w I):fC Z aL I af ag av n s:=by
 obtain⟨A,R,A9,t,cs,p,⟨a,e⟩,f,j,x⟩:=h;exact⟨A,R,A9,t,cs,p.W J,⟨a.W J,e⟩,f,j,λq r y=>by have:=x q r y;have:=J.size;omega⟩
theorem fC.side(h:fC Z aL w af ag av n s)(a:ai S w I)(C:∀r,Z r->¬S r)(f:¬S 0):fC Z aL I af ag av n s:=by
 obtain⟨A,R,A9,t,cs,p,⟨j,x⟩,y,z,B⟩:=h;refine⟨A,R,A9,t,cs,p.side a λr _ e=>?_,⟨iH a f j,x⟩,y,z,λq r e=>by have:=B q r e;have:=a.size;omega⟩
 grind [jL]
theorem fC.ok(h:fC Z aL w af ag av n s):bd n.k n.d6 s/\bV s/\dJ (dp n) s/\n.ho.length<=256:=by
 obtain⟨A,R,A9,t,cs,p,_,a,_⟩:=h;exact⟨p.dG.2.2.2.1,a⟩
theorem fC.look(h:fC Z aL w af ag av n s):kY w av n.k n.d6 s:=by
 obtain⟨A,R,A9,t,cs,p,_⟩:=h;exact p.look
theorem fC.step{U:x5}(p:cm w af ag av A R A9 aL n s u t [] cs)(y:∀r,Z r↔jL A R A9 aL av r){u':am}(B:bV u'/\dJ (dp n) u'/\n.ho.length<=256)(M:¬Z 0)(C:cC w af ag av A R A9 aL n s t [] u' U)(J:Ext U I)(hm:cA [] I af ag A R n u' aa):ai (λr=>Z r/\¬aL r) w aa/\∃mi,(∀r,mi r->Z r\/w.heap.size<=r)/\fC mi aL aa af ag av n u':=by
 obtain⟨z,cD,bK,E,F⟩:=C;obtain⟨f,N,aS,bx,j,G,aC,O⟩:=hm;have P:=z.size;have Q:=J.size;have z3:=f.size;have x:=E.W J;have H:=x.prog f j G aC.1 (by grind) Ω x.box.lt;have S:=p.Gk;have K:ai (λr=>Z r/\¬aL r) w aa:=(((z.Y (T:=λr=>Z r/\¬aL r) λr _ h=>⟨(y r).2 (h.elim (λh=>.inr (.inr (.inl h))) λh=>.inr (.inr (.inr (.inr h)))),h.elim (by grind) λh be=>(p.read r be).2.2 h⟩)).F (J.ab _)).F
  ((vK j.1 f).Y λr _ h=>⟨(y r).2 (.inl h.1),λbe=>(x.read r be).1 h.2⟩)
 have V:=p.box.lt;have e:∀{r:Nat}{X:Prop},(X->jL A R A9 aL av r)->X->Z r\/w.heap.size<=r:=by grind
 have L:∀r,jL aS R (λq r=>cD q r/\r<I.heap.size) aL av r->Z r\/w.heap.size<=r:=by
  intro r a;rcases a with a|a|⟨q,a,_⟩|a|a
  .exact (j.2.1 r a).elim (e .inl) Ω
  .exact e (λh=>.inr (.inl h)) a
  .exact (F q r a).elim (e λh=>.inr (.inr (.inl h))) .inr
  .exact e (λh=>.inr (.inr (.inr (.inl h)))) a
  .exact e (λh=>.inr (.inr (.inr (.inr h)))) a
 exact⟨K,λr=>jL aS R (λq r=>cD q r/\r<I.heap.size) aL av r,L,aS,R,_,bx,bK,H,by grind,B,λr=>Iff.rfl,Ω⟩
theorem TH(h:bV s/\dJ (dp n) s/\n.ho.length<=256)(a:bd n.k n.d6 s)(m:fL):bV (bh n.k s m).1/\dJ (dp n) (bh n.k s m).1/\n.ho.length<=256:=
 ⟨(vM a h.1).2.1,h.2.1.F (vO a),h.2.2⟩
theorem TI{m:fL}(p:cm w af ag av A R A9 aL n s u t [] cs)(a:bd n.k n.d6 u)(e:bV u)(hk:m.kind<=5):aq x8 wY [Γ av,Δ (m.kind:Int),Δ m.i,Δ m.pos,Δ m.v,Δ m.c] w λr I=>r=Δ (bh n.k u m).2/\cC w af ag av A R A9 aL n s t [] (bh n.k u m).1 I:=by
 by_cases h:m.kind<2
 .exact Tx p a e h
 .exact TG p a Ω
theorem TJ{e:x5}{av:Nat}{j:x4}{cs:List x4}{f:cn}(w:vS B aa j cs f)(J:Ext aa e)(x:aj e av aK cs)(y:aa.heap.size<=av)(F:B<=aa.heap.size)(G:0<B)(z:Laid e):
  ∃af ag Z aL,j=Γ af/\fC Z aL e af ag av (cY f) (dp (cY f))/\∀r,Z r->B<=r:=by
 obtain⟨af,ag,A,R,A9,aL,t,rfl,p,_,H,I,_,_,C,_,K,L⟩:=SS w J x y;have E:=p.olds;have s:∀r,jL A R (λq r=>A9 q r/\r<e.heap.size) aL av r->B<=r:=by
  intro r a;rcases a with a|a|⟨q,a,_⟩|a|a
  all_goals grind
 exact⟨af,ag,_,aL,rfl,⟨A,R,_,t,cs,E,⟨z,λh=>by have:=s 0 h;omega⟩,⟨Gj _,dJ.rfl,C⟩,λr=>Iff.rfl,λq r a=>a.2⟩,s⟩
end
section
variable{ax:List aD}{w U aa:x5}{af ag av:Nat}{A R S Z aL:ak}{n:aJ}{s s0 s1:am}{cs:List x4}
theorem cA.open(h:cA ax w af ag A R n s1 U):∃a e,bD U af ag a R n s1 e/\Laid U/\¬a 0/\eu ax e/\∀{f:am}{aa:x5},cA ax U af ag a R n f aa->cA ax w af ag A R n f aa:=by
 obtain⟨h1,j,a,e,q,r,s,x⟩:=h;refine⟨a,e,r,j,x,s,λ{f aa}k=>?_⟩;obtain⟨y,z,B,C,E,F,G,H⟩:=k;exact⟨vq h1 y,z,B,C,q.F E,F,G,H⟩
theorem cA.W(h:cA ax w af ag A R n s1 U)(J:Ext U aa):cA ax w af ag A R n s1 aa:=by
 obtain⟨j,q,h1,a,e,f,k⟩:=h.open;exact k (.same h1 a e f J)
def kd(ax:List aD)(Z aL:ak)(w:x5)(af ag av:Nat)(n:aJ)(s s0:am)(cs:List x4):Prop:=∃A R A9 t,cm w af ag av A R A9 aL n s s0 t ax cs/\(Laid w/\¬Z 0/\tk t)/\(∀r,Z r↔jL A R A9 aL av r)/\∀q r,A9 q r->r<w.heap.size
theorem kd.lt(h:kd ax Z aL w af ag av n s s0 cs):∀r,Z r->r<w.heap.size:=by
 obtain⟨A,R,A9,t,p,_,e,f⟩:=h;intro r a;rcases(e r).1 a with a|a|⟨q,a⟩|a|a
 .exact n4 p.dG r (.inl a)
 .exact n4 p.dG r (.inr a)
 .grind
 .exact (p.read r a).2.1
 .subst a;exact p.box.lt
theorem kd.W(h:kd ax Z aL w af ag av n s s0 cs)(J:Ext w U):kd ax Z aL U af ag av n s s0 cs:=by
 obtain⟨A,R,A9,t,p,⟨a,e⟩,f,j⟩:=h;exact⟨A,R,A9,t,p.W J,⟨a.W J,e⟩,f,λq r x=>by have:=j q r x;have:=J.size;omega⟩
theorem kd.side(h:kd ax Z aL w af ag av n s s0 cs)(a:ai S w U)(B:∀r,Z r->¬S r)(f:¬S 0):kd ax Z aL U af ag av n s s0 cs:=by
 obtain⟨A,R,A9,t,p,⟨j,x⟩,y,z⟩:=h;refine⟨A,R,A9,t,p.side a λr _ e=>?_,⟨iH a f j,x⟩,y,λq r e=>by have:=z q r e;have:=a.size;omega⟩
 grind [jL]
theorem kd.ok(h:kd ax Z aL w af ag av n s s0 cs):bd n.k n.d6 s/\e3 w (.agg cs.toArray) n.k n.d6 s0:=by
 obtain⟨A,R,A9,t,p,_⟩:=h;exact⟨p.dG.2.2.2.1,p.doc.s9⟩
theorem kd.go(h:kd ax Z aL w af ag av n s s0 cs):∃A R t,bD w af ag A R n s t/\Laid w/\¬A 0/\eu ax t/\∀{U aa:x5}{s1:am},Ext w U->cA ax U af ag A R n s1 aa->ai (λr=>Z r/\¬aL r) w aa/\∃mi,(∀r,mi r->Z r\/w.heap.size<=r)/\kd ax mi aL aa af ag av n s1 s0 cs:=by
 obtain⟨A,R,A9,t,p,⟨C,y,a⟩,z,H⟩:=h;refine⟨A,R,t,p.dG,C,λh=>y ((z 0).2 (.inl h)),⟨p.iR,a⟩,λ{U aa s1}J hm=>?_⟩;obtain⟨f,E,aS,bx,j,F,aC,I⟩:=hm;have K:=J.size;have z3:=f.size;have x:=p.W J;have G:=x.prog f j F aC.1 (by grind) Ω x.box.lt;have e:∀{r:Nat}{X:Prop},(X->jL A R A9 aL av r)->X->Z r\/w.heap.size<=r:=by grind
 have B:∀r,jL aS R (λq r=>A9 q r/\r<U.heap.size) aL av r->Z r\/w.heap.size<=r:=by
  intro r a;rcases a with a|a|⟨q,a,_⟩|a|a
  .exact (j.2.1 r a).elim (e .inl) Ω
  .exact e (λh=>.inr (.inl h)) a
  .exact e (λh=>.inr (.inr (.inl ⟨q,h⟩))) a
  .exact e (λh=>.inr (.inr (.inr (.inl h)))) a
  .exact e (λh=>.inr (.inr (.inr (.inr h)))) a
 exact⟨(J.ab _).F ((vK j.1 f).Y λr _ h=>⟨(z r).2 (.inl h.1),λbe=>(x.read r be).1 h.2⟩),λr=>jL aS R (λq r=>A9 q r/\r<U.heap.size) aL av r,B,aS,R,_,bx,G,⟨E,λh=>(B 0 h).elim y λh=>by have:=p.box.lt;omega,aC.2⟩,λr=>Iff.rfl,Ω⟩
theorem fC.dd(h:fC Z aL w af ag av n s):∃cs,kd [] Z aL w af ag av n s s cs/\aj w av aK cs:=by
 obtain⟨A,R,A9,t,cs,p,⟨a,e⟩,q,f,j⟩:=h;exact⟨cs,⟨A,R,A9,t,p,⟨a,e,p.iR.m.2⟩,f,j⟩,p.box⟩
end
def wb(d6 a:Λ):Prop:=a.length=d6.length/\∀(q:Nat)z b,d6[q]?=σ z->a[q]?=σ b->0<=b/\b<z
def TK(d6:Λ)(L:List (Λ)):Prop:=L.length<=90/\∀a∈L,wb d6 a
def mj(d6:Λ)(k:Nat):Λ:=(X0 d6.length).map λi:Nat=>((k:Int)*(2*(i:Int)+1)+(k:Int) / 3) % d6.getD i 0
theorem tn(d6:Λ)(k:Nat):(mj d6 k).length=d6.length:=by simp[mj]
theorem GI{k i:Nat}{z:Int}(h:d6[i]?=σ z):(mj d6 k)[i]?=σ (((k:Int)*(2*(i:Int)+1)+(k:Int) / 3) % z):=by
 unfold mj;rw[u4,List.getElem?_range (x6.1 h).1,Y7,r8,h];rfl
theorem TL(k:Nat)(h:∀z∈d6,1<=z/\z<=32):wb d6 (mj d6 k):=by
 refine⟨tn _ _,λq z b a e=>?_⟩;rw[GI a]at e;cases e;have:=h z (x7 a);exact⟨Int.emod_nonneg _ Ω,Int.emod_lt_of_pos _ Ω⟩
theorem TM(h:a∈bs d6):wb d6 a:=by
 rw[yX]at h;obtain⟨h1,e⟩:=s3.1 h;rw[r9]at h1;refine⟨h1,λq z b f j=>?_⟩;exact s4.1 (e q (jG z) b (by rw[u4,f];rfl) j)
theorem TN{s:am}(e:bd k d6 s)(h:wb d6 a):ig s a:=by
 have j:=e.d9;refine⟨by rw[h.1,j],λi x v J ac=>.inr ?_⟩;obtain⟨z,f⟩:=aI (l:=d6) (i:=i) (by have:=(x6.1 J).1;omega);have h1:=(e.var i x z J f).1;have q:=h.2 i z v f ac;omega
theorem TO{m:Nat}(h:m<=11):(32:Int) ^ m<=36028797018963968:=by
 match m,h with
 |0,_=>decide
 |1,_=>decide
 |2,_=>decide
 |3,_=>decide
 |4,_=>decide
 |5,_=>decide
 |6,_=>decide
 |7,_=>decide
 |8,_=>decide
 |9,_=>decide
 |10,_=>decide
 |11,_=>decide
theorem TP(h:aQ .i64 w sv l)(V:∀x∈l,1<=x/\x<=32):
  aq x8 IQ [sv] w λv I=>(∃c:Int,v=Δ c/\(l.length<=11->c=aX l))/\Ext w I:=by
 refine aE func28 ?_;rw[a8 au.u h];refine ce.range l.length (λi n U=>Ext w U/\∃c:Int,n=Δ c/\(i<=11->c=aX (l.take i))) h.le ⟨Ext.refl _,1,rfl,λ_=>rfl⟩ ?_ ?_
 .rintro i _ U k hi ⟨J,c,rfl,a⟩ hk;obtain⟨x,e⟩:=aI (l:=l) hi;refine bF Ω ?_;rw[bk au.u al.i Ψ (h.W J) e,fQ,aR];refine hk _ _ ⟨J,_,rfl,λj=>?_⟩;rw[a Ω,qJ e];have ae:=mE (l.take (i+1)) λy f=>V y (R2 f);have h1:=TO (m:=(l.take (i+1)).length) (by rw[Z3];omega);rw[qJ e]at ae;exact lm Ω Ω
 .rintro _ U k ⟨J,c,rfl,a⟩;refine b4 Ω ?_;rw[o9]at a;exact⟨⟨c,rfl,a⟩,J⟩
theorem GJ{f g:Int->Int}:∀{l:Λ},(∀v∈l,f v=g v)->cJ k l f=cJ k l g:=by
 intro l;unfold cJ;generalize (k,(-1:Int))=p;induction l generalizing p with
 |nil=>intro _;rfl
 |cons v l a=>
  intro h;rw[List.foldl_cons,List.foldl_cons,show fk f p v=fk g p v by unfold fk;rw[h v (.head _)]];exact a _ λu hu=>h u (.tail _ hu)
theorem TQ{f:Int->Int}:∀(l:Λ)(p:Int×Int),(∀v∈l,0<=v)->(p.2= -1\/0<=p.2)->((l.foldl (fk f) p).2= -1\/0<=(l.foldl (fk f) p).2)/\(k=k):=by
 intro l;induction l with
 |nil=>intro p _ h;exact⟨h,rfl⟩
 |cons v l e=>
  intro p a h;refine e _ (λu hu=>a u (.tail _ hu)) ?_;unfold fk;split
  .exact .inr (a v (.head _))
  .exact h
section
variable{w:x5}{dm:x4}{k:Int}{d6:Λ}{s:am}
theorem GK{f:Int->Int}{q:Nat}(ac:l[q]?=σ v):cJ k (l.take (q+1)) f=fk f (cJ k (l.take q) f) v:=by
 unfold cJ;rw[u9,ac,j4,List.foldl_append];rfl
theorem GL{f:Int->Int}(a:∀v∈l,0<=v):(cJ k l f).2= -1\/0<=(cJ k l f).2:=(TQ (k:=k) l (k,-1) a (.inl rfl)).1
theorem TR{i:Nat}{x:bp}(h:e3 w dm k d6 s)(ak:bd k d6 s)(J:s.d9[i]?=σ x):
  aq x8 IG [dm,Δ (i:Int)] w λr I=>Ext w I/\r= .tuple #[Δ (cJ k (az x) λv=>x.un.getD v.toNat 0).1,Δ (cJ k (az x) λv=>x.un.getD v.toNat 0).2]:=by
 have am:=rn x;refine aE func12 ?_;refine bn λg1 U an E N=>?_;obtain⟨hv,ap,av,aw,ax,aC,B,aD,_,O,aF,P,aG,aH⟩:=h.box E N;rw[aN aK.p 0 B rfl,aN aK.p 3 B rfl];refine fF (α:=Λ) (a:=az x) (i:=i) rfl rfl ca.u au.i Ψ O (by rw[u4,J];rfl) λaJ Q=>?_;have C:=c3 Q;rw[a8 au.u C];obtain⟨f,ah⟩:∃f:Int->Int,f=λv=>x.un.getD v.toNat 0:=⟨_,rfl⟩;rw[<-ah];refine kE.range (az x).length (λq b a aa=>Ext U aa/\b=Δ (cJ k ((az x).take q) f).1/\a=Δ (cJ k ((az x).take q) f).2) C.le ⟨Ext.refl _,rfl,rfl⟩ ?_ ?_
 .rintro q _ _ aa R S ⟨j,rfl,rfl⟩ V;obtain⟨v,ac⟩:=aI (l:=az x) S;have W:=(e2.1 (x7 ac)).1;obtain⟨y,rfl⟩:=Y6 W.1;have z:=GK (k:=k) (f:=f) ac;have aL:=GL (k:=k) (f:=f) (l:=(az x).take q) λv ac=>(e2.1 (R2 ac)).1.1;have X:f (y:Int)=x.un.getD y 0:=by rw[ah];rfl
  refine bF Ω ?_;refine iX (λb a I=>Ext U I/\b=Δ (cJ k ((az x).take (q+1)) f).1/\a=Δ (cJ k ((az x).take (q+1)) f).2) (λb a I Y=>by rw[aR];exact V _ _ _ Y) λaA G=>?_;rw[bk au.u al.i Ψ (C.W j) ac];have H:∀{K:x4->Prop}{e:x5},Ext U e->K (Δ (f (y:Int)))->ad x8 (u6 aK (Γ g1) 5) e λZ=>ad x8 (u5 c0 Z) e λab=>ad x8 (n9 c0 ab (Δ (i:Int))) e λt39=>ad x8 (u5 aB t39) e λae=>ad x8 (n9 aB ae (Δ (y:Int))) e λaf=>ad x8 (u5 ay af) e K:=λ{K e}L ag=>by
   rw[aN aK.p 5 (B.W L) rfl];refine fF (a:=x.un) (i:=i) rfl rfl c0.u aB.i Ψ (bq P L) (by rw[u4,J];rfl) λaM ai=>?_;rw[bk aB.u ay.i Ψ (c3 ai) (getD_some (i:=y) Ω),<-X];exact ag
  refine a6 (λr I=>aa=I/\r= .bool (decide ((cJ k ((az x).take q) f).2= -1\/f (y:Int)<(cJ k ((az x).take q) f).1))) ?_ λaO M=>?_
  .rintro _ _ ⟨rfl,rfl⟩;unfold fk at z;rw[ao];refine⟨λA=>H j (G _ _ _ ⟨j,?_,?_⟩),λA=>G _ _ _ ⟨j,?_,?_⟩⟩
   .rw[z,m3 A]
   .rw[z,m3 A]
   .rw[z,m5 A]
   .rw[z,m5 A]
  .rw[aW,ao];refine⟨λaj=>M _ _ ⟨rfl,by rw[ms (.inl Ω)]⟩,λaj=>?_⟩;refine H j ?_;rw[aW];refine M _ _ ⟨rfl,?_⟩;congr 1;exact decide_eq_decide.2 ⟨.inr,λh=>h.resolve_left λh=>Ω⟩
 .rintro _ _ aa R ⟨j,rfl,rfl⟩;rw[o9];exact b4 Ω ⟨E.F j,rfl⟩
theorem GM{y:x4}{f:bL}(C:Seen eW w [y] (s.ho.map jI))(ah:s.ho[j]?=σ f)(E:∀g e h v3 I,Ext w I->aj I g ba [e,h,v3]->aQ .i64 I e f.sc->aQ .i64 I h f.an->aQ .i64 I v3 f.cs->K (Γ g) I):
  ad x8 (n9 c7 y (Δ (j:Int))) w λF=>ad x8 (u6 cr F 0) w λG=>ad x8 (u5 ba G) w λH=>aM x8 (R3 ba s2 (.tuple #[])) w λf aa=>aM x8 (o7 ba f H) aa λ(_:Unit)z=>K f z:=by
 refine km (i:=j) rfl c7.u cr.i C (by rw[u4,ah];rfl) λb o cs x J=>?_;obtain⟨e,h,v3,rfl,h1,A,B⟩:=me J;rw[a1 cr.p rfl,bH (cs:=[e,h,v3]) ba.p ba.i rfl (λq u a=>by
  have:q<3:=(x6.1 a).1
  match q,this,a with
  |0,_,a=>cases a;exact x 0 _ rfl
  |1,_,a=>cases a;exact x 1 _ rfl
  |2,_,a=>cases a;exact x 2 _ rfl)]
 refine bE ba.i λQ aa R L M=>?_;have N:∀u∈[e,h,v3],u.oneCell'=s2:=λu hu=>by
  simp only[List.mem_cons,List.not_mem_nil,or_false]at hu;rcases hu with rfl|rfl|rfl
  .exact iJ h1
  .exact iJ A
  .exact iJ B
 refine b3 (vs:=[e,h,v3]) ba.i rfl rfl N M λz O S P=>?_;have r:=L.put O Ω;exact E _ _ _ _ _ r P ((c3 h1).W r) ((c3 A).W r) ((c3 B).W r)
theorem TS{of:Λ->Int}{l:List (Λ)}{q:Nat}(a:l[q]?=σ t):gb k of (l.take (q+1))=simpStep of (gb k of (l.take q)) t:=by
 unfold gb;rw[u9,a,j4,List.foldl_append];rfl
def rr(w:x5)(v:x4)(o:Option (Λ)):Prop:=match o with
 |none=>v= .slice ν 0 0
 |some tl=>tl≠[]/\aQ .i64 w v tl
theorem rr.nil{v:x4}{o:Option (Λ)}(h:rr w v o):∃a n c,v= .slice a n c/\a.isNone=decide (o=ν):=by
 cases o with
 |none=>exact⟨ν,0,0,h,Ξ⟩
 |some tl=>
  obtain⟨h1,_,b,o,base,cap,rfl,_,_,e,_⟩:=h;exact⟨_,_,_,rfl,by rw[e (List.length_pos_iff.2 h1)];simp⟩
end
theorem TT{f g:Λ->Int}:∀{l:List (Λ)},(∀t∈l,f t=g t)->gb k f l=gb k g l:=by
 intro l;unfold gb;generalize (k,(ν:Option (Λ)))=p;induction l generalizing p with
 |nil=>intro _;rfl
 |cons v l a=>
  intro h;rw[List.foldl_cons,List.foldl_cons,show simpStep f p v=simpStep g p v by unfold simpStep;rw[h v (.head _)]];exact a _ λu hu=>h u (.tail _ hu)
theorem zB{cs:Λ}{m:Nat}(hi:cj an t 0=σ (m:Int)):bu an cs t=cs.getD m 0:=by
 unfold bu;rw[hi];rfl
theorem TU{m:Nat}(hi:cj an t 0=σ (m:Int)):n7 an t=m:=by
 unfold n7;rw[hi];rfl
section
variable{w:x5}{dm:x4}{k:Int}{d6:Λ}{s:am}
theorem TV{f:bL}(h:e3 w dm k d6 s)(B:bd k d6 s)(ah:s.ho[j]?=σ f)(av:pos<f.sc.length)(ac:∀u,f.sc[pos]?=σ u->v∈aU s u):
  aq x8 Jw [dm,Δ (j:Int),Δ (pos:Int),Δ v] w λr I=>Ext w I/\∃E,r= .tuple #[Δ (gb k (bu f.an f.cs) (bW s f.sc pos v)).1,E]/\rr I E (gb k (bu f.an f.cs) (bW s f.sc pos v)).2:=by
 have G:=x7 ah;obtain⟨P,Q,_⟩:=B.ho f G;have H:=(ka B G).1;have R:f.an.length=f.sc.length:=by rw[Q];simp[b5]
 have aV:=jt H;have aY:f.cs.length=(aX f.an).toNat:=by rw[Q];exact P.len
 refine aE func89 ?_;refine bn λg1 U aZ S aw=>?_;have V:=h.box S aw;obtain⟨hv,a1,a2,a7,E,bb,W,bc,_,be,bf,bg,ax,bh⟩:=id V;rw[aN aK.p 6 W rfl];refine GM ax ah λbi bj bl v3 bm J X s1 az aC=>?_;rw[aN aK.p 0 (W.W J) rfl,aN ba.p 1 X rfl];refine(sb f.an az ⟨by rw[R];exact P.scope.2,H⟩).Y ?_;rintro bo bp _ ⟨Y,aD⟩;have aF:=J.F Y;refine(V.W aF).load λbr aG=>?_;refine(zr aG B ah av ac).Y ?_;rintro dd Z _ ⟨aa,K,_⟩;have L:=Y.F aa;have aH:=J.F L;have ab:(kB s f pos v).length=(bW s f.sc pos v).length:=by unfold kB;rw[r9]
 rw[a8 au.u K,ab];obtain⟨of,ad⟩:∃of,of=bu f.an f.cs:=⟨_,rfl⟩;rw[<-ad];refine kE.range (bW s f.sc pos v).length (λq b a x=>Ext Z x/\b=Δ (gb k of ((bW s f.sc pos v).take q)).1/\rr x a (gb k of ((bW s f.sc pos v).take q)).2) (by rw[<-ab];exact K.le) ⟨Ext.refl _,rfl,rfl⟩ ?_ ?_
 .rintro q _ ae x aJ aL ⟨e,rfl,y⟩ aM;obtain⟨tl,M⟩:=aI (l:=bW s f.sc pos v) aL;have aO:=x7 M;obtain⟨m,hm⟩:=oY B G ac aO;have z:=TS (k:=k) (of:=of) M;have C:=lX H hm;rw[u7]at C;have af:m<f.cs.length:=by have:=(x6.1 C).1;omega
  have ag:of tl=f.cs.getD m 0:=by rw[ad];exact zB hm
  have aP:tl≠[]:=λhe=>by
   have:=xj C;rw[he,R,List.length_nil]at this;omega
  have aQ:(kB s f pos v)[q]?=σ (m:Int):=by unfold kB;rw[u4,M,Y7,TU hm]
  refine bF Ω ?_;refine iX (λb a I=>Ext Z I/\b=Δ (gb k of ((bW s f.sc pos v).take (q+1))).1/\rr I a (gb k of ((bW s f.sc pos v).take (q+1))).2) (λb a I aS=>by rw[aR];exact aM _ _ _ aS) λaA ai=>?_;rw[bk au.u al.i Ψ (K.W e) aQ];have aj:=X.W (L.F e);have ak:=aC.W (L.F e);refine a6 (λr I=>x=I/\r= .bool (decide ((gb k of ((bW s f.sc pos v).take q)).2=ν\/of tl<(gb k of ((bW s f.sc pos v).take q)).1))) ?_ λbs am=>?_
  .rintro _ _ ⟨rfl,rfl⟩;unfold simpStep at z;rw[ao];refine⟨λA=>?_,λA=>ai _ _ _ ⟨e,by rw[z,m5 A],by rw[z,m5 A];exact y⟩⟩;intro bt N _ _;have ap:=e.F N;rw[aN ba.p 2 (aj.W N) rfl,bk aB.u ay.i Ψ (ak.W N) (getD_some af),<-ag];refine fF rfl rfl ca.u au.i Ψ (bq aD (aa.F ap)) C λu hu=>?_;exact ai _ _ _ ⟨ap,by rw[z,m3 A],by rw[z,m3 A];exact⟨aP,c3 (jS hu)⟩⟩
  .obtain⟨bw,fn,bx,rfl,aT⟩:=y.nil;rw[qG au.u,aT,ao];refine⟨λO=>am _ _ ⟨rfl,by rw[ms (.inl O)]⟩,λO=>?_⟩;rw[aN ba.p 2 aj rfl,bk aB.u ay.i Ψ ak (getD_some af),<-ag,aW];refine am _ _ ⟨rfl,?_⟩;congr 1;exact decide_eq_decide.2 ⟨.inr,λh=>h.resolve_left O⟩
 .rintro _ ae x aJ ⟨e,rfl,y⟩;rw[o9]at y ⊢;exact b4 Ω ⟨(S.F aH).F e,ae,rfl,y⟩
theorem GN{f:bL}{a b:Int}{u:Int}(h:bd k d6 s)(ah:f∈s.ho)(e:f.sc=[a,b])(ae:pos=0\/pos=1)(ac:v∈aU s (if pos=1 then b else a))(hu:u∈aU s (if pos=1 then a else b)):∃m:Nat,cj f.an (if pos=1 then[u,v]else[v,u]) 0=σ (m:Int):=by
 refine oY (pos:=pos) (v:=v) h ah (λx J=>?_) ?_
 .rw[e]at J;rcases ae with rfl|rfl
  .cases J;exact ac
  .cases J;exact ac
 .rw[e];rcases ae with rfl|rfl
  .simp only[show¬((0:Nat)=1) by decide,if_false]at hu ⊢;simp[bW,jH,ii,hu]
  .simp only[if_true]at hu ⊢;simp[bW,jH,ii,hu]
theorem TW{a b:Int}{f:bL}{y:bp}(h:e3 w dm k d6 s)(x:bd k d6 s)(ah:s.ho[j]?=σ f)(G:f.sc=[a,b])(ae:pos=0\/pos=1)(ac:v∈aU s (if pos=1 then b else a))(z:s.d9[(if pos=1 then a else b).toNat]?=σ y):
  aq x8 Jx [dm,Δ (j:Int),Δ (pos:Int),Δ v] w λr I=>Ext w I/\r= .tuple #[Δ (cJ k (az y) λu=>min (bu f.an f.cs (if pos=1 then[u,v]else[v,u])+y.un.getD u.toNat 0) k).1,Δ (cJ k (az y) λu=>min (bu f.an f.cs (if pos=1 then[u,v]else[v,u])+y.un.getD u.toNat 0) k).2]:=by
 have H:=x7 ah;have bt:=x.ep;obtain⟨J,S,_⟩:=x.ho f H;have K:=(ka x H).1;have av:f.an.length=f.sc.length:=by rw[S];simp[b5]
 have bw:=jt K;have bx:f.cs.length=(aX f.an).toNat:=by rw[S];exact J.len
 have V:0<=(if pos=1 then a else b):=by
  have h1:=(J.scope.1 a (by rw[G];exact .head _)).1;have bz:=(J.scope.1 b (by rw[G];exact .tail _ (.head _))).1;split<;>omega
 obtain⟨o,aC⟩:∃o,o=(if pos=1 then a else b):=⟨_,rfl⟩;rw[<-aC]at z V;obtain⟨on,rfl⟩:=Y6 V;rw[u7]at z;have aw:aU s (on:Int)=az y:=by unfold aU;rw[u7,z]
 refine aE func90 ?_;refine bn λg1 U bA W ax=>?_;have aD:=h.box W ax;obtain⟨hv,bB,bC,bD,bE,bG,B,bH,_,aF,bI,aH,aJ,bJ⟩:=id aD;rw[aN aK.p 6 B rfl];refine GM aJ ah λbK bM bN v3 M C N s1 aL aM=>?_;have aO:f.sc[1-pos]?=σ (on:Int):=by rw[aC,G];rcases ae with rfl|rfl<;>rfl
 rw[aN ba.p 0 N rfl,dr,lm Ω Ω,show(1:Int)-(pos:Int)=((1-pos:Nat):Int) by omega,bk au.u al.i Ψ s1 aO,aN aK.p 0 (B.W C) rfl,aN aK.p 3 (B.W C) rfl];refine fF rfl rfl ca.u au.i Ψ (bq aF C) (by rw[u4,z];rfl) λbO X=>?_;have Y:=c3 X;have bP:=rn y;rw[a8 au.u Y];obtain⟨of,Z⟩:∃of:Int->Int,of=λu=>min (bu f.an f.cs (if pos=1 then[u,v]else[v,u])+y.un.getD u.toNat 0) k:=⟨_,rfl⟩;rw[<-Z];refine kE.range (az y).length (λq b a aa=>Ext M aa/\b=Δ (cJ k ((az y).take q) of).1/\a=Δ (cJ k ((az y).take q) of).2) Y.le ⟨Ext.refl _,rfl,rfl⟩ ?_ ?_
 .rintro q _ _ bQ aP aS ⟨O,rfl,rfl⟩ aT;obtain⟨u,hu⟩:=aI (l:=az y) aS;have ab:=x7 hu;have aV:=(e2.1 ab).1;obtain⟨un,rfl⟩:=Y6 aV.1;have E:=GK (k:=k) (f:=of) hu;have bR:=GL (k:=k) (f:=of) (l:=(az y).take q) λv ac=>(e2.1 (R2 ac)).1.1;obtain⟨tl,L⟩:∃tl:Λ,tl=(if pos=1 then[(un:Int),v]else[v,(un:Int)]):=⟨_,rfl⟩;obtain⟨m,hm⟩:=GN x H G ae ac (by rw[<-aC,aw];exact ab);rw[<-L]at hm;have ad:=lX K hm;rw[u7]at ad;have aZ:m<f.cs.length:=by have:=(x6.1 ad).1;omega
  have a1:=nh (t:=tl) x H;have bS:=ik (v:=un) x z;have a2:of (un:Int)=min (f.cs.getD m 0+y.un.getD un 0) k:=by
   rw[Z];simp only;rw[<-L,zB hm,u7]
  rw[zB hm]at a1;refine bF Ω ?_;refine iX (λb a I=>Ext M I/\b=Δ (cJ k ((az y).take (q+1)) of).1/\a=Δ (cJ k ((az y).take (q+1)) of).2) (λb a I a7=>by rw[aR];exact aT _ _ _ a7) λaA af=>?_;rw[bk au.u al.i Ψ (c3 (bq X O)) hu];refine oB (l:=[v,(un:Int)]) au.u al.i Ω rfl Ψ λbT bU bV bW ag bb=>?_;refine a6 (λr I=>Ext M I/\aQ .i64 I r tl) ?_ λbX ai=>?_
  rotate_left
  .rw[bm,ao];refine⟨λh1=>?_,λh1=>ai _ _ ⟨O.F ag,by rw[L,m5 Ω];exact bb.ls⟩⟩;refine oB (l:=[(un:Int),v]) au.u al.i Ω rfl Ψ λbY bZ bc b0 P be=>?_;exact ai _ _ ⟨(O.F ag).F P,by rw[L,m3 Ω];exact be.ls⟩
  rintro aY bc ⟨P,bf⟩;intro b1 aj _ _;have A:=P.F aj;have Q:=C.F A;rw[aN ba.p 2 (N.W A) rfl,aN ba.p 1 (N.W A) rfl,aN aK.p 5 (B.W Q) rfl];refine km (a:=y.un) (i:=on) rfl c0.u aB.i (bq aH Q) (by rw[u4,z];rfl) λb o cs bg e=>?_;obtain⟨bh,rfl⟩:∃u,cs=[u]:=by obtain⟨u,hu,_⟩:=e;exact⟨u,hu⟩
  have bi:=c3 e;have ak:=bg 0 _ rfl;rw[Nat.add_zero]at ak;rw[aG (v:=bh) Ψ ak];refine nR rfl aB.u ay.i bi (getD_some (i:=un) Ω) λb2 b3 bj=>?_;rw[aG Ψ bj,aN aK.p 0 (B.W Q) rfl];refine(MU (aL.W A) ⟨by rw[av];exact J.scope.2,K⟩ (bf.W aj)).Y ?_;rintro _ b6 _ ⟨rfl,R⟩;refine⟨.inl R,?_⟩;rw[Nx K,hm];simp only;rw[bk aB.u ay.i Ψ (aM.W (A.F R)) (getD_some aZ)];refine(mQ Ω Ω).Y ?_;rintro _ bl _ ⟨rfl,bo⟩;have am:=(A.F R).F bo;rw[<-a2];refine a6 (λr I=>bl=I/\r= .bool (decide ((cJ k ((az y).take q) of).2= -1\/of (un:Int)<(cJ k ((az y).take q) of).1))) ?_ λb7 ap=>?_
  .rintro _ _ ⟨rfl,rfl⟩;unfold fk at E;rw[ao];exact⟨λe=>af _ _ _ ⟨am,by rw[E,m3 e],by rw[E,m3 e]⟩,λe=>af _ _ _ ⟨am,by rw[E,m5 e],by rw[E,m5 e]⟩⟩
  .rw[aW,ao];refine⟨λbr=>ap _ _ ⟨rfl,by rw[ms (.inl Ω)]⟩,λbr=>?_⟩;rw[aW];refine ap _ _ ⟨rfl,?_⟩;congr 1;exact decide_eq_decide.2 ⟨.inr,λh=>h.resolve_left λh=>Ω⟩
 .rintro _ _ aa aP ⟨bs,rfl,rfl⟩;rw[o9];exact b4 Ω ⟨(W.F C).F bs,rfl⟩
end
abbrev nk:Type:=nP .u8×Int×Int×Int×Int
structure gd where
 d:Int
 i:Int
 pos:Int
 v:Int
 c:Int
def gd.ok(a:gd):Prop:=0<=a.d/\a.d<256
def gd.kind(a:gd):Nat:=(a.d % 7).toNat
def gd.cg(a:gd):List x4:=[.int .u8 a.d,Δ a.i,Δ a.pos,Δ a.v,Δ a.c]
def o2(x:nk):gd:=⟨x.1.val,x.2.1,x.2.2.1,x.2.2.2.1,x.2.2.2.2⟩
theorem TX{R:ak}{x:nk}(h:Seen R w cs x):cs=(o2 x).cg:=by
 obtain⟨r,_,_,_,rfl,_,_,_,a,s,_,_,_,rfl,_,_,_,e,y,_,_,_,rfl,_,_,_,f,z,A,_,_,rfl,_,_,_,j,q⟩:=h;have a:=a;have e:=e;have f:=f;have j:=j;have q:=q;subst a e f j q;rfl
theorem TY{x:nk}(h:(o8.u8.min<=x.1.val/\x.1.val<=o8.u8.max)/\(X5.min<=x.2.1/\x.2.1<=X5.max)/\(X5.min<=x.2.2.1/\x.2.2.1<=X5.max)/\(X5.min<=x.2.2.2.1/\x.2.2.2.1<=X5.max)/\(X5.min<=x.2.2.2.2/\x.2.2.2.2<=X5.max)):(o2 x).ok:=by
 have a:o8.u8.min=0:=Φ
 have e:o8.u8.max=255:=Φ
 rw[a,e]at h;exact⟨h.1.1,by have:=h.1.2;show x.1.val<256;omega⟩
theorem gd.one(a:gd):∀u∈a.cg,u.oneCell'=s2:=by
 intro u hu;unfold gd.cg at hu;simp only[List.mem_cons,List.not_mem_nil,or_false]at hu;rcases hu with rfl|rfl|rfl|rfl|rfl<;>rfl
theorem gd.TZ(a:gd):a.kind<7:=by
 grind [gd.kind]
def wc(k:Int)(a:gd):Int:=a.c.emod 18446744073709551616 % (k+1)
def ml(k:Int)(a:gd):fL:=⟨a.kind,a.i,a.pos,a.v,wc k a⟩
def nl(n:aJ)(s:am)(a:gd):am:=if a.kind=6 then(if eF n a.i a.v then eb s a.i.toNat a.v.toNat else s)else(bh n.k s (ml n.k a)).1
theorem zC{d:Int}{K:x4->Prop}(h:0<=d):ad x8 (aT .rem cV sp s2 (.int .u8 d) (.int .u8 7)) w K=K (.int .u8 (((d % 7).toNat:Nat):Int)):=by
 rw[rX Φ,Int.tmod_eq_emod_of_nonneg h]
 grind
section
variable{w:x5}{af ag av:Nat}{A R:ak}{A9:Nat->ak}{aL:ak}{n:aJ}{s u:am}{t:aD}{h:List aD}{cs:List x4}{a:gd}
theorem GO(a:bd n.k n.d6 s){i:Int}(h:eF n i v):0<=i/\∃x,s.d9[i.toNat]?=σ x/\0<=v/\v<x.un.length:=by
 obtain⟨x,J,h1,_,e⟩:=h.var a;exact⟨h.1,x,J,h.2.2.1,Ω⟩
theorem Ua(f:bV s/\dJ (dp n) s/\n.ho.length<=256)(j:bd n.k n.d6 s):bV (nl n s a)/\dJ (dp n) (nl n s a)/\n.ho.length<=256:=by
 unfold nl;split
 .split
  .rename_i h;obtain⟨r,x,J,ac,_⟩:=GO j h;have e:=kX (v:=a.v) J;have q:dJ s (eb s a.i.toNat a.v.toNat):=zk (v:=a.v);exact⟨by grind [bV.d9],f.2.1.F q,f.2.2⟩
  .exact f
 grind [TH]
theorem Ub(p:cm w af ag av A R A9 aL n s u t h cs){i:Nat}{x:bp}(J:u.d9[i]?=σ x):∃g cap y gy e,cs[3]?=σ (.slice (σ ⟨g,0,ν⟩) u.d9.length cap)/\w.cell? ⟨g,0+i*1,ν⟩=σ y/\aH .i64 e w gy y (az x)/\(∀r,lc y r->A9 0 r)/\
  ∀{U aa:x5}{m:Int}{z:x4}{K:Unit->x5->Prop},Ext w U->ai (λr=>lc y r) U aa->aH .i64 e aa gy z (az {x with mask:=m})->(∀r,lc z r->lc y r)->(∀F,cC w af ag av A R A9 aL n s t h {u with d9:=u.d9.set i {x with mask:=m}} F->K () F)->
   aM x8 (o7 au (.pointer (σ ⟨g,0+i*1,ν⟩)) z) aa K:=by
 have G:=p.olds;have aq:=(x6.1 J).1;obtain⟨hv,V,ax,ay,aA,aB,W,_,X,_,_,_,_,aC⟩:=id G.doc;obtain⟨g,cap,full,Y,c,Z,e,f,aD,j,H,I,aE,aF,ac⟩:=F0 X (by rw[u4,J];rfl) (by grind);obtain⟨y,rfl⟩:=W3.1 (aw.len I);rw[r9]at e;have ad:full[i]?=σ y:=by have:=H 0 y rfl;simpa[show aw.n (Λ)=1 from rfl]using this
 obtain⟨gy,ae,ah,ak⟩:=BT I;have aG:∀r,lc y r->Z r:=λr a=>by
  rcases ak with rfl|aI
  .obtain⟨_,_,_,e,_⟩:=a;cases e
  grind [cd]
 refine⟨g,cap,y,gy,ae,by grind,by have:=f.cell ad;grind,ah,by grind,λ{U aa m L K}B C M al am=>?_⟩;have aJ:=B.size;have aK:=C.size;have j:i*1+1<=full.length:=j;obtain⟨_,_,_,N⟩:=df M.ls;have O:¬lc y g:=by grind
 refine bw (o:=0+i*1) au.i (by rw[N];rfl) (by rw[N];rfl) ((f.W B).ab C O) Ω λP Q aN S=>?_;have S:aj P g Y (over full (i*1) [L]):=by
  have e:=F3 (o:=i*1) (q:=0) (x:=L) H j Ξ
  grind
 have aO:g<w.heap.size:=f.lt;have E:ai (λr=>lc y r\/r=g) w P:=((B.ab _).F (C.Y (by grind))).F (Q.Y Ω);have an:=bG M Q λr a he=>by have he:r=g:=he;exact O (he▸al r a)
 have aP:=ac E (by grind) S (oV an) (by grind);have ao:∀r,r<w.heap.size->(lc y r\/r=g)->A9 0 r/\r<w.heap.size:=by grind
 obtain⟨cD,ap,aQ⟩:=G.qd (u':={u with d9:=u.d9.set i {x with mask:=m}}) Ω (v:=V) (by rw[W];rfl) E ao (by grind [U2]) rfl (rm J rfl) (rm J rfl) rfl rfl;refine am _ ⟨E.Y (by grind),cD,cs,ap,λq r a=>?_⟩
 grind
end
section
variable{Z aL:ak}{w I:x5}{af ag av:Nat}{A R:ak}{A9:Nat->ak}{n:aJ}{s s':am}{t:aD}{cs:List x4}{a:gd}
def lG(Z aL:ak)(w:x5)(af ag av:Nat)(n:aJ)(s':am)(I:x5):Prop:=ai (λr=>Z r/\¬aL r) w I/\∃mi,(∀r,mi r->Z r\/w.heap.size<=r)/\fC mi aL I af ag av n s'
theorem fC.Uc{aS:ak}{cD:Nat->ak}{bx:aD}(p:cm w af ag av A R A9 aL n s s t [] cs)(f:∀r,Z r↔jL A R A9 aL av r)(H:bV s'/\dJ (dp n) s'/\n.ho.length<=256)(x:¬Z 0)(I:Laid w)(y:ai (eQ w) w U)(z:Grow A w aS U)(j:∀q r,cD q r->A9 q r)(J:cC U af ag av aS R cD aL n s' bx [] s' aa):lG Z aL w af ag av n s' aa:=by
 obtain⟨B,C,bK,K,L⟩:=J;have O:=y.size;have P:=B.size;have M:=p.Gk;have E:ai (λr=>Z r/\¬aL r) w aa:=((vK z.1 y).Y (T:=λr=>Z r/\¬aL r) λr _ h=>⟨(f r).2 (.inl h.1),λbe=>(p.read r be).1 h.2⟩).F
  (B.Y λr _ h=>⟨(f r).2 (h.elim (λ⟨q,h⟩=>.inr (.inr (.inl ⟨q,j q r h⟩))) λh=>.inr (.inr (.inr (.inr h)))),h.elim (λ⟨q,h⟩=>M q r (j q r h)) λh be=>(p.read r be).2.2 h⟩)
 have Q:=p.box.lt;have e:∀{r:Nat}{X:Prop},(X->jL A R A9 aL av r)->X->Z r\/w.heap.size<=r:=λN h=>.inl ((f _).2 (N h));have F:∀r,jL aS R (λq r=>C q r/\r<aa.heap.size) aL av r->Z r\/w.heap.size<=r:=by
  intro r a;rcases a with a|a|⟨q,a,_⟩|a|a
  .exact (z.2.1 r a).elim (e .inl) .inr
  .exact e (λh=>.inr (.inl h)) a
  .exact (L q r a).elim (λ⟨G,h⟩=>e (λh=>.inr (.inr (.inl h))) ⟨G,j G r h⟩) λh=>.inr Ω
  .exact e (λh=>.inr (.inr (.inr (.inl h)))) a
  .exact e (λh=>.inr (.inr (.inr (.inr h)))) a
 exact⟨E,λr=>jL aS R (λq r=>C q r/\r<aa.heap.size) aL av r,F,aS,R,_,bx,bK,K.olds,⟨iH E (λh=>x h.1) I,λh=>(F 0 h).elim x λh=>Ω⟩,H,λr=>Iff.rfl,λq r a=>a.2⟩
theorem lG.same(h:fC Z aL w af ag av n s)(J:Ext w I):lG Z aL w af ag av n s I:=⟨J.ab _,Z,λ_ h=>.inl h,h.W J⟩
theorem lG.before(J:Ext w U)(h:lG Z aL U af ag av n s I):lG Z aL w af ag av n s I:=by
 obtain⟨c,mi,a,e⟩:=h;have:=J.size;exact⟨(J.ab _).F c,mi,λr f=>(a r f).imp id λh=>Ω,e⟩
end
def qj(s:am):Prop:=∀f∈s.ho,f.live≠0
theorem Ud(n:aJ):qj (dp n):=by
 intro f ah;unfold dp at ah;obtain⟨g,_,rfl⟩:=l9.1 ah;exact(by decide:(1:Int)≠0)
theorem GP{a b:am}(h:dJ a b)(k:qj a):qj b:=by
 intro g q;obtain⟨j,e⟩:=List.getElem?_of_mem q;have r:=(x6.1 e).1;obtain⟨f,ah⟩:=aI (l:=a.ho) (i:=j) (by have:=h.ho;omega);rw[(h.fn j f g ah e).2.2.1];exact k f (x7 ah)
section
variable{w:x5}{af ag:Nat}{A R:ak}{n:aJ}{s:am}{t:aD}{dm:x4}
end
def nn(w0 w:x5)(af ag av:Nat)(n:aJ):Prop:=Ext w0 w/\∃s Z aL,fC Z aL w af ag av n s/\∀r,Z r->w0.heap.size<=r
section
variable{w0 w I:x5}{af ag av:Nat}{n:aJ}{s:am}{Z aL:ak}
theorem nn.W(h:nn w0 w af ag av n)(J:Ext w I):nn w0 I af ag av n:=by
 obtain⟨a,s,Z,aL,e,f⟩:=h;exact⟨a.F J,s,Z,aL,e.W J,f⟩
end
theorem fC.live{Z aL:ak}{ag av:Nat}{n:aJ}{s:am}(h:fC Z aL w af ag av n s):qj s/\s.ho.length<=256:=by
 obtain⟨_,_,a,ah⟩:=h.ok;refine⟨GP a (Ud n),?_⟩;rw[a.ho];unfold dp;rw[r9];exact ah
theorem Ue{n:aJ}{s:am}{i:Nat}{x:bp}(h:dJ (dp n) s)(J:s.d9[i]?=σ x):x.gone=0:=by
 obtain⟨y,a⟩:=aI (l:=(dp n).d9) (i:=i) (by have:=(x6.1 J).1;have:=h.d9;omega);rw[(h.var i y x a J).1];unfold dp at a;simp only[u4,Y0]at a;obtain⟨u,_,rfl⟩:=a;rfl
section
variable{w:x5}{n:aJ}{af ag av:Nat}
end
section
variable{w:x5}{af ag:Nat}{A R:ak}{n:aJ}{s:am}{t:aD}
theorem we{i:Nat}{x:bp}(a:bd n.k n.d6 s)(J:s.d9[i]?=σ x)(ac:v∈az x):bQ n s (i:Int) v=x.un.getD v.toNat 0:=by
 unfold bQ;rw[m3 (qh a J ac),u7];unfold fz;rw[J]
theorem np{i:Nat}{x:bp}(J:s.d9[i]?=σ x):aU s (i:Int)=az x:=by
 unfold aU;rw[u7,J]
theorem Uf{i:Nat}{x:bp}(a:bd n.k n.d6 s)(J:s.d9[i]?=σ x):dW n s (i:Int)=cJ n.k (az x) λv=>x.un.getD v.toNat 0:=by
 unfold dW;rw[np J];exact GJ λv ac=>we a J ac
end
end Go.Proofs.YtlcdcbgoaljiiaaGreatDoor
