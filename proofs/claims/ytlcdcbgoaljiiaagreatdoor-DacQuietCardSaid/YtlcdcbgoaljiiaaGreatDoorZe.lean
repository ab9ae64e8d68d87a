/- own texts, made small by a tool (wip/ holds them as they were written): no statement of the seat. -/
import Derived.Test.YtlcdcbgoaljiiaaGreatDoorZd
set_option linter.unusedVariables false
set_option linter.unusedSimpArgs false
set_option linter.unnecessarySimpa false
open Array renaming getElem?_eq_some_iff→Z6
open Bool renaming false→ne,true→ms,not_true→Y1,not_false→X4,eq_iff_iff→U1,true_and→T0,and_eq_true→S0
open Decidable renaming not_not→X0
open Go renaming Value→x1,World→x4,TypeId→r8,IntKind→o5,Program→W5,FuncId→S9
open Go.Addr renaming add_mid→U6
open Go.Builtin renaming append_→c9,len_→W7
open Go.Instr renaming loadAt→u4,fieldAt→u6,storeAt→o7,indexAt→n9,buildSlice→Y3,sliceAt→V5,alloc→R4
open Go.IntKind renaming i64→X3
open Go.Proofs.Tryz renaming prog→x7
open Int renaming toNat_natCast→u5,eq_ofNat_of_zero_le→Y6,le_refl→S8
open List renaming getElem?_eq_some_iff→x5,mem_of_getElem?→x6,getElem?_eq_getElem→x8,getElem?_map→v8,take_add_one→u7,length_map→u9,replicate→r9,getD_eq_getElem?_getD→p8,length_append→o4,take_length→o6,mem_map→o9,take_of_length_le→j4,mem_append→j5,eq_nil_of_length_eq_zero→j6,length_take→j9,map_append→Z2,length_set→Z5,mem_singleton→Z7,getElem?_set_self→Y2,mem_iff_getElem?→Y4,ext_getElem?→Y5,drop_eq_getElem_cons→Y8,getElem?_append_right→X1,range→X2,length_cons→X5,append_assoc→X7,getElem?_set→X8,getElem?_set_ne→W0,getElem?_take_of_lt→W3,length_eq_one_iff→W6,getElem?_eq_none→V0,append_nil→V2,getElem?_append_left→V3,flatMap_cons→U2,pairwise_iff_getElem→U3,map_set→U4,mem_or_eq_of_mem_set→U7,mem_filter→T6,map_map→T7,getElem_mem→T9,length_singleton→S1,mem_of_mem_take→S4
open Nat renaming le_refl→p9,le_trans→Y7,mul_le_mul_right→X6,zero_le→X9,zero_add→V7,sub_self→V8,mul_one→T1,pow_le_pow_right→T3,add_mul→T4
open Option renaming toList_some→o8,isNone_some→l9,map_eq_some_iff→Y0,map_some→Y9,map→V9,isSome_some→T8,isSome_none→S6
open Option.some renaming inj→Z4
set_option maxHeartbeats 16000000
open Option renaming some→σ,none→ν
variable{I U ab w:x4}{a c k v:Int}{am l sc d6 t tl:Λ}{e:r8}{B af ag ga gt gtb gy j pos:Nat}{cs:List x1}{K:x1->Prop}{aZ:x1}{D:Nat->Prop}
namespace Go.Proofs.YtlcdcbgoaljiiaaGreatDoor
open Go Go.Vc Go.RowKit Go.Proofs Go.Proofs.Tryz
set_option maxRecDepth 100000
theorem oZ{R:ak}{v:x1}{g:Nat}(h:aH .i64 e w g v l):bS (λr=>hv v r) R w [v] l:=by
 have h1:=pJ (R:=R) h;by_cases f:v= .slice ν 0 0
 .subst f;have:l=[]:=by
   obtain⟨j,⟨_,a⟩|⟨_,_,a,_⟩⟩:=h
   .exact j6 a
   .cases a
  subst this;exact jf
 .obtain⟨j,⟨a,_⟩|⟨cap,cs,a,_⟩⟩:=id h
  .exact m2 a f
  .refine ay.Y h1 (λr _ q=>?_) λ_ _ h=>h;rw[a];exact⟨_,_,_,rfl,q.symm⟩
theorem zi{R:ak}{v:x1}{g:Nat}(e:∀r c,B<=r->ai w r al c->R r)(h:aH .i64 al w g v l)(ac:∀r,hv v r->B<=r):Seen R w [v] l:=r3 (oZ (R:=λ_=>False) h) λr j a=>by
 rcases a with a|a
 .obtain⟨c,f⟩:=s8 h r a;exact e r c (ac r a) f
 .exact a.elim
theorem Sh{R:ak}{zero:Int}{ho:x1}(h:Seen R w [ho] d6):ck ms (λ_ _=>False) R w [Δ k,ho,Δ zero,.slice ν 0 0,.slice ν 0 0,.slice ν 0 0,.slice ν 0 0,.slice ν 0 0] k d6 zero [] [] [] [] []:=
 ⟨_,_,_,_,_,_,rfl,h,jf,jf,jf,jf,jf,λ_=>⟨λ_ _ _ _ h=>h.elim,λ_ _ h=>h.elim⟩⟩
theorem ck.at{m:Bool}{A:Nat->ak}{R:ak}{zero:Int}{D:List (Λ)}{G:List Bool}{bc:List (Λ)}{H:List k0}{E:List qi}(h:ck m A R w cs k d6 zero D G bc H E)(c:Nat)(a:c<8):∃v,cs[c]?=σ v:=⟨_,x8 (by rw[h.len.1];exact a)⟩
def Si(R:ak)(w:x4)(e gt gs:Nat)(n:aI)(f:List x1)(i j:Nat)(a:x4):Prop:=Ext w a/\ai a e ed f/\ai a gt a8 z12/\∃A cs,ai a gs a8 cs/\(∀q r,A q r->gs<r)/\
 ck ms A R a cs n.k n.d6 n.zero ((n.unary.take i).map λu=>aB (newVar u)) (r9 i ne) (n.unary.take i) ((n.d8.take j).map λg=>kE (m9 n.d6 g)) []
theorem Ge{bD:x1}{n:aI}{R:ak}(aw:∀r,R r->r<w.heap.size)(a2:∀r c,B<=r->ai w r al c->R r)(cz:yT w B bD n)(ad:kX n)(ah:n.d8.length<=256):aq x7 Jf [bD] w λv I=>Ext w I/\∃A cs,v= .agg cs.toArray/\kc ms A R I cs n.k n.d6 (dB n)/\∀q r,A q r->w.heap.size<=r:=by
 have dW:=ad.d6.2.1;have cA:=ad.mc;refine aF func62 ?_;refine bo λg1 U dX a6 cB=>?_;obtain⟨ho,gz,cC,dZ,bE,cD,ea,ba,ay,az,cE,bG,bb,cF,bH,cG,bI⟩:=RC cz cB;refine bC a8.i λgt ab eb aA aE=>?_;have aE:ai ab gt a8 z12:=aE;have bc:=ay.W aA;rw[aO ed.p 0 bc rfl,aO ed.p 1 bc rfl,aO ed.p 2 bc rfl,
  dk (cs:=#[Δ n.k,ho,Δ n.zero,.slice ν 0 0,.slice ν 0 0,.slice ν 0 0,.slice ν 0 0,.slice ν 0 0]) (by obtain⟨_,_,_,e⟩:=dA az.ls;rw[e];kernel_rfl)]
 refine bC a8.i λgs ec ee aG cH=>?_;have cI:Seen R w [ho] n.d6:=zi a2 az cG;have ef:=a6.size;have eg:=aA.size;have z3:=aG.size;have cJ:=(a6.F aA).F aG;have bJ:=Sh (k:=n.k) (zero:=n.zero) (bP cI cJ);refine b8 (vs:=[Δ n.k,ho,Δ n.zero,.slice ν 0 0,.slice ν 0 0,.slice ν 0 0,.slice ν 0 0,.slice ν 0 0]) a8.i rfl rfl bJ.len.2 cH λeh bd ei cK=>?_;have ej:=aE.lt;have ek:=ay.lt;have cL:gt≠gs:=Ω
 have bf:=(aA.F aG).put bd Ω;have bK:=a6.F bf;have cM:=(aE.W aG).aa bd λhe=>cL he;have em:w.heap.size<gs:=Ω
 rw[aO ed.p 1 (ay.W bf) rfl,a7 av.u (az.W bK).ls];have cN:=bJ.aa bd λr f h he=>by
  have he:r=gs:=he;rcases h with⟨_,h⟩|h
  .exact h
  .have:=aw r h;omega
 refine b6.range n.d6.length (λi P=>Si R w g1 gt gs n [Δ n.k,ho,Δ n.zero,cC,cD] i 0 P) Ω ⟨bK,ay.W bf,cM,_,_,cK,(λ_ _ h=>h.elim),cN⟩ ?_ ?_
 .rintro i P cO hi ⟨Q,bg,bh,A,cs,ae,bi,aJ⟩ cP;obtain⟨z,bj⟩:=aK (l:=n.d6) hi;obtain⟨u,hu⟩:=aK (l:=n.unary) (i:=i) Ω;have en:=ad.d6.2.2 z (x6 bj);obtain⟨eo,_⟩:=ad.unary i z u bj hu;refine bM Ω ?_;rw[bm av.u al.i Ψ (az.W Q).ls bj];obtain⟨bL,rfl⟩:∃m:Nat,z=m:=⟨z.toNat,Ω⟩;refine cb.range bL (λj af aL=>Ext P aL/\∃g,aH .i64 al aL g af ((X2 j).map λv:Nat=>(v:Int))/\∀r,hv af r->P.heap.size<=r) Ω
   ⟨Ext.refl _,0,aH.nil _ _ _ _,λr f=>by obtain⟨a,n,c,K,S⟩:=f;cases K⟩ ?_ ?_
  .rintro j af aL bk bl ⟨L,cQ,V,aM⟩ bn;refine bM Ω ?_;refine eI av.u al.i rfl λep er cR es H cS=>?_;refine iF av.u al.i rfl (V.W H) cS.ls Θ Θ λeu cT cU cV cW W=>?_;rw[aR];have cX:=L.size;have cY:=H.size;refine bn _ _ ⟨(L.F H).then W λr f he=>by have:=aM r he;omega,cT,?_,λr f=>(cW r f).elim (aM r) λh=>Ω⟩;rw[List.range_succ,Z2];exact cV
  rintro af aL bk ⟨L,cQ,V,aM⟩;refine cc Ω ?_;have cZ:(X2 bL).map (λv:Nat=>(v:Int))=aB (newVar u):=by rw[RD];congr 2;omega
  rw[cZ]at V;have cX:=L.size;have ev:=Q.size;have ew:=ae.lt;have ag:∀r,R r->r<gs:=λr f=>by have:=aw r f;omega
  have low:∀{s C:x4}{b:Nat}{e:r8}{c:List x1},aj (λr=>gs<=r) s C->b<gs->ai s b e c->ai C b e c:=λM c1 h=>h.aa M λX=>by have X:=X;omega
  have am:∀{s C:x4},Ext w s->aj (λr=>gs<=r) s C->Ext w C:=λJ M=>J.then M λr f h=>by have h:=h;omega
  have bN:=aJ.old.W L;have c2:∀q r,(A q r/\r<P.heap.size)->gs<r:=λq r h=>bi q r h.1;obtain⟨ey,bO⟩:=bN.at 3 Ω;rw[aO a8.p 3 (ae.W L) bO];refine lZ df.u av.i Φ (a:=aB (newVar u)) (cs:=[af]) V.ls.cells.1 (oZ (R:=R) V) λez cR H _ c3=>?_;have cY:=H.size;have aN:=L.F H;refine ck.Sd (bN.W H) (ae.W aN) bO c2 ag c3 (bP (oZ V) H) (λr f h=>?_) Θ λeA eB cU W bQ bR c4 _=>?_
  .have:=aM r h;exact⟨λj h=>Ω,Ω⟩
  have eC:=W.size;obtain⟨eD,bT⟩:=bR.at 4 Ω;rw[aO a8.p 4 bQ bT];refine lZ (a:=ne) (cs:=[.bool ne]) (A:=λ_=>False) (R:=R) lb.u eE.i Φ rfl rfl λeF eH Y _ c5=>?_;refine ck.Se (B:=λ_=>False) (bR.W Y) (bQ.W Y) bT c4 ag c5 rfl (λr f h=>h.elim) Θ λc6 eJ bU aP bV c7 c8 _=>?_;have z9:=Y.size;have eK:=aP.size;have c9:Ext w bU:=am ((am (Q.F aN) W).F Y) aP;have da:=low aP Ω ((low W Ω (bg.W aN)).W Y);have db:=low aP Ω ((low W Ω (bh.W aN)).W Y);intro bp Z _ _;have bW:=bV.W Z;have bX:=da.W Z;have bY:=c9.F Z;obtain⟨qd,aQ⟩:∃qd,bE[i]?=σ qd:=⟨_,x8 (by have:=congrArg List.length bG;rw[u9]at this;omega)⟩;have dc:qd.l=u:=by
   have bZ:(bE.map (·.l))[i]?=σ qd.l:=by rw[v8,aQ];rfl
   rw[bG,hu]at bZ;exact(Z4 bZ).symm
  have bq:=cE.W bY;obtain⟨eL,b0⟩:=bq.2 qd (x6 aQ);rw[dc]at b0;have b1:=c7.old.W Z;have dd:∀q r,(c6 q r/\r<bU.heap.size)->gs<r:=λq r h=>c8 q r h.1;obtain⟨eM,b2⟩:=b1.at 5 Ω;rw[aO a8.p 5 bW b2,aO ed.p 3 bX rfl,cf rfl et.u aC.i bq.1 (x5.1 aQ).1,aD (v:=qd.v) (o:=i*1) Ψ (bq.1.range aQ 0 _ rfl)];refine yW (k:=.i64) aC.u ax.i λde eN eO eP aS b3=>?_;refine⟨.inl aS,?_⟩;refine iF aC.u ax.i rfl b3 (b0.W aS).ls Θ Θ λb4 eQ dg aT dh di=>?_;rw[List.nil_append]at aT;have eR:=Z.size;have eS:=aS.size;have b7:∀r,hv de r->bp.heap.size<=r:=λr f=>by have:=(b5 b3 f).1;omega
  have dj:∀r,hv b4 r->bp.heap.size<=r:=λr f=>(dh r f).elim (b7 r) λh=>Ω
  have br:Ext bp dg:=aS.then di λr f he=>by have:=b7 r he;omega
  refine⟨.inl br,?_⟩;have eU:=br.size;refine lZ et.u aC.i Φ (a:=u) (cs:=[b4]) aT.ls.cells.1 (oZ (R:=R) aT) λeV eW bs _ dl=>?_;have eX:=bs.size;have ac:=br.F bs;refine⟨.inl ac,?_⟩;refine ck.Sf (b1.W ac) (bW.W ac) b2 dd ag dl (bP (oZ (R:=R) aT) bs) (λr f h=>?_) Θ λdm dn eY bt dp dq dr _=>?_
  .have:=dj r h;have:=bV.lt;exact⟨λj h=>Ω,Ω⟩
  rw[aR];refine cP _ ⟨am (bY.F ac) bt,low bt Ω (bX.W ac),low bt Ω ((db.W Z).W ac),dm,dn,dp,dr,?_⟩;rw[u7,hu,o8,Z2,List.map_cons,List.map_nil,List.replicate_succ'];exact dq
 rintro P cO ⟨Q,bg,bh,A,cs,ae,bi,aJ⟩;refine cc Ω ?_;rw[j4 Ω]at aJ;have eZ:ba.length=n.d8.length:=by rw[<-bH,u9]
 have ds:=bb.W Q;rw[aO ed.p 4 bg rfl,dO c0.u ds];have ag:∀r,R r->r<gs:=λr f=>by have:=aw r f;omega
 have low:∀{s C:x4}{b:Nat}{e:r8}{c:List x1},aj (λr=>gs<=r) s C->b<gs->ai s b e c->ai C b e c:=λM c1 h=>h.aa M λX=>by have X:gs<=_:=X;omega
 have am:∀{s C:x4},Ext w s->aj (λr=>gs<=r) s C->Ext w C:=λJ M=>J.then M λr f h=>by have h:gs<=r:=h;omega
 refine b6.range ba.length (λj G=>Ext w G/\ai G gt a8 z12/\∃A cs,ai G gs a8 cs/\(∀q r,A q r->gs<r)/\
  ck ms A R G cs n.k n.d6 n.zero (n.unary.map λu=>aB (newVar u)) (r9 n.d6.length ne) n.unary ((n.d8.take j).map λg=>kE (m9 n.d6 g)) []) bb.le ⟨Q,bh,A,cs,ae,bi,aJ⟩ ?_ ?_
 .rintro j G bk bl ⟨N,bu,bw,aU,aV,aW,an⟩ bn;obtain⟨y,ao⟩:=aK (l:=ba) bl;have b9:n.d8[j]?=σ (dU y):=by rw[<-bH,v8,ao];rfl
  have ca:=(ad.d8 (dU y) (x6 b9)).1;have e0:y.cs.length<=4096:=by
   have h1:y.cs.length=_:=ca.len;have X:=ca.small;omega
  have cd:=cF y (x6 ao);have ce:=cd.W N;have cg:=bb.W N;refine bM Ω ?_;rw[cf rfl c0.u be.i cg bl,bF be.p be.i rfl (cg.range ao)];refine bC be.i λe1 e2 e3 dt du=>?_;refine b8 (vs:=dY y) be.i rfl rfl ce.one du λdv dw e4 dx=>?_;have dy:Ext G dv:=dt.put dw Ω;intro bx ch _ _;have O:=dy.F ch;have ci:=aV.W O;have bz:=dx.W ch;have dz:=ce.W O;obtain⟨⟨e5,cj⟩,⟨e6,cl⟩,e7,dC⟩:=id dz;have cm:=an.old.W O;have dD:∀q r,(bw q r/\r<G.heap.size)->gs<r:=λq r h=>aW q r h.1;obtain⟨e8,cn⟩:=cm.at 6 Ω;rw[aO a8.p 6 ci cn,aO be.p 0 bz rfl,aO be.p 1 bz rfl,aO be.p 2 bz rfl];refine yW (k:=.i64) aC.u ax.i λv25 e9 fb fc aX cp=>?_;refine⟨.inl aX,?_⟩;refine iF aC.u ax.i rfl cp (dC.W aX).ls Θ Θ λE fd cq aY dE dF=>?_;rw[List.nil_append]at aY;have fe:=O.size;have z25:=aX.size;have cr:∀r,hv v25 r->bx.heap.size<=r:=λr f=>by have:=(b5 cp f).1;omega
  have dG:∀r,hv E r->bx.heap.size<=r:=λr f=>(dE r f).elim (cr r) λh=>Ω
  have a1:Ext bx cq:=aX.then dF λr f he=>by have:=cr r he;omega
  refine⟨.inl a1,?_⟩;rw[dk (cs:=#[y.aZ,y.ho,E]) (by obtain⟨_,_,_,K⟩:=dA cj.ls;obtain⟨_,_,_,S⟩:=dA cl.ls;obtain⟨_,_,_,ap⟩:=dA aY.ls;rw[K,S,ap];kernel_rfl),
   dk (cs:=#[y.aZ,y.ho,E,.bool ms]) (by obtain⟨_,_,_,K⟩:=dA cj.ls;obtain⟨_,_,_,S⟩:=dA cl.ls;obtain⟨_,_,_,ap⟩:=dA aY.ls;rw[K,S,ap];kernel_rfl)]
  have ff:=a1.size;have ct:=(N.F O).F a1;obtain⟨⟨ga,dH⟩,⟨fg,dJ⟩,_⟩:=id cd;have own:bS (α:=k0) (λr=>hv E r) R cq [y.aZ,y.ho,E,.bool ms] (kE (m9 n.d6 (dU y))):=by
   refine⟨[y.aZ,y.ho,E],[.bool ms],λr=>hv E r,λ_=>False,rfl,λ_ h=>h,λ_ h=>h.elim,λ_ _ _ h=>h,⟨[y.aZ],[y.ho,E],λ_=>False,λr=>hv E r,rfl,λ_ h=>h.elim,λ_ h=>h,λ_ _ h=>h.elim,?_,[y.ho],[E],λ_=>False,λr=>hv E r,rfl,λ_ h=>h.elim,λ_ h=>h,λ_ _ h=>h.elim,?_,?_⟩,rfl⟩
   .exact bP (zi a2 dH λr f=>bI y (x6 ao) r (.inr (.inl f))) ct
   .exact bP (zi a2 dJ λr f=>bI y (x6 ao) r (.inr (.inr f))) ct
   .exact oZ aY
  refine lZ fa.u dI.i Φ rfl own λfh fi bA _ dK=>?_;have fj:=bA.size;have au:=a1.F bA;refine⟨.inl au,?_⟩;refine ck.Sg (cm.W au) (ci.W au) cn dD ag dK (bP own bA) (λr f h=>?_) Θ λdL dM fk cu dN dP dQ _=>?_
  .have:=dG r h;have:=aV.lt;exact⟨λj h=>Ω,Ω⟩
  rw[aR];refine bn _ ⟨am (N.F (O.F au)) cu,low cu Ω (bu.W (O.F au)),dL,dM,dN,dQ,?_⟩;rw[u7,b9,o8,Z2,List.map_cons,List.map_nil];exact dP
 rintro G bk ⟨N,bu,bw,aU,aV,aW,an⟩;rw[j4 Ω]at an;refine cc Ω ?_;obtain⟨bB,dR⟩:=an.len;rw[bF a8.p a8.i bB (show G.rangeAt gs 0 aU from aV.range)];refine b8 (vs:=aU) a8.i bB rfl dR bu λfm cw fo dS=>?_;rw[gk a8.p a8.i bB dS.range];have dT:=an.aa cw λr f h he=>by
  have he:r=gt:=he;rcases h with⟨q,h⟩|h
  .have:=aW q r h;omega
  .have:=aw r h;omega
 have fp:=N.size;refine⟨N.then cw λr f he=>by have he:r=gt:=he;omega,bw,aU,rfl,?_,λq r h=>by have:=aW q r h;omega⟩;have K:(dB n).d7.map aB=n.unary.map λu=>aB (newVar u):=by show(n.unary.map newVar).map aB=_;rw[T7];rfl
 have S:(dB n).d7.map (λx=>decide (x.gone≠0))=r9 n.d6.length ne:=by
  show(n.unary.map newVar).map _=_;rw[T7,<-cA];exact List.map_const' ..
 have ap:(dB n).d7.map (·.un)=n.unary:=by show(n.unary.map newVar).map _=_;rw[T7];exact List.map_id _
 have dV:(dB n).d8.map kE=n.d8.map λg=>kE (m9 n.d6 g):=by show(n.d8.map (m9 n.d6)).map kE=_;rw[T7];rfl
 unfold kc;rw[K,S,ap,dV];exact dT
def n4(w:x4)(g:Nat)(k:Int)(d6:Λ)(s:an):Prop:=∃ho a e f h j,ai w g a8 [Δ k,ho,Δ s.zero,a,e,f,h,j]/\aQ .i64 w ho d6/\Seen e3 w [ho] d6/\
 Seen e3 w [a] (s.d7.map aB)/\Seen e3 w [e] (s.d7.map λx=>decide (x.gone≠0))/\Seen e3 w [f] (s.d7.map (·.un))/\Seen e3 w [h] (s.d8.map kE)/\Seen e3 w [j] (s.di.map Gc)
section
variable{w I:x4}{g:Nat}{v:x1}{k:Int}{d6:Λ}{s:an}
theorem n4.W(h:n4 w g k d6 s)(J:Ext w I):n4 I g k d6 s:=by
 obtain⟨ho,a,e,f,j,q,r,h1,x,y,z,A,B,C⟩:=h;exact⟨ho,a,e,f,j,q,r.W J,h1.W J,bP x J,bP y J,bP z J,bP A J,bP B J,bP C J⟩
theorem iI.box(h:iI w v k d6 s)(J:Ext w I)(f:ai I g a8 v.cells.toList):n4 I g k d6 s:=by
 obtain⟨cs,rfl,ho,z,B,C,E,F,rfl,h1,j,q,r,x,y,_⟩:=h;obtain⟨_,_,_,G⟩:=dA (dy h1);have c:∀{α:Type}[ay α]{v:x1}{l:List α}{A:ak},ay.rep ne A e3 w [v] l->∃a n c,v= .slice a n c:=λh=>by
  obtain⟨_,_,_,_,_,⟨_,b,o,base,cap,e,_⟩,_⟩:=kP h;exact⟨_,_,_,e⟩
 obtain⟨_,_,_,H⟩:=c j;obtain⟨_,_,_,K⟩:=c q;obtain⟨_,_,_,L⟩:=c r;obtain⟨_,_,_,M⟩:=c x;obtain⟨_,_,_,N⟩:=c y;refine⟨ho,z,B,C,E,F,?_,(dy h1).W J,bP h1 J,bP j J,bP q J,bP r J,bP x J,bP y J⟩;rw[G,H,K,L,M,N]at f ⊢;exact f
theorem n4.load(h:n4 w g k d6 s)(a:∀u,iI w u k d6 s->K u):ad x7 (u4 a8 (Γ g)) w K:=by
 obtain⟨ho,e,f,j,q,r,x,h1,y,z,A,B,C,E⟩:=h;rw[bF a8.p a8.i rfl x.range];exact a _ ⟨_,rfl,ho,e,f,j,q,r,rfl,y,z,A,B,C,E,λh=>by cases h⟩
theorem Sj{i:Int}(h:iI w v k d6 s):aq x7 J5 [v,Δ i] w λr I=>r= .bool (decide (0<=i/\i<d6.length))/\Ext w I:=by
 refine aF func141 ?_;refine bo λg1 U x a e=>?_;obtain⟨ho,y,z,A,B,C,e,q,_⟩:=h.box a e;refine a1 (λv ab=>v= .bool (decide (0<=i/\i<d6.length))/\Ext w ab) (λ_ _ h=>h) λaA f=>?_;rw[cJ,ao];refine⟨λj=>?_,λj=>f _ _ ⟨by rw[m5];omega,a⟩⟩;rw[aO a8.p 1 e rfl,a7 av.u q,aW];refine f _ _ ⟨?_,a⟩;congr 1;exact decide_eq_decide.2 ⟨λh=>⟨j,h⟩,λh=>h.2⟩
theorem n5{m:Bool}{S R:ak}{f:bI}(h:ay.rep (α:=k0) m S R w cs (kE f)):∃aZ ho bd,cs=[aZ,ho,bd,.bool (decide (f.live≠0))]/\Seen e3 w [aZ] f.sc/\Seen e3 w [ho] f.am/\Seen e3 w [bd] f.cs:=by
 obtain⟨E,q,A,B,rfl,_,_,_,⟨r,F,aP,G,rfl,_,_,_,h1,s,x,H,y,rfl,_,_,_,a,e⟩,j⟩:=h;have one:∀{α:Type}[ay α]{m:Bool}{S R:ak}{c:List x1}{l:List α},ay.rep m S R w c l->∃v,c=[v]:=λh=>by obtain⟨v,ac,_⟩:=h;exact⟨v,ac⟩
 have h1:Seen _ w r f.sc:=h1;have a:Seen _ w s f.am:=a;have j:q=[.bool (decide (f.live≠0))]:=j;have e:ay.rep m y R w x f.cs:=e;obtain⟨z,rfl⟩:=one h1;obtain⟨C,rfl⟩:=one a;obtain⟨v3,rfl⟩:=one e;subst j;exact⟨z,C,v3,rfl,kO h1,kO a,kO e⟩
theorem Sk{j:Int}(h:iI w v k d6 s):aq x7 Lz [v,Δ j] w λr I=>r= .bool (decide (0<=j)&&eL s j.toNat)/\Ext w I:=by
 refine aF func266 ?_;refine bo λg1 U B a e=>?_;obtain⟨ho,C,E,G,H,J,e,K,_,_,_,_,y,_⟩:=h.box a e;refine a1 (λv ab=>v= .bool (decide (0<=j)&&eL s j.toNat)/\Ext w ab) (λ_ _ h=>h) λaA q=>?_;rw[cJ,ao];refine⟨λx=>?_,λx=>q _ _ ⟨by rw[m5 x];rfl,a⟩⟩;rw[aO a8.p 6 e rfl,jB fa.u y,aW,ao,u9];refine⟨λL=>?_,λM=>q _ _ ⟨by unfold eL;rw[V0 Ω,Bool.and_false],a⟩⟩;obtain⟨f,ah⟩:=aK (l:=s.d8) (i:=j.toNat) Ω;rw[aO a8.p 6 e rfl];refine lY (i:=j.toNat) Ω fa.u dI.i y (by rw[v8,ah];rfl) λb o cs z A=>?_;obtain⟨N,O,v3,rfl,_⟩:=n5 A;rw[aY dI.p rfl,aD (v:=.bool (decide (f.live≠0))) Ψ (z 3 _ rfl)];exact q _ _ ⟨by unfold eL;rw[ah,m3 x,T0],a⟩
end
theorem th{S T:Nat->Prop}(h:aj S w I)(k:aj T w I):aj (λr=>S r/\T r) w I:=
 ⟨h.size,λr o a V f=>by
  by_cases e:S r
  .exact k.bb r o a V (by grind)
  .exact h.bb r o a V e⟩
theorem ti{A R:ak}{n:aI}{s:an}{t:az}(h:bw w af ag A R n s t):∀r,A r\/R r->r<w.heap.size:=λr a=>by
 obtain⟨e,f,j,q,⟨_,_,x,y⟩,_⟩:=h.1
 grind
structure cm(w:x4)(af ag au:Nat)(A R:ak)(A9:Nat->ak)(aJ:ak)(n:aI)(s u:an)(t:az)(h:List az)(cs:List x1):Prop where
 eK:bw w af ag A R n s t
 fX:eR t h
 box:ai w au a8 cs
 doc:kc ms A9 aJ w cs n.k n.d6 u
 apart:∀q r,A9 q r->¬A r/\¬R r/\r≠au
 read:∀r,aJ r->¬eB w r/\r<w.heap.size/\r≠au
 out:¬A au/\¬R au
section
variable{w I:x4}{af ag au:Nat}{A R:ak}{A9:Nat->ak}{aJ:ak}{n:aI}{s u:an}{t:az}{h:List az}{cs:List x1}
theorem cm.W(p:cm w af ag au A R A9 aJ n s u t h cs)(J:Ext w I):cm I af ag au A R A9 aJ n s u t h cs:=
 ⟨p.eK.W J,p.fX,p.box.W J,p.doc.W J,p.apart,λr a=>⟨λh=>(p.read r a).1 (oS (λo aE V _=>J.bb r o aE V) h),by have:=(p.read r a).2.1;have:=J.size;omega,(p.read r a).2.2⟩,p.out⟩
theorem cm.prog{aP R':ak}{s':an}{bu:az}{bg:List az}(p:cm w af ag au A R A9 aJ n s u t h cs)(x:aj (eB w) w I)(f:Grow A w aP I)(C:bw I af ag aP R' n s' bu)(j:eR bu bg)(y:∀r,R' r->R r\/B<=r)(F:∀q r,A9 q r->r<w.heap.size->r<B)(J:au<B):
  cm I af ag au aP R' (λq r=>A9 q r/\r<w.heap.size) aJ n s' u bu bg cs:=by
 have G:=p.box.lt;have z:=x.size;refine⟨C,j,p.box.aa f.1 p.out.1,ck.aa p.doc.old (th x f.1) λr e h j=>?_,λq r h=>⟨λa=>?_,λe=>(y r e).elim (p.apart q r h.1).2.1 (by grind),(p.apart q r h.1).2.2⟩,λr e=>⟨λh=>?_,by have:=(p.read r e).2.1;omega,(p.read r e).2.2⟩,λa=>?_,λe=>(y au e).elim p.out.2 Ω⟩
 .rcases h with⟨q,h⟩|h
  .exact (p.apart q r h.1).1 j.2
  .exact (p.read r h).1 j.1
 .rcases f.2.1 r a with a|a
  .exact (p.apart q r h.1).1 a
  omega
 .exact (p.read r e).1 (oS (λo aE V E=>x.bb r o aE V E) h)
 .rcases f.2.1 au a with a|a
  .exact p.out.1 a
  .omega
theorem cm.Sl{S:ak}{cz:Nat->ak}{u':an}{cj:List x1}(p:cm w af ag au A R A9 aJ n s u t h cs)(f:aj S w I)(x:∀r,r<w.heap.size->S r->(∃q,A9 q r)\/r=au)(B:ai I au a8 cj)(C:kc ms cz aJ I cj n.k n.d6 u')(E:∀q r,cz q r->(∃j,A9 j r)\/(¬A r/\¬R r/\r≠au)):
  cm I af ag au A R cz aJ n s u' t h cj:=by
 have F:=p.box.lt;have z:=f.size;have G:∀q r,A9 q r->¬aJ r:=by obtain⟨_,_,_,_,_,_,_,_,_,_,_,_,_,H⟩:=p.doc;grind
 refine⟨⟨p.eK.1.aa f λr e h V=>?_,p.eK.2⟩,p.fX,B,C,λq r h=>?_,λr e=>⟨λh=>(p.read r e).1 (oS (λo aE V _=>f.bb r o aE V λa=>?_) h),by have:=(p.read r e).2.1;omega,(p.read r e).2.2⟩,p.out⟩
 .rcases x r e V with⟨q,a⟩|a
  .exact h.elim (p.apart q r a).1 (p.apart q r a).2.1
  .subst a;exact h.elim p.out.1 p.out.2
 .rcases E q r h with⟨j,a⟩|a
  .exact p.apart j r a
  .exact a
 .rcases x r (p.read r e).2.1 a with⟨q,y⟩|y
  .grind
  .exact (p.read r e).2.2 y
theorem cm.Sm{S:ak}{cz:Nat->ak}{u':an}{cj:List x1}(p:cm w af ag au A R A9 aJ n s u t h cs)(y:∀r,A r\/R r->r<B)(z:au<B)(a:aj S w I)(e:∀r,r<w.heap.size->S r->(∃q,A9 q r)\/r=au)(f:ai I au a8 cj)(j:kc ms cz aJ I cj n.k n.d6 u')(C:∀q r,cz q r->(∃x,A9 x r)\/B<=r):
  cm I af ag au A R cz aJ n s u' t h cj:=
 p.Sl a e f j (by grind)
theorem cm.Gf{S:ak}{cz:Nat->ak}{u':an}{cj:List x1}(p:cm w af ag au A R A9 aJ n s u t h cs)(a:aj S w I)(e:∀r,r<w.heap.size->S r->(∃q,A9 q r)\/r=au)(f:ai I au a8 cj)(j:kc ms cz aJ I cj n.k n.d6 u')(x:∀q r,cz q r->(∃y,A9 y r)\/w.heap.size<=r):
  cm I af ag au A R cz aJ n s u' t h cj:=p.Sm (ti p.eK) p.box.lt a e f j x
theorem cm.look(p:cm w af ag au A R A9 aJ n s u t h cs):n4 w au n.k n.d6 u:=by
 refine iI.box p.doc.zh (Ext.refl _) ?_;have:=p.box;exact this
theorem cm.qj(p:cm w af ag au A R A9 aJ n s u t h cs):∃ho a e f j q,cs=[Δ n.k,ho,Δ u.zero,a,e,f,j,q]/\aQ .i64 w ho n.d6:=by
 obtain⟨ho,a,e,f,j,q,h1,r,_⟩:=p.doc
 grind [dy]
end
end Go.Proofs.YtlcdcbgoaljiiaaGreatDoor
namespace Go.Vc
open Go Go.RowKit
section
variable{P:W5}{w:x4}{α:Type}[ay α]{S R:ak}
theorem vW{v:x1}{l:List α}{i:Nat}{a:α}(h:bS S R w [v] l)(C:l[i]?=σ a)(O:∀r,r<w.heap.size->S r->¬R r):∃g cap c F,v= .slice (σ ⟨g,0,ν⟩) l.length cap/\w.rangeAt g (i*ay.n α) c/\bS F R w c a/\(∀r,F r->S r)/\
  ∀{I:x4}{a':α}{T z:ak},aj T w I->(∀r,r<w.heap.size->T r->F r)->bS z R I c a'->(∀r,z r->F r\/w.heap.size<=r)->bS (λr=>S r\/w.heap.size<=r) R I [v] (l.set i a'):=by
 have an:=(x5.1 C).1;obtain⟨vs,g,F,ae,he,V,hm⟩:=kP h;obtain⟨P,Q,E⟩:=hm rfl;obtain⟨ao,⟨rfl,ap⟩|⟨cap,full,rfl,U,aq,au,ah,av⟩⟩:=id E
 .omega
 have W:vs.length=l.length:=he.1;have aw:S g:=P.resolve_left Ξ;obtain⟨c,G⟩:∃c,vs[i]?=σ c:=⟨_,x8 Ω⟩;have X:=he.2 i c a G C;refine⟨g,cap,c,F i,rfl,?_,X,λr s=>ae.sub i r s,λ{I a' T z}H K Y A=>?_⟩
 .obtain⟨_,ax,o',az,aA,Z,_,_,ab,_,ac⟩:=V;cases Z;cases ab Ω;intro j u ad;have aB:=ac (i*ay.n α+j) u (by rw[<-List.flatMap_id];exact pW (f:=id) (k:=ay.n α) (λx J=>he.len x J) G ad)
  grind
 have af:¬T g:=λh=>ae.top rfl i (K g U.lt h);have aC:=ay.len Y;have aD:vs.set i c=vs:=by
  refine Y5 λq=>?_
  grind
 have aE:b7 I g Q (ay.n α) (.slice (σ ⟨g,0,ν⟩) l.length cap) (l.set i a').length vs.flatten:=by
  rw[Z5];exact E.aa H λ_=>af
 refine⟨_,rfl,vs,g,λj r=>if j=i then z r else F j r/\r<w.heap.size,⟨λj r s=>?_,λ_ j s=>?_,λ_ j q r ag h1 y=>?_⟩,⟨by simp[W],λj L M al N=>?_⟩,?_,by grind⟩
 .split at s
  .exact (A r s).imp (ae.sub i r) id
  .exact .inl (ae.sub j r s.1)
 .split at s
  .rcases A g s with h|h
   .exact ae.top rfl i h
   grind [ai.lt]
  .exact ae.top rfl j s.1
 .split at h1<;>split at y
  .omega
  .rcases A r h1 with h|h
   .rename_i e _;exact ae.iw rfl i q r Ω h y.1
   omega
  .rcases A r y with h|h
   .exact ae.iw rfl j i r Ω h1.1 h
   omega
  .exact ae.iw rfl j q r ag h1.1 y.1
 .by_cases B:j=i
  .subst B
   grind
  .rw[W0 (Ne.symm B)]at N;have am:bS (λr=>if j=i then z r else F j r/\r<w.heap.size) R w L M:=ay.Y (he.2 j L M al N) (by grind) λ_ _ h=>h;refine ay.aa am H λr s h1 y=>?_;have y:=K r s y;rcases h1 with h1|h1
   .simp only[m1 B]at h1;exact ae.iw rfl j i r B h1.1 y
   .exact O r s (ae.sub i r y) h1
 grind [qS]
theorem Gg{v:x1}{l:List α}{i:Nat}{a:α}(h:bS S R w [v] l)(H:l[i]?=σ a)(O:∀r,r<w.heap.size->S r->¬R r):∃g cap full A c F,v= .slice (σ ⟨g,0,ν⟩) l.length cap/\ai w g A full/\S g/\i*ay.n α+ay.n α<=full.length/\(∀(q:Nat)x,c[q]?=σ x->full[i*ay.n α+q]?=σ x)/\bS F R w c a/\(∀r,F r->S r)/\¬F g/\
  ∀{I:x4}{a':α}{z:List x1}{T B:ak},aj T w I->(∀r,r<w.heap.size->T r->F r\/r=g)->ai I g A (over full (i*ay.n α) z)->bS B R I z a'->(∀r,B r->F r\/w.heap.size<=r)->bS (λr=>S r\/w.heap.size<=r) R I [v] (l.set i a'):=by
 have P:=(x5.1 H).1;obtain⟨vs,g,F,ae,he,V,hm⟩:=kP h;obtain⟨Q,A,U⟩:=hm rfl;obtain⟨aq,⟨rfl,au⟩|⟨cap,full,rfl,W,av,X,ah,aw⟩⟩:=id U
 .omega
 have Y:vs.length=l.length:=he.1;have Z:S g:=Q.resolve_left Ξ;obtain⟨c,K⟩:∃c,vs[i]?=σ c:=⟨_,x8 Ω⟩;have ab:=he.2 i c a K H;have ac:(i+1)*ay.n α<=l.length*ay.n α:=X6 _ P;have ax:l.length*ay.n α<=full.length:=by grind
 rw[T4,Nat.one_mul]at ac;refine⟨g,cap,full,A,c,F i,rfl,W,Z,Ω,λq x ad=>?_,ab,λr y=>ae.sub i r y,ae.top rfl i,λ{I a' z T B}af ag al am C=>?_⟩
 .have az:=pW (f:=id) (k:=ay.n α) (λx J=>he.len x J) K ad
  grind [List.flatMap_id]
 have an:=ay.len am;have aA:∀c∈vs.set i z,c.length=ay.n α:=λc E=>by
  rcases U7 E with s|rfl
  .exact he.len c s
  .exact an
 have aB:b7 I g A (ay.n α) (.slice (σ ⟨g,0,ν⟩) l.length cap) (l.set i a').length (vs.set i z).flatten:=by
  refine⟨by grind [ll,Z5],.inr ⟨cap,_,by grind,al,by grind,X,by rw[nN,ah],?_⟩⟩
  grind [x2,Ga,nP.len]
 refine⟨_,rfl,vs.set i z,g,λj r=>if j=i then B r else F j r/\r<w.heap.size,⟨λj r y=>?_,λ_ j y=>?_,λ_ j q r ao h1 s=>?_⟩,⟨by simp[Y],λj L M E N=>?_⟩,?_,by grind⟩
 .split at y
  .exact (C r y).imp (ae.sub i r) id
  .exact .inl (ae.sub j r y.1)
 .split at y
  .rcases C g y with h|h
   .exact ae.top rfl i h
   grind [ai.lt]
  .exact ae.top rfl j y.1
 .split at h1<;>split at s
  .omega
  .rcases C r h1 with h|h
   .rename_i e _;exact ae.iw rfl i q r Ω h s.1
   omega
  .rcases C r s with h|h
   .exact ae.iw rfl j i r Ω h1.1 h
   omega
  .exact ae.iw rfl j q r ao h1.1 s.1
 .by_cases G:j=i
  .subst G
   grind
  .rw[W0 (Ne.symm G)]at E N;have ap:bS (λr=>if j=i then B r else F j r/\r<w.heap.size) R w L M:=ay.Y (he.2 j L M E N) (by grind) λ_ _ h=>h;refine ay.aa ap af λr y h1 s=>?_;have s:=ag r y s;rcases h1 with h1|h1
   .simp only[m1 G]at h1;rcases s with s|rfl
    .exact ae.iw rfl j i r G h1.1 s
    .exact ae.top rfl j h1.1
   .rcases s with s|rfl
    .exact O r y (ae.sub i r s) h1
    grind
 grind [qS]
end
end Go.Vc
namespace Go.Proofs.YtlcdcbgoaljiiaaGreatDoor
open Go Go.Vc Go.RowKit Go.Proofs Go.Proofs.Tryz
set_option maxRecDepth 100000
section
variable{w0 w:x4}{af ag au ga:Nat}{A R:ak}{A9 cz:Nat->ak}{aJ:ak}{n:aI}{s u:an}{t:az}{h:List az}{cs cj:List x1}{aV aZ nh:x1}{Q:x1->x4->Prop}
theorem cm.olds(p:cm w0 af ag au A R A9 aJ n s u t h cs):cm w0 af ag au A R (λq r=>A9 q r/\r<w0.heap.size) aJ n s u t h cs:=
 ⟨p.eK,p.fX,p.box,p.doc.old,λq r a=>p.apart q r a.1,p.read,p.out⟩
end
theorem rt{α β:Type}{l:List α}{i:Nat}{a b:α}{f:α->β}(h:l[i]?=σ a)(ah:f b=f a):(l.set i b).map f=l.map f:=by
 rw[U4,ah];refine Y5 λq=>?_;rw[X8];by_cases e:i=q
 .subst e;rw[lw rfl,v8,h,lw (by rw[u9];exact(x5.1 h).1)];rfl
 .rw[m1 e]
theorem zj{T:Nat->Prop}(h:aj T w I):aj (λr=>T r/\r<w.heap.size) w I:=⟨h.size,λr o a V e=>h.bb r o a V λf=>e ⟨f,(Z6.1 a).1⟩⟩
section
variable{w0 w I:x4}{af ag au ga:Nat}{A R:ak}{A9:Nat->ak}{aJ:ak}{n:aI}{s u u':an}{t:az}{h:List az}{cs:List x1}{aV aZ nh v:x1}{Q:x1->x4->Prop}
theorem ck.sn{m:Bool}{zero:Int}{D:List (Λ)}{G:List Bool}{bc:List (Λ)}{H:List k0}{E:List qi}{i:Nat}(ac:cs[i]?=σ v)(h:ck m A9 aJ w (cs.set i v) k d6 zero D G bc H E):ck m A9 aJ w cs k d6 zero D G bc H E:=by
 have:cs.set i v=cs:=by
  refine Y5 λq=>?_;rw[X8];by_cases a:i=q
  .subst a;have:=(x5.1 ac).1;rw[lw rfl,lw this,ac]
  .rw[m1 a]
 rw[this]at h;exact h
theorem cm.row{T:ak}{cz:Nat->ak}{q:Nat}(p:cm w af ag au A R A9 aJ n s u t h cs)(a:aj T w I)(e:∀r,r<w.heap.size->T r->A9 q r)(f:kc ms cz aJ I cs n.k n.d6 u')(j:∀q r,cz q r->(∃x,A9 x r)\/w.heap.size<=r):
  cm I af ag au A R cz aJ n s u' t h cs:=
 p.Gf a (λr y h=>.inl ⟨q,e r y h⟩) (p.box.aa a λh=>(p.apart q au (e au p.box.lt h)).2.2 rfl) f j
theorem zk{q:Nat}{B:ak}(a:∀r,B r->A9 q r\/w.heap.size<=r):∀j r,kd A9 q B j r->(∃e,A9 e r)\/w.heap.size<=r:=λj r h=>by
 unfold kd at h;split at h
 .exact (a r h).imp (λh=>⟨q,h⟩) id
 .exact .inl ⟨j,h⟩
end
def iY(n:aI)(s:an)(j:Nat)(pos v o u:Int):Int:=min (ea s j (if pos=1 then[u,v]else[v,u])+bN n s o u) n.k
section
variable{w:x4}{af ag:Nat}{A R:ak}{n:aI}{s:an}{t:az}
theorem Sn{pos o:Int}{g1 E G H J:Nat}(h:bw w af ag A R n s t)(h1:ai w g1 al [Δ v])(M:ai w E al [Δ pos])(x:ai w G dx [Γ af])(N:ai w H al [Δ (j:Int)])(O:ai w J al [Δ o])(l:Λ):
  y7 w La #[Γ g1,Γ E,Γ G,Γ H,Γ J] l (iY n s j pos v o):=λI u f _=>by
 have h:=h.W f;refine aF func226 ?_;rw[aD Ψ ((h1.W f).cell rfl)];refine nR (l:=[v,u]) av.u al.i Ξ rfl Ψ λX ga U Y y P=>?_;have K:=f.F y;refine a1 (λr ab=>Ext I ab/\aQ .i64 ab r (if pos=1 then[u,v]else[v,u])) ?_ ?_
 .rintro aV ab ⟨a,Q⟩;have z:=f.F a;rw[aD Ψ ((x.W z).cell rfl),aD Ψ ((N.W z).cell rfl)];refine FT (h.W a) Q λe Z q=>?_;have B:=z.F q;rw[bx,bz,aD Ψ ((x.W B).cell rfl),aD Ψ ((O.W B).cell rfl)];refine FU (h.W (a.F q)) λaa ac C=>?_;have S:=B.F C;rw[bx,bz,aD Ψ ((x.W S).cell rfl)];refine(RR (h.W ((a.F q).F C)) (vM h.2.2.2.1) (lH h.2.2.2.1)).Y ?_;rintro _ ad _ ⟨rfl,V⟩;exact⟨rfl,((a.F q).F C).F V⟩
 intro aA L;rw[aD Ψ ((M.W K).cell rfl),bl,ao];refine⟨λae=>?_,λae=>L _ _ ⟨y,by rw[m1 ae];exact P.ls⟩⟩;rw[aD Ψ ((h1.W K).cell rfl)];refine nR (l:=[u,v]) av.u al.i Ξ rfl Ψ λah aj ab ak a W=>?_;exact L _ _ ⟨y.F a,by rw[lw ae];exact W.ls⟩
theorem Sp{pos o:Int}{f:bI}{x:bA}(h:bw w af ag A R n s t)(ad:Laid w)(ah:s.d8[j]?=σ f)(ae:0<=pos/\pos<=1)(aK:f.sc.length=2)(aE:f.sc[(1-pos).toNat]?=σ o)(J:s.d7[o.toNat]?=σ x):
  aq x7 Kr [Γ af,Δ (j:Int),Δ pos,Δ v] w λr I=>Ext w I/\r= .tuple #[Δ (cF n.k (aB x) (iY n s j pos v o)).1,Δ (cF n.k (aB x) (iY n s j pos v o)).2]:=by
 have aj:=((h.2.2.2.1.d8 f (x6 ah)).1.scope.1 o (x6 aE)).1;have aL:j<4611686018427387904:=by
  have h1:=ta h.2.1 h.2.2.1;have aM:=yY ah;have aN:=(x5.1 ah).1;have aO:j<=e6 s j:=by
   unfold e6;have:j<=((s.d8.take j).flatMap ib).length:=by
    have ak:∀(L:List bI),L.length<=(L.flatMap ib).length:=λL=>by
     induction L with
     |nil=>exact p9 _
     |cons a L aP=>rw[U2,o4,X5];have:(ib a).length=a.cs.length+1:=rfl;omega
    have am:=ak (s.d8.take j);rw[j9]at am;omega
   omega
  omega
 refine aF func166 ?_;refine bo λan U aQ ao G=>?_;refine bo λap ab aR Y H=>?_;refine bo λaS aT aU O K=>?_;refine bo λg1 P aV M Q=>?_;have Z:=((ao.F Y).F O).F M;have G:ai P an dx [Γ af]:=((G.W Y).W O).W M;have H:ai P ap al [Δ (j:Int)]:=(H.W O).W M;have K:=K.W M;have Q:=Q;refine a1 (λr S=>Ext P S/\∃e,r=Γ e/\ai S e al [Δ o]) ?_ ?_
 .rintro _ S ⟨C,e,rfl,E⟩;have N:=Z.F C;rw[aD Ψ ((G.W C).cell rfl),aD Ψ (E.cell rfl),lh];refine(FR (h.W N) (ad.W N) aj J (Sn (h.W N) (Q.W C) (K.W C) (G.W C) (H.W C) E _)).Y ?_;rintro _ aW _ ⟨au,rfl⟩;rw[bx,bz];exact⟨N.F au,rfl⟩
 intro aA aa aX q _ _;have ac:=Z.F q;rw[aD Ψ ((G.W q).cell rfl),aD Ψ ((H.W q).cell rfl),aD Ψ ((K.W q).cell rfl),c5,hx Ω Ω];refine⟨?_,?_⟩
 .refine (mm (h.W ac) ah).Y ?_;rintro r aw _ ⟨z,ax,ay,V⟩;refine⟨.inl z,?_⟩;refine mN Ω av.u al.i V.ls aE λaY co az=>?_;rw[aD Ψ az];refine bC al.i λe aC aG B E=>?_;refine⟨.inl B,.inl (z.F B),?_⟩;have z9:=((q.F z).F B).size;refine bs al.i rfl rfl E Φ λaH W aI X=>?_;have aZ:=(q.F z).size;exact aa _ _ ⟨((q.F z).F B).then W λr aJ he=>by have he:r=e:=he;omega,e,rfl,X⟩
 .refine bC al.i λe aC aG B E=>?_;refine⟨.inl B,?_⟩;refine(mm (h.W (ac.F B)) ah).Y ?_;rintro r aw _ ⟨z,ax,ay,V⟩;refine⟨.inl (B.F z),?_⟩;rw[fO (y:=1-pos) (i:=(1-pos).toNat) Ω av.u al.i Ψ V.ls aE];have a2:=q.size;refine bs al.i rfl rfl (E.W z) Φ λaH W aI X=>?_;exact aa _ _ ⟨((q.F B).F z).then W λr aJ he=>by have he:r=e:=he;omega,e,rfl,X⟩
def Sq(n:aI)(s:an)(j pos v:Int)(r:x1):Prop:=((¬∃f u x,n3 s j pos v f u x)->r= .tuple #[Δ 0,Δ (-1),Δ 1])/\∀f u x,n3 s j pos v f u x->(f.sc.length≠2->r= .tuple #[Δ 0,Δ (-1),Δ 1])/\
 (f.sc.length=2->∀o y,f.sc[(1-pos).toNat]?=σ o->s.d7[o.toNat]?=σ y->r= .tuple #[Δ (cF n.k (aB y) (iY n s j.toNat pos v o)).1,Δ (cF n.k (aB y) (iY n s j.toNat pos v o)).2,Δ 0])
theorem n3.same{j pos:Int}{f a:bI}{u u':Int}{x e:bA}(h:n3 s j pos v f u x)(k:n3 s j pos v a u' e):a=f/\u'=u/\e=x:=by
 have q:=h.ah;rw[k.ah]at q;cases q;have r:=h.hu;rw[k.hu]at r;cases r;have w:=h.J;rw[k.J]at w;cases w;exact⟨rfl,rfl,rfl⟩
theorem Sr{j pos:Int}(h:bw w af ag A R n s t)(N:Laid w):aq x7 JL [Γ af,Δ j,Δ pos,Δ v] w λr I=>Ext w I/\Sq n s j pos v r:=by
 refine aF func102 ?_;refine(RV h).Y ?_;rintro _ U _ ⟨B,e,rfl,he,E⟩;rw[bG,ao];refine⟨λa=>⟨B,λ_=>by rw[he.resolve_left a],λf u x ae=>m2 (E.2 ⟨f,u,x,ae⟩) a⟩,λO=>?_⟩;obtain⟨f,u,x,ae⟩:=E.1 (X0.1 O);have G:=mm (h.W B) ae.ah;have Y:=ae.FW;rw[show((j.toNat:Nat):Int)=j by omega]at G;refine G.Y ?_;rintro r ab _ ⟨P,Z,_,Q⟩;have q:=B.F P;rw[a7 av.u Q.ls,bG,ao];refine⟨λa=>⟨q,λ_=>rfl,λS u' V C=>⟨λ_=>rfl,λz=>?_⟩⟩,λz=>?_⟩
 .obtain⟨rfl,_⟩:=ae.same C;omega
 have z:f.sc.length=2:=Ω
 have aa:=(x5.1 ae.hu).1;have ac:=ae.eM;obtain⟨o,aE⟩:=aK (l:=f.sc) (i:=(1-pos).toNat) Ω;have H:=(h.2.2.2.1.d8 f (x6 ae.ah)).1;have ad:=h.2.2.2.1.d7;have ai:=H.d7 o (x6 aE);have aj:=(H.scope.1 o (x6 aE)).1;obtain⟨y,J⟩:=aK (l:=s.d7) (i:=o.toNat) Ω;have K:=Sp (v:=v) (h.W q) (N.W q) ae.ah ⟨ae.eM,Ω⟩ z aE J;rw[show((j.toNat:Nat):Int)=j by omega]at K;refine K.Y ?_;rintro _ ak _ ⟨W,rfl⟩;rw[bx,bz];refine⟨q.F W,λX=>m2 ⟨f,u,x,ae⟩ X,λS u' V C=>?_⟩;obtain⟨rfl,_⟩:=ae.same C;refine⟨λa=>m2 z a,λ_ o' al L M=>?_⟩;rw[aE]at L;cases L;rw[J]at M;cases M;rfl
end
theorem Ss{sv:x1}{ml:Nat}{cap:Array x1}{p:Int->Bool}(h:aQ .i64 w sv l)(ae:∀I x,Ext w I->x∈l->aq x7 ml (Δ x::cap.toList) I λr q=>r= .bool (p x)/\Ext I q):
  aq x7 xb [sv,.func (.func ml) #[] cap] w λv I=>Ext w I/\((v=Δ (-1)/\∀x∈l,p x=ne)\/∃i:Nat,v=Δ (i:Int)/\i<l.length/\(∀x∈l.take i,p x=ne)/\∀x,l[i]?=σ x->p x=ms):=by
 refine aF func136 ?_;rw[a7 av.u h];refine cb.range l.length (λi _ U=>Ext w U/\∀x∈l.take i,p x=ne) h.le ⟨Ext.refl _,Ξ⟩ ?_ ?_
 .rintro i _ U k hi ⟨a,e⟩ hk;refine bM Ω ?_;obtain⟨y,f⟩:=aK (l:=l) hi;rw[bm av.u al.i Ψ (h.W a) f];refine aq.Y (ae U y a (x6 f)) ?_;rintro _ ab _ ⟨rfl,j⟩;rw[b1];refine⟨λs=>⟨a.F j,.inr ⟨i,rfl,hi,e,λx J=>by rw[f]at J;cases J;exact s⟩⟩,λah=>?_⟩;rw[aR];refine hk _ _ ⟨a.F j,λx J=>?_⟩;rw[u7,f]at J;rcases j5.1 J with J|J
  .exact e x J
  .simp at J;subst J;exact ah
 .rintro _ U k ⟨a,e⟩;rw[o6]at e;rw[aW,ao];exact⟨λh=>Ω,λ_=>⟨a,.inl ⟨rfl,e⟩⟩⟩
theorem St{sv:x1}{g ml:Nat}{cap:Array x1}{p:Int->Bool}(h:aH .i64 e w g sv l)(aI:l.length<=100000000)(ae:∀I x,aj (λr=>hv sv r) w I->x∈l->aq x7 ml (Δ x::cap.toList) I λr Y=>r= .bool (p x)/\Ext I Y):
  aq x7 Jo [sv,.func (.func ml) #[] cap] w λv I=>aj (λr=>hv sv r) w I/\aH .i64 e I g v (l.filter λx=>!p x)/\∀r,hv v r->hv sv r:=by
 refine aF func71 ?_;refine(Ss h.ls λI x J=>ae I x (J.aa _)).Y ?_;rintro _ U _ ⟨B,⟨rfl,L⟩|⟨i,rfl,hi,L,Z⟩⟩
 .rw[bl,ao];refine⟨λ_=>⟨B.aa _,?_⟩,λh=>m2 rfl h⟩;rw[List.filter_eq_self.2 λx J=>by rw[L x J];rfl];exact⟨h.W B,λ_ h=>h⟩
 rw[bl,ao];refine⟨λh=>Ω,λ_=>?_⟩;rw[aR,hx Ω Ω];obtain⟨n,M⟩:∃n,l.length=n:=⟨_,rfl⟩;obtain⟨s,rfl⟩:∃s,sv= .slice (σ ⟨g,0,ν⟩) n s:=by
  obtain⟨_,⟨_,h1⟩|⟨s,cs,h1,_⟩⟩:=id h
  .omega
  .exact⟨s,by rw[h1,M]⟩
 obtain⟨_,_,_,_,aJ,ab,_⟩:=sQ h Ω;have R:∀r,r=g->hv (.slice (σ ⟨g,0,ν⟩) n s) r:=λr N=>⟨_,_,_,rfl,N.symm⟩;have ac:(l.take (i+1)).filter (λx=>!p x)=l.take i:=by
  obtain⟨y,z⟩:=aK (l:=l) hi;rw[u7,z,List.filter_append,List.filter_eq_self.2 λx J=>by rw[L x J];rfl];simp[Z y z]
 refine⟨λO P C=>∃(q j:Nat)(f:Λ),O=Δ (q:Int)/\P=Δ (j:Int)/\q<j/\j<=n/\aj (λr=>r=g) w C/\aH .i64 e C g (.slice (σ ⟨g,0,ν⟩) n s) f/\f.length=n/\f.take q=(l.take j).filter (λx=>!p x)/\∀k,j<=k->f[k]?=l[k]?,
  λ_ P _=>n-(bY P).toNat,⟨i,i+1,l,rfl,rfl,Ω,Ω,B.aa _,h.W B,M,ac.symm,λ_ _=>rfl⟩,?_⟩
 rintro _ _ C ⟨q,j,f,rfl,rfl,aL,aM,E,G,S,A,Q⟩;have aN:q=((l.take j).filter λx=>!p x).length:=by rw[<-A,j9];omega
 rw[je av.u,aW,ao];refine⟨λad=>?_,λaO=>?_⟩
 .have ad:j<n:=Ω
  obtain⟨y,z⟩:=aK (l:=l) (i:=j) Ω;have af:f[j]?=σ y:=by rw[Q j (p9 _),z]
  refine a1 (λO H=>∃(q:Nat)(f:Λ),O=Δ (q:Int)/\q<j+1/\aj (λr=>r=g) w H/\aH .i64 e H g (.slice (σ ⟨g,0,ν⟩) n s) f/\f.length=n/\f.take q=(l.take (j+1)).filter (λx=>!p x)/\∀k,j+1<=k->f[k]?=l[k]?) ?_ ?_
  .rintro _ H ⟨q,f,rfl,h1,ag,ai,ak,am,an⟩;rw[aR,hx Ω Ω];exact⟨⟨q,j+1,f,rfl,rfl,h1,Ω,ag,ai,ak,am,an⟩,by simp only[bY];omega⟩
  intro aA V;rw[bm av.u al.i Ψ G.ls af];refine aq.Y (ae C y (E.Y λr _=>R r) (x6 z)) ?_;rintro _ H _ ⟨rfl,K⟩;have W:(l.take (j+1)).filter (λx=>!p x)=(l.take j).filter (λx=>!p x)++[y].filter (λx=>!p x):=by rw[u7,z,List.filter_append];rfl
  rw[bE,b1];refine⟨λap=>?_,λah=>?_⟩
  .have X:=G.W K;rw[jV rfl av.u al.i X Ω];refine jW al.i X Ω λaP au aQ aw=>?_;rw[aR,hx Ω Ω];refine V _ _ ⟨q+1,_,rfl,Ω,(E.F (K.aa _)).F au,aw,by simpa using S,?_,λk hk=>?_⟩
   .rw[W,u7,Y2 Ω,List.take_set_of_le (p9 _),A];simp only[o8];rw[show[y].filter (λx=>!p x)=[y] by simpa using ap]
   .rw[W0 Ω];exact Q k Ω
  .refine V _ _ ⟨q,f,rfl,Ω,E.F (K.aa _),G.W K,S,?_,λk hk=>Q k Ω⟩;rw[W,show[y].filter (λx=>!p x)=[] by simpa using ah,V2];exact A
 .have ax:j=n:=Ω
  subst ax;rw[<-M,o6]at A;obtain⟨_,_,cs,ay,_,_,aS,az⟩:=sQ G Ω;simp only[maxLen]at ab;rw[gW av.u al.i pB kp fc Ω Ω Ω,m1 Ω];have aB:V9 (λx:Addr=>x.add (q*1)) (σ ⟨g,0,ν⟩)=σ ⟨g,q,ν⟩:=by simp[U6]
  rw[aB];refine Cj av.u al.i rfl rfl ay Ω Ω λaT aC aU aD=>?_;rw[gW av.u al.i ko pE fc Ω Ω Ω,m1 Ω];have aE:V9 (λx:Addr=>x.add (0*1)) (σ ⟨g,0,ν⟩)=σ ⟨g,0,ν⟩:=by simp[U6]
  rw[aE];refine⟨(E.F aC).Y λr _=>R r,?_⟩;have aV:(l.filter λx=>!p x).length=q:=by rw[<-A,j9];omega
  rw[<-A,Nat.sub_zero];refine⟨?_,λr N=>by obtain⟨a,_,_,e,aG⟩:=N;cases e;exact⟨_,_,_,rfl,aG⟩⟩;refine aH.of (n:=q) ⟨Θ,.inr ⟨s,_,Ξ,aD,Ω,by simp only[maxLen];omega,by rw[nN];omega,?_⟩⟩;rw[T1];apply Y5;intro k;by_cases hk:k<q
  .rw[W3 hk,qQ _ _ _ Θ,m1 Ω,ints,v8,W3 hk];have:(cs.take j)[k]?=(ints .i64 f)[k]?:=by rw[az]
   rw[W3 Ω,ints,v8]at this;exact this
  .rw[V0 Θ,V0 Θ]
theorem Gh{full c:List x1}{o q:Nat}{x:x1}(f:∀(k:Nat)y,c[k]?=σ y->full[o+k]?=σ y)(h:o+c.length<=full.length)(j:q<c.length):full.set (o+q) x=over full o (c.set q x):=by
 refine Y5 λk=>?_;rw[qQ _ _ _ (by rw[Z5];exact h),X8,Z5];by_cases h1:o<=k/\k<o+c.length
 .rw[lw h1,X8];by_cases a:o+q=k
  .rw[lw a,lw Ω,lw Ω,lw Ω]
  .rw[m1 a,m1 Ω];have e:k-o<c.length:=Ω
   have:=f (k-o) c[k-o] (x8 e);rw[x8 e,<-this];congr 1;omega
 .rw[m1 h1,m1 Ω]
section
variable{w0 w I:x4}{af ag au ga:Nat}{A R:ak}{A9:Nat->ak}{aJ:ak}{n:aI}{s u u':an}{t:az}{h:List az}{cs:List x1}{aV aZ nh v:x1}{Q:x1->x4->Prop}
theorem cm.iw(p:cm w af ag au A R A9 aJ n s u t h cs):(∀i j r,i≠j->A9 i r->¬A9 j r)/\∀i r,A9 i r->¬aJ r:=by
 obtain⟨_,_,_,_,_,_,_,_,_,_,_,_,_,a⟩:=p.doc;exact a rfl
theorem cm.Su{T:ak}(p:cm w af ag au A R A9 aJ n s u t h cs)(y:∀q r,A9 q r->r<w.heap.size)(ac:cs[6]?=σ v)(e:aj T w I)(f:∀r,r<w.heap.size->T r->A9 3 r)(z:bS (λr=>A9 3 r\/w.heap.size<=r) aJ I [v] (u'.d8.map kE))(C:u'.zero=u.zero)(E:u'.d7=u.d7)(F:u'.di=u.di):∃cz,cm I af ag au A R cz aJ n s u' t h cs/\∀q r,cz q r->(∃G,A9 G r)\/w.heap.size<=r:=by
 have H:=ck.mj p.doc (zj e) (λr a=>.inl (f r a.2 a.1)) z (λj r J a=>?_) (λr a=>?_)
 .have x:=zk (w:=w) (A9:=A9) (q:=3) (B:=λr=>A9 3 r\/w.heap.size<=r) λr h=>h;refine⟨_,p.row e f ?_ x,x⟩;have:=ck.sn ac H;unfold kc;rw[C,E,F];exact this
 .rcases a with a|a
  .exact p.iw.1 3 j r (Ne.symm J) a
  .exact λh=>by have:=y j r h;omega
 .rcases a with a|a
  .exact p.iw.2 3 r a
  .exact λh=>by have:=(p.read r h).2.1;omega
end
theorem Sv{m:Int}{w:Int}(ac:0<=v)(hw:0<=w):dropped (((m.toNat ||| 2 ^ v.toNat:Nat):Int)) w=(dropped m w||decide (w=v)):=by
 unfold dropped;rw[u5,Nat.testBit_or,Nat.testBit_two_pow];congr 1;exact decide_eq_decide.2 ⟨λh=>Ω,λh=>Ω⟩
theorem zl{x:bA}(ac:0<=v):aB {x with mask:=((x.mask.toNat ||| 2 ^ v.toNat:Nat):Int)}=(aB x).filter λy=>!decide (y=v):=by
 unfold aB;rw[List.filter_filter];refine List.filter_congr λy a=>?_;obtain⟨q,_,rfl⟩:=o9.1 a;rw[Sv ac Ω];cases dropped x.mask (q:Int)<;>simp
section
variable{w0 w I:x4}{af ag au ga:Nat}{A R:ak}{A9:Nat->ak}{aJ:ak}{n:aI}{s u u':an}{t:az}{h:List az}{cs:List x1}{aV aZ nh v:x1}{Q:x1->x4->Prop}
theorem cm.qk{T:ak}(p:cm w af ag au A R A9 aJ n s u t h cs)(z:∀q r,A9 q r->r<w.heap.size)(ac:cs[3]?=σ v)(e:aj T w I)(f:∀r,r<w.heap.size->T r->A9 0 r)(C:bS (λr=>A9 0 r\/w.heap.size<=r) aJ I [v] (u'.d7.map aB))(E:u'.zero=u.zero)(F:u'.d7.map (·.un)=u.d7.map (·.un))(G:(u'.d7.map λx=>decide (x.gone≠0))=u.d7.map λx=>decide (x.gone≠0))(H:u'.d8=u.d8)(J:u'.di=u.di):
  ∃cz,cm I af ag au A R cz aJ n s u' t h cs/\∀q r,cz q r->(∃K,A9 K r)\/w.heap.size<=r:=by
 have L:=ck.Gd p.doc (zj e) (λr a=>.inl (f r a.2 a.1)) C (λj r M a=>?_) (λr a=>?_)
 .have y:=zk (w:=w) (B:=λr=>A9 0 r\/w.heap.size<=r) λr h=>h;refine⟨_,p.row e f ?_ y,y⟩;have:=ck.sn ac L;unfold kc;rw[E,F,G,H,J];exact this
 .rcases a with a|a
  .exact p.iw.1 0 j r (Ne.symm M) a
  .exact λh=>by have:=z j r h;omega
 .rcases a with a|a
  .exact p.iw.2 0 r a
  .exact λh=>by have:=(p.read r h).2.1;omega
end
section
variable{w0 w I:x4}{af ag au ga:Nat}{A R:ak}{A9:Nat->ak}{aJ:ak}{n:aI}{s u u':an}{t:az}{h:List az}{cs:List x1}{aV aZ nh v:x1}{Q:x1->x4->Prop}
theorem Sw{F:ak}{c:List x1}{f:bI}(h:bS (α:=k0) F R w c (kE f))(C:∀r,F r->¬R r):∃aZ ho bd e,c=[aZ,ho,bd,.bool (decide (f.live≠0))]/\bS e R w [bd] f.cs/\(∀r,e r->F r)/\
  ∀{I:x4}{cj:Λ},aj e w I->bS e R I [bd] cj->bS (α:=k0) F R I c (kE {f with cs:=cj}):=by
 obtain⟨ab,ac,A,B,rfl,E,O,P,h1,q⟩:=h;obtain⟨Q,ad,aP,S,rfl,T,G,H,J,U⟩:=h1;obtain⟨V,W,X,s,rfl,Y,x,K,L,M⟩:=U;have q:=q;subst q;obtain⟨y,rfl⟩:=W6.1 (show Q.length=1 from ay.len J);obtain⟨j,rfl⟩:=W6.1 (show V.length=1 from ay.len L);obtain⟨v3,rfl⟩:=W6.1 (show W.length=1 from ay.len M);have z:∀r,s r->F r:=λr h=>E r (G r (x r h));refine⟨y,j,v3,s,rfl,M,z,λ{I cj}N aE=>?_⟩;refine⟨[y,j,v3],[.bool (decide (f.live≠0))],A,B,rfl,E,O,P,⟨[y],[j,v3],aP,S,rfl,T,G,H,ay.aa J N λr Z a he=>?_,[j],[v3],X,s,rfl,Y,x,K,ay.aa L N λr Z a he=>?_,aE⟩,rfl⟩
 .exact a.elim (λa=>H rfl r a (x r he)) (C r (z r he))
 .exact a.elim (λa=>K rfl r a he) (C r (z r he))
end
theorem b2.d7{s:an}{i:Nat}{x y:bA}(h:b2 s)(J:s.d7[i]?=σ x)(q:y.gone=x.gone):b2 {s with d7:=s.d7.set i y}:=λf ah j v ac z a=>by
 have a:(s.d7.set i y)[v.toNat]?=σ z:=a;rw[X8]at a;split at a
 .rename_i e;split at a
  .cases a;subst e;rw[q];exact h f ah j v ac x J
  .cases a
 .exact h f ah j v ac z a
theorem b2.d8{s:an}{f g:bI}(h:b2 s)(ah:s.d8[j]?=σ f)(V:g.sc=f.sc)(q:g.live≠0->f.live≠0):b2 {s with d8:=s.d8.set j g}:=λx J a v ac z e=>by
 rcases U7 J with J|rfl
 .exact h x J a v ac z e
 .exact h f (x6 ah) (q a) v (by grind) z e
structure fF where
 kind:Nat
 i:Int
 pos:Int
 v:Int
 c:Int
def dF(s:an)(i v:Int):Option bA:=if 0<=i then match s.d7[i.toNat]? with
 |some x=>if x.gone=0/\v∈aB x then σ x else ν
 |none=>ν else ν
def du(s:an)(j pos v:Int):Option (bI×Int×bA):=if 0<=j/\0<=pos then match s.d8[j.toNat]? with
 |some f=>if f.live≠0 then match f.sc[pos.toNat]? with
  |some u=>(dF s u v).map λx=>(f,u,x)
  |none=>ν
  else ν
 |none=>ν else ν
def eN(k:Int)(s:an)(f:bI)(pos:Nat)(v:Int):Int:=((bV s f.sc pos v).map (bt f.am f.cs)).foldl min k
def dG(k c most:Int):Int:=if¬(0<=c/\c<=k)then 3 else if most<c then 7 else 0
def jt(x:bA):Int:=match(aB x).map λv=>x.un.getD v.toNat 0 with
 |[]=>-1
 |c::l=>l.foldl min c
def ii(s:an)(i:Nat)(v:Int):Λ->an
 |[]=>s
 |w::L=>ii (if w≠v then dZ s i w.toNat else s) i v L
def bi(k:Int)(s:an)(a:fF):an×Int:=
 if a.kind=0 then match du s a.i a.pos a.v with
  |none=>(s,1)
  |some (f,u,x)=>if dG k a.c (eN k s f a.pos.toNat a.v)≠0 then(s,dG k a.c (eN k s f a.pos.toNat a.v))else(fy s a.i.toNat f a.pos.toNat u.toNat x a.v (λg=>cG k g a.c) λg=>b4 k g a.c,0)
 else if a.kind=1 then match du s a.i a.pos a.v with
  |none=>(s,1)
  |some (f,u,x)=>if dG k a.c (x.un.getD a.v.toNat 0)≠0 then(s,dG k a.c (x.un.getD a.v.toNat 0))else(fy s a.i.toNat f a.pos.toNat u.toNat x a.v (λg=>b4 k g a.c) λg=>cG k g a.c,0)
 else if a.kind=2 then match(if 0<=a.i then s.d7[a.i.toNat]? else ν)with
  |none=>(s,1)
  |some x=>if x.gone≠0 then(s,1)else if dG k a.c (jt x)≠0 then(s,dG k a.c (jt x))else(iX s a.i.toNat x (λg=>cG k g a.c) λg=>b4 k g a.c,0)
 else if a.kind=3 then match(if 0<=a.i then s.d7[a.i.toNat]? else ν)with
  |none=>(s,1)
  |some x=>if x.gone≠0 then(s,1)else if dG k a.c (if aB x=[]then-1 else s.zero)≠0 then(s,dG k a.c (if aB x=[]then-1 else s.zero))else(iX s a.i.toNat x (λg=>b4 k g a.c) λg=>cG k g a.c,0)
 else if a.kind=4 then match dF s a.i a.v with
  |none=>(s,1)
  |some x=>if b4 k s.zero (x.un.getD a.v.toNat 0)<k then(s,7)else(dZ s a.i.toNat a.v.toNat,0)
 else match dF s a.i a.v with
  |none=>(s,1)
  |some x=>(ii s a.i.toNat a.v (aB x),0)
theorem ql:∀(l:Λ)(z c:Int),c<=l.foldl min z↔c<=z/\∀x∈l,c<=x
 :=by
 intro a;induction a<;>grind
theorem ni{most:Int}(h:¬dG k c most≠0):(0<=c/\c<=k)/\c<=most:=by
 grind [dG]
theorem ke{s:an}{i:Int}{x:bA}(h:dF s i v=σ x):0<=i/\s.d7[i.toNat]?=σ x/\x.gone=0/\v∈aB x:=by
 grind [dF]
theorem nj{s:an}{j pos u:Int}{f:bI}{x:bA}(h:du s j pos v=σ (f,u,x)):0<=j/\0<=pos/\s.d8[j.toNat]?=σ f/\f.live≠0/\f.sc[pos.toNat]?=σ u/\dF s u v=σ x:=by
 unfold du at h;split at h
 .rename_i a;split at h
  .rename_i g e;split at h
   .rename_i q;split at h
    .rename_i w hw;cases ac:dF s w v<;>grind
    .cases h
   .cases h
  .cases h
 .cases h
section
variable{k:Int}{d6 a:Λ}{s:an}
theorem o0{g:Int}(a:0<=g/\g<=k)(e:0<=c/\c<=g):0<=cG k g c/\cG k g c<=k:=by
 grind [cG]
theorem o1{g:Int}(a:0<=g/\g<=k)(e:0<=c):0<=b4 k g c/\b4 k g c<=k:=by
 grind [b4]
theorem ij{u:Nat}{v:Nat}{x:bA}(a:ba k d6 s)(J:s.d7[u]?=σ x):0<=x.un.getD v 0/\x.un.getD v 0<=k:=by
 have hk:=a.eA;have e:=(x5.1 J).1;have f:=a.d7;exact FY Ω (a.var u x _ J (x8 Ω)).2.1
theorem nk{f:bI}(a:ba k d6 s)(ah:f∈s.d8):0<=bt f.am f.cs t/\bt f.am f.cs t<=k:=(vq a.eA λc e=>⟨a.eA,(a.d8 f ah).1.jI c e⟩).2
theorem zn{x:bA}(h:v∈aB x)(a:c<=jt x):c<=x.un.getD v.toNat 0:=by
 unfold jt at a;have hm:x.un.getD v.toNat 0∈(aB x).map λv=>x.un.getD v.toNat 0:=by grind
 grind [ql]
theorem tj{i:Nat}{v:Int}{x:bA}:∀(L:Λ)(s:an),ba k d6 s->s.d7[i]?=σ x->(∀w∈L,0<=w/\w<x.un.length)->ba k d6 (ii s i v L)/\(b2 s->b2 (ii s i v L))/\
  ∀bD,ka s a->x.gone=0->a[i]?=σ bD->fE k (ii s i v L) a=if bD∈L/\bD≠v then k else fE k s a
 |[],s,h,J,_=>⟨h,id,λbD _ _ _=>by rw[m1 Ξ];rfl⟩
 |w::L,s,h,J,A=>by
  unfold ii;by_cases hw:w≠v
  .rw[lw hw];have B:=A w (.head _);have C:=zg h J B;have E:=(x5.1 J).1;have F:(dZ s i w.toNat).d7[i]?=σ {x with mask:=((x.mask.toNat ||| 2 ^ w.toNat:Nat):Int)}:=by grind [kZ]
   obtain⟨h1,r,G⟩:=tj L (dZ s i w.toNat) C F (by grind);refine⟨h1,λK=>r ?_,λbD j H I=>?_⟩
   .grind [kZ,b2.d7]
   .have M:ka (dZ s i w.toNat) a:=by
     rw[kZ J];refine⟨by show a.length=(s.d7.set _ _).length;rw[Z5];exact j.1,λq y b f z=>?_⟩;have f:(s.d7.set i {x with mask:=((x.mask.toNat ||| 2 ^ w.toNat:Nat):Int)})[q]?=σ y:=f;by_cases e:i=q
     .subst e;rw[Y2 E]at f;cases f;exact j.2 i x b J z
     .rw[W0 e]at f;exact j.2 q y b f z
    grind [F9]
  .rw[m1 hw];obtain⟨h1,r,G⟩:=tj L s h J (by grind);refine⟨h1,r,λbD j H I=>?_⟩
   grind
theorem b2.zero(h:b2 s):b2 {s with zero:=c}:=h
theorem Gi{u:Nat}{f:bI}{x:bA}{tup un:Int->Int}(h:b2 s)(ah:s.d8[j]?=σ f)(J:s.d7[u]?=σ x):b2 (fy s j f pos u x v tup un):=
 b2.d7 (b2.d8 h ah rfl id) J rfl
theorem Gj{u:Nat}{x:bA}{g z:Int->Int}(h:b2 s)(J:s.d7[u]?=σ x):b2 (iX s u x g z):=b2.zero (b2.d7 h J rfl)
def n7(k:Int)(s:an)(m:fF)(s':an)(e:Int)(a:Λ):Prop:=fE k s' a=if 5<=m.kind/\e=0/\a[m.i.toNat]? ≠σ m.v then k else fE k s a
theorem vX{m:fF}(h:ba k d6 s)(B:b2 s):ba k d6 (bi k s m).1/\b2 (bi k s m).1/\∀a,ka s a->n7 k s m (bi k s m).1 (bi k s m).2 a:=by
 have hk:=h.eA;have Z:∀e:Int,e≠0->ba k d6 s/\b2 s/\∀a,ka s a->n7 k s m s e a:=by grind [n7]
 have low:∀{s':an}{e:Int},m.kind<5->ba k d6 s'->b2 s'->(∀a,ka s a->fE k s' a=fE k s a)->ba k d6 s'/\b2 s'/\∀a,ka s a->n7 k s m s' e a:=by grind [n7]
 unfold bi;split
 .rename_i K;cases ae:du s m.i m.pos m.v with
  |none=>grind
  |some q=>
   obtain⟨f,u,x⟩:=q;simp only;split
   .grind
   .rename_i he;obtain⟨y,hm⟩:=ni he;simp only;obtain⟨_,_,ah,E,hu,ac⟩:=nj ae;obtain⟨T,J,z,L⟩:=ke ac;have C:=x6 ah;have aa:∀t∈bV s f.sc m.pos.toNat m.v,m.c<=bt f.am f.cs t:=λt A=>((ql _ _ _).1 hm).2 _ (by grind);have M:f.sc[m.pos.toNat]?=σ ((u.toNat:Nat):Int):=by grind
    have A:∀t∈bV s f.sc m.pos.toNat m.v,0<=cG k (bt f.am f.cs t) m.c/\cG k (bt f.am f.cs t) m.c<=k:=λt A=>o0 (nk h C) (by grind);have N:=o1 (k:=k) (ij (v:=m.v.toNat) h J) y.1;refine low Ω (by grind [F5]) (Gi B ah J) λa j=>F6 h j ah E M J L (B f C E) A N λt A r F=>?_;have:=nk (t:=t) h C
    grind [vN,ij]
 split
 .rename_i _ K;cases ae:du s m.i m.pos m.v with
  |none=>grind
  |some q=>
   obtain⟨f,u,x⟩:=q;simp only;split
   .grind
   .rename_i he;obtain⟨y,hm⟩:=ni he;simp only;obtain⟨_,_,ah,E,hu,ac⟩:=nj ae;obtain⟨T,J,z,L⟩:=ke ac;have C:=x6 ah;have M:f.sc[m.pos.toNat]?=σ ((u.toNat:Nat):Int):=by grind
    have A:∀t∈bV s f.sc m.pos.toNat m.v,0<=b4 k (bt f.am f.cs t) m.c/\b4 k (bt f.am f.cs t) m.c<=k:=λt A=>o1 (nk h C) y.1;have N:=o0 (k:=k) (ij (v:=m.v.toNat) h J) ⟨y.1,hm⟩;refine low Ω (by grind [F5]) (Gi B ah J) λa j=>F6 h j ah E M J L (B f C E) A N λt A r F=>?_;have h1:=nk (t:=t) h C;have P:=ij (v:=m.v.toNat) h J
    grind [vN]
 split
 .rename_i _ _ K;cases ae:(if 0<=m.i then s.d7[m.i.toNat]? else ν)with
  |none=>grind
  |some x=>
   have J:s.d7[m.i.toNat]?=σ x:=by grind
   simp only;split
   .grind
   split
   .grind
   .rename_i z he;obtain⟨y,hm⟩:=ni he;simp only;have U:∀v∈aB x,m.c<=x.un.getD v.toNat 0:=λv ac=>zn ac hm;have G:∀v∈aB x,0<=cG k (x.un.getD v.toNat 0) m.c/\cG k (x.un.getD v.toNat 0) m.c<=k:=λv ac=>o0 (ij h J) (by grind);have H:=o1 h.zero y.1;refine low Ω (ze h J G H) (Gj B J) λa j=>F8 h j J (X0.1 z) G H λv ac r F=>?_;exact vN F ⟨U v ac,(ij h J).2⟩ h.zero y.1
 split
 .rename_i _ _ _ K;cases ae:(if 0<=m.i then s.d7[m.i.toNat]? else ν)with
  |none=>grind
  |some x=>
   have J:s.d7[m.i.toNat]?=σ x:=by grind
   simp only;obtain⟨Q,V⟩:∃Q,Q=(if aB x=[]then-1 else s.zero):=⟨_,rfl⟩;rw[<-V];split
   .grind
   split
   .grind
   .rename_i z he;obtain⟨y,hm⟩:=ni he;simp only;have R:m.c<=s.zero:=by
     omega
    have G:∀v∈aB x,0<=b4 k (x.un.getD v.toNat 0) m.c/\b4 k (x.un.getD v.toNat 0) m.c<=k:=λv ac=>o1 (ij h J) y.1;have H:=o0 h.zero ⟨y.1,R⟩;refine low Ω (ze h J G H) (Gj B J) λa j=>F8 h j J (X0.1 z) G H λv ac r F=>?_;have:=vN F ⟨R,h.zero.2⟩ (ij (v:=v.toNat) h J) y.1;omega
 split
 .rename_i _ _ _ _ K;cases ae:dF s m.i m.v with
  |none=>grind
  |some x=>
   obtain⟨_,J,z,ac⟩:=ke ae;simp only;split
   .grind
   .rename_i he;have S:=(e1.1 ac).1;simp only;refine low Ω (zg h J S) (by grind [kZ,b2.d7]) λa j=>?_;have W:=(x5.1 J).1;have X:=j.1;obtain⟨bD,I⟩:=aK (l:=a) (i:=m.i.toNat) Ω;rw[F9 h j J z S I];split
    .rename_i e;subst e;rw[qg h];split
     .have Y:(s.d7.zip a)[m.i.toNat]?=σ (x,m.v):=List.getElem?_zip_eq_some.2 ⟨J,I⟩;have h1:=tf (vO h) (x:=eb (x,m.v)) (by rw[v8,Y];rfl);have P:=te _ (tg (a:=a) h)
      grind [eb,b4]
     .rfl
    .rfl
 .rename_i h1 P ab ad af;cases ae:dF s m.i m.v with
  |none=>grind
  |some x=>
   obtain⟨_,J,z,ac⟩:=ke ae;simp only;have O:∀w∈aB x,0<=w/\w<x.un.length:=by grind [e1]
   refine⟨(tj (a:=[]) (aB x) s h J O).1,(tj (a:=[]) (aB x) s h J O).2.1 B,λa j=>?_⟩;have W:=(x5.1 J).1;have X:=j.1;obtain⟨bD,I⟩:=aK (l:=a) (i:=m.i.toNat) Ω;unfold n7;rw[(tj (aB x) s h J O).2.2 bD j z I,I]
   grind [R9]
end
theorem Sx{f:Int->Int}{L:List (Λ)}{cs:Λ}(V:dN am)(j:cs.length<=(bq am).length)(h:∀t∈L,f (bt am cs t)=bt am cs t):eo f L am cs=cs:=by
 apply Y5;intro i;cases a:cs[i]? with
 |none=>
  grind [rq]
 |some c=>
  obtain⟨t,e⟩:=aK (l:=bq am) (i:=i) (by grind);rw[rr e a]
  grind [bt,kt]
section
variable{k:Int}{d6:Λ}{s:an}
theorem Gk{i:Int}{u:Nat}{x y:bA}{s':an}(J:s.d7[u]?=σ x)(ac:s'.d7=s.d7.set u y)(a:aB y=aB x):aT s' i=aT s i:=by
 grind [aT]
theorem Gl{x:bA}{un:Λ}(h:un.length=x.un.length):aB {x with un:=un}=aB x:=by
 grind [aB]
theorem zo{u:Nat}{f:bI}{x:bA}{tup un:Int->Int}(J:s.d7[u]?=σ x):∀i,aT (fy s j f pos u x v tup un) i=aT s i:=λi=>
 Gk J rfl (by grind [Gl])
theorem zp{a:fF}{f:bI}{u:Int}{x:bA}(ae:du s a.i a.pos a.v=σ (f,u,x)):
  (a.kind=0->(bi k s a).2=0->bi k s a=(fy s a.i.toNat f a.pos.toNat u.toNat x a.v (λg=>cG k g a.c) λg=>b4 k g a.c,0)/\(0<=a.c/\a.c<=k)/\a.c<=eN k s f a.pos.toNat a.v)/\
  (a.kind=0->(0<=a.c/\a.c<=k)->a.c<=eN k s f a.pos.toNat a.v->bi k s a=(fy s a.i.toNat f a.pos.toNat u.toNat x a.v (λg=>cG k g a.c) λg=>b4 k g a.c,0))/\
  (a.kind=1->(bi k s a).2=0->bi k s a=(fy s a.i.toNat f a.pos.toNat u.toNat x a.v (λg=>b4 k g a.c) λg=>cG k g a.c,0)/\(0<=a.c/\a.c<=k)/\a.c<=x.un.getD a.v.toNat 0)/\
  (a.kind=1->(0<=a.c/\a.c<=k)->a.c<=x.un.getD a.v.toNat 0->bi k s a=(fy s a.i.toNat f a.pos.toNat u.toNat x a.v (λg=>b4 k g a.c) λg=>cG k g a.c,0)):=by
 have j:∀{m:Int},(0<=a.c/\a.c<=k)->a.c<=m->dG k a.c m=0:=by grind [dG]
 refine⟨λe he=>?_,λe h1 h=>?_,λe he=>?_,λe h1 h=>?_⟩
 all_goals have:=@ni;grind [bi]
end
section
variable{k:Int}{d6:Λ}{s:an}
theorem o2{f:bI}(a:ba k d6 s)(ah:f∈s.d8)(ac:∀u,f.sc[pos]?=σ u->v∈aT s u)(h:t∈bV s f.sc pos v):∃m:Nat,ct f.am t 0=σ (m:Int):=by
 obtain⟨e,j,_⟩:=a.d8 f ah;obtain⟨q,_⟩:=kD a ah;rw[za a (λu hu=>⟨(e.scope.1 u hu).1,e.d7 u hu⟩) ac,<-j]at h
 grind [Y4,kt]
theorem room_le{f:bI}:c<=eN k s f pos v↔c<=k/\∀t∈bV s f.sc pos v,c<=bt f.am f.cs t:=by
 grind [eN,ql]
end
theorem Sy{x:bA}(f:aB x≠[])(h:∀v∈aB x,c<=x.un.getD v.toNat 0):c<=jt x:=by
 unfold jt;have a:∀y∈(aB x).map λv=>x.un.getD v.toNat 0,c<=y:=by grind
 have e:(aB x).map (λv=>x.un.getD v.toNat 0)≠[]:=by grind [List.map_eq_nil_iff]
 generalize (aB x).map (λv=>x.un.getD v.toNat 0)=l at a e;cases l with
 |nil=>grind
 |cons b l=>exact(ql l b c).2 ⟨a b (.head _),by grind⟩
section
variable{k:Int}{d6:Λ}{s:an}
theorem Gm{x:bA}{g:Int->Int}{L:Λ}:aB {x with un:=eD g x.un L}=aB x:=Gl (vR _ _)
theorem Sz{a:fF}{x:bA}(f:0<=a.i)(J:s.d7[a.i.toNat]?=σ x)(h:x.gone=0):
  (a.kind=2->(bi k s a).2=0->bi k s a=(iX s a.i.toNat x (λg=>cG k g a.c) λg=>b4 k g a.c,0)/\(0<=a.c/\a.c<=k)/\a.c<=jt x)/\
  (a.kind=2->(0<=a.c/\a.c<=k)->a.c<=jt x->bi k s a=(iX s a.i.toNat x (λg=>cG k g a.c) λg=>b4 k g a.c,0))/\
  (a.kind=3->(bi k s a).2=0->bi k s a=(iX s a.i.toNat x (λg=>b4 k g a.c) λg=>cG k g a.c,0)/\(0<=a.c/\a.c<=k)/\a.c<=(if aB x=[]then-1 else s.zero))/\
  (a.kind=3->(0<=a.c/\a.c<=k)->a.c<=(if aB x=[]then-1 else s.zero)->bi k s a=(iX s a.i.toNat x (λg=>b4 k g a.c) λg=>cG k g a.c,0)):=by
 have j:∀{m:Int},(0<=a.c/\a.c<=k)->a.c<=m->dG k a.c m=0:=by grind [dG]
 generalize q:(if aB x=[]then-1 else s.zero)=r;have ae:(if 0<=a.i then s.d7[a.i.toNat]? else ν)=σ x:=by grind
 refine⟨λhk he=>?_,λhk h1 e=>?_,λhk he=>?_,λhk h1 e=>?_⟩
 all_goals have:=@ni;grind [bi]
end
section
variable{k:Int}{d6:Λ}{s:an}
theorem SA{m:fF}(h:(bi k s m).2≠0):(bi k s m).1=s:=by
 grind [bi]
end
theorem tk{of:Int->Int}(hk:0<=k)(h:∀v∈l,0<=of v/\of v<=k):0<=(cF k l of).1/\(cF k l of).1<=k:=by
 unfold cF;have:∀(l:Λ)(p:Int×Int),(0<=p.1/\p.1<=k)->(∀v∈l,0<=of v/\of v<=k)->0<=(l.foldl (fh of) p).1/\(l.foldl (fh of) p).1<=k:=λl=>by
  induction l with
  |nil=>exact λp ae _=>ae
  |cons v l e=>
   intro p ae a;refine e _ ?_ λu hu=>a u (.tail _ hu);unfold fh;split
   .exact a v (.head _)
   .exact ae
 exact this l (k,-1) ⟨hk,S8 _⟩ h
theorem zq{n:aI}{s:an}{pos o u:Int}(a:ba n.k n.d6 s):0<=iY n s j pos v o u/\iY n s j pos v o u<=n.k:=by
 have h1:=vM (j:=j) (tl:=if pos=1 then[u,v]else[v,u]) a;have e:=lH (i:=o) (v:=u) a;have hk:=a.eA;unfold iY;omega
section
variable{w:x4}{af ag:Nat}{A R:ak}{n:aI}{s:an}{t:az}
end
def simpStep(of:Λ->Int)(p:Int×Option (Λ))(tl:Λ):Int×Option (Λ):=if p.2=ν\/of tl<p.1 then(of tl,σ tl)else p
def gb(k:Int)(of:Λ->Int)(l:List (Λ)):Int×Option (Λ):=l.foldl (simpStep of) (k,ν)
section
variable{w:x4}{af ag:Nat}{A R:ak}{n:aI}{s:an}{t:az}
end
def dV(n:aI)(s:an)(i:Int):Int×Int:=cF n.k (aT s i) (bN n s i)
def lI(n:aI)(s:an)(j:Nat)(f:bI)(p:Nat)(v:Int):Int×Option (Λ):=gb n.k (ea s j) (qe s f.sc p f.sc.length 0 ((r9 f.sc.length 0).set p v))
def o3(n:aI)(s:an)(j:Nat)(f:bI)(v:Int):Int×Int:=cF n.k (aT s (f.sc.getD 1 0)) (iY n s j 0 v (f.sc.getD 1 0))
theorem SB{s:an}{i:Int}(a:ba k d6 s):(aT s i).length<=32:=by
 unfold aT;split
 .rename_i x J;have f:=(x5.1 J).1;have h:=a.d7;obtain⟨z,e⟩:=aK (l:=d6) (i:=i.toNat) Ω;have h1:=(a.var _ x z J e).1;have j:=a.fg.2.2 z (x6 e)
  grind [aB]
 .simp
section
variable{k:Int}{n:aI}{s:an}
theorem vY{i:Int}(a:ba n.k n.d6 s)(h:v∈aT s i):0<=v/\v<32:=by
 unfold aT at h;split at h
 .rename_i x J;have f:=(x5.1 J).1;have j:=a.d7;obtain⟨z,e⟩:=aK (l:=n.d6) (i:=i.toNat) Ω;have h1:=(a.var _ x z J e).1;have q:=a.fg.2.2 z (x6 e);have r:=y8 h;omega
 .cases h
end
theorem zr{of:Int->Int}{c:Int}:∀(l:Λ)(b w:Int),w≠ -1->(∀v∈l,v≠ -1)->(c<=(l.foldl (fh of) (b,w)).1↔c<=b/\∀v∈l,c<=of v)
 |[],b,w,_,_=>Ξ
 |v::l,b,w,hw,a=>by
  rw[List.foldl_cons,List.forall_mem_cons];have ac:=a v (.head _);have e:=λu hu=>a u (.tail _ hu);unfold fh;by_cases h:of v<b
  .rw[lw (.inr h)];show c<=(l.foldl (fh of) (of v,v)).1↔_;rw[zr l _ _ ac e]
   grind
  .rw[m1 (by rintro (h1|h1)<;>contradiction)];show c<=(l.foldl (fh of) (b,w)).1↔_;rw[zr l _ _ hw e]
   grind
theorem Gn{of:Int->Int}(h:∀v∈l,v≠ -1/\of v<=k):c<=(cF k l of).1↔c<=k/\∀v∈l,c<=of v:=by
 cases l<;>grind [cF,fh,zr]
section
variable{n:aI}{s:an}
theorem SC{i:Int}(a:ba n.k n.d6 s):∀v∈aT s i,v≠ -1/\bN n s i v<=n.k:=λv ac=>by
 refine⟨?_,(lH a).2⟩;unfold aT at ac;split at ac
 .have:=y8 ac;omega
 .cases ac
theorem Gp{i:Int}(a:ba n.k n.d6 s):0<=(dV n s i).1/\(dV n s i).1<=n.k:=by
 have hk:=a.eA;exact tk Ω λv _=>lH a
theorem Gq{w:Nat}{x:bA}{i u:Int}(a:ba n.k n.d6 s)(J:s.d7[w]?=σ x)(ac:0<=v):u∈aT (dZ s w v.toNat) i↔u∈aT s i/\(i.toNat=w->u≠v):=by
 have e:=(x5.1 J).1;have f:=a.d7;have h1:=a.var w x _ J (x8 Ω);have hm:((x.mask.toNat:Nat):Int)=x.mask:=Ω
 unfold aT;rw[kZ J]
 grind [e1,zf]
theorem SD{w:Nat}{i u:Int}{x:bA}(J:s.d7[w]?=σ x):bN n (dZ s w v.toNat) i u=bN n s i u:=by
 unfold bN fx;rw[kZ J]
 grind
end
structure dv(s s':an):Prop where
 d7:s'.d7.length=s.d7.length
 var:∀(i:Nat)x y,s.d7[i]?=σ x->s'.d7[i]?=σ y->y.gone=x.gone/\y.un.length=x.un.length
 d8:s'.d8.length=s.d8.length
 fn:∀(j:Nat)f g,s.d8[j]?=σ f->s'.d8[j]?=σ g->g.sc=f.sc/\g.am=f.am/\g.live=f.live/\g.cs.length=f.cs.length
 di:s'.di=s.di
theorem dv.rfl{s:an}:dv s s:=⟨Eq.refl _,by grind,Eq.refl _,by grind,Eq.refl _⟩
theorem dv.F{a b c:an}(h:dv a b)(k:dv b c):dv a c:=by
 refine⟨k.d7.F h.d7,λi x z J s=>?_,k.d8.F h.d8,λj f q ah w=>?_,k.di.F h.di⟩
 .have A:=(x5.1 J).1;have ac:=h.d7;obtain⟨y,e⟩:=aK (l:=b.d7) (i:=i) Ω;have h1:=h.var i x y J e;have B:=k.var i y z e s;omega
 .have A:=(x5.1 ah).1;have ac:=h.d8;obtain⟨g,r⟩:=aK (l:=b.d8) (i:=j) Ω;have h1:=h.fn j f g ah r;have B:=k.fn j g q r w
  grind
section
variable{k:Int}{d6:Λ}{s:an}
theorem zs{i:Nat}{x y:bA}(J:s.d7[i]?=σ x)(e:y.gone=x.gone)(h:y.un.length=x.un.length):dv s {s with d7:=s.d7.set i y}:=by
 refine⟨Z5,λj a b q r=>?_,rfl,λj f g h1 w=>?_,rfl⟩
 all_goals grind
theorem SE{f g:bI}(ah:s.d8[j]?=σ f)(h:g.sc=f.sc/\g.am=f.am/\g.live=f.live/\g.cs.length=f.cs.length):dv s {s with d8:=s.d8.set j g}:=by
 refine⟨rfl,λi a b e r=>?_,Z5,λq a b e r=>?_,rfl⟩
 all_goals grind
theorem SF:dv s {s with zero:=c}:=⟨rfl,by grind,rfl,by grind,rfl⟩
theorem zt{i:Nat}:dv s (dZ s i v.toNat):=by
 cases J:s.d7[i]? with
 |none=>unfold dZ;rw[J];exact .rfl
 |some x=>rw[kZ J];grind [zs]
theorem zu{i:Nat}{v:Int}:∀(L:Λ)(s:an),dv s (ii s i v L)
 |[],_=>.rfl
 |w::L,s=>by
  unfold ii;split
  .exact zt.F (zu L _)
  .exact zu L s
theorem SG{u:Nat}{x:bA}{g z:Int->Int}(J:s.d7[u]?=σ x):dv s (iX s u x g z):=
 (zs (y:={x with un:=eD g x.un (aB x)}) J rfl (vR _ _)).F SF
theorem Gr{u:Nat}{f:bI}{x:bA}{t un:Int->Int}(a:ba k d6 s)(ah:s.d8[j]?=σ f)(J:s.d7[u]?=σ x):dv s (fy s j f pos u x v t un):=by
 obtain⟨_,e⟩:=kD a (x6 ah);have h1:dv s (eH s j f (eo t (bV s f.sc pos v) f.am f.cs)):=SE ah ⟨rfl,rfl,rfl,rq _ _ _ _ Ω⟩;exact h1.F (zs (y:={x with un:=x.un.set v.toNat (un (x.un.getD v.toNat 0))}) J rfl Z5)
theorem vZ{m:fF}(e:ba k d6 s):dv s (bi k s m).1:=by
 by_cases he:(bi k s m).2=0
 .generalize a:bi k s m=r at he ⊢;unfold bi at a;split at a
  .split at a
   .grind
   .rename_i f u x ae;obtain⟨_,_,ah,_,_,ac⟩:=nj ae;obtain⟨_,J,_,_⟩:=ke ac
    grind [Gr]
  split at a
  .split at a
   .grind
   .rename_i f u x ae;obtain⟨_,_,ah,_,_,ac⟩:=nj ae;obtain⟨_,J,_,_⟩:=ke ac
    grind [Gr]
  grind [SG,zt,zu]
 .rw[SA he];exact .rfl
def e8(i v:Int):fF:=⟨4,i,0,v,0⟩
def mn(i c:Int):fF:=⟨2,i,0,0,c⟩
def dw(k:Int)(i:Int):Λ->an×Bool->an×Bool
 |[],p=>p
 |v::L,p=>dw k i L ((bi k p.1 (e8 i v)).1,decide ((bi k p.1 (e8 i v)).2=0)||p.2)
def fi(n:aI)(i:Int)(p:an×Bool):an×Bool×Bool:=
 if dp p.1 i.toNat=ms then(p.1,p.2,ne)else
 let q:=dw n.k i (aT p.1 i) (p.1,ne)
 if(dV n q.1 i).2<0 then(q.1,ne,ms)else
 if 0<(dV n q.1 i).1 then((bi n.k q.1 (mn i (dV n q.1 i).1)).1,ms,ne)else(q.1,q.2||p.2,ne)
def ik(n:aI):List Nat->an×Bool->an×Bool×Bool
 |[],p=>(p.1,p.2,ne)
 |i::L,p=>if(fi n (i:Int) p).2.2=ms then((fi n (i:Int) p).1,ne,ms)else ik n L ((fi n (i:Int) p).1,(fi n (i:Int) p).2.1)
def fG(n:aI)(s:an):an×Bool×Bool:=ik n (X2 n.d6.length) (s,ne)
structure fz(k:Int)(d6:Λ)(s s':an):Prop where
 ok:ba k d6 s'
 gq:b2 s'
 same:dv s s'
 val:∀a,ka s a->fE k s' a=fE k s a
 fj:∀i u,u∈aT s' i->u∈aT s i
 zero:s.zero<=s'.zero
theorem zv{a:Λ}{s':an}(h:dv s s')(e:ka s a):ka s' a:=by
 refine⟨e.1.F h.d7.symm,λi y v f ac=>?_⟩;have j:=(x5.1 f).1;have q:=h.d7;obtain⟨x,J⟩:=aK (l:=s.d7) (i:=i) Ω;have h1:=h.var i x y J f;rw[h1.1,h1.2];exact e.2 i x v J ac
theorem fz.rfl(a:ba k d6 s)(e:b2 s):fz k d6 s s:=⟨a,e,.rfl,Ω,λ_ _ h=>h,S8 _⟩
theorem fz.F{a b c:an}(h:fz k d6 a b)(g:fz k d6 b c):fz k d6 a c:=
 ⟨g.ok,g.gq,h.same.F g.same,λx J=>(g.val x (zv h.same J)).F (h.val x J),λi u hu=>h.fj i u (g.fj i u hu),Int.le_trans h.zero g.zero⟩
theorem Gs{m:fF}(e:ba k d6 s)(f:b2 s)(hm:m.kind<5)(h:∀i u,u∈aT (bi k s m).1 i->u∈aT s i)(j:s.zero<=(bi k s m).1.zero):fz k d6 s (bi k s m).1:=by
 obtain⟨h1,q,r⟩:=vX (m:=m) e f;refine⟨h1,q,vZ e,λa w=>?_,h,j⟩
 grind [n7]
end
def v7(B:Nat)(w:x4)(a:x1)(cs:List x1)(f:cd):Prop:=∃af ag A R t N A9 aJ,fC N f/\a=Γ af/\bw w af ag A R (c7 f) (dB (c7 f)) t/\Plain t/\(∀r,A r->B<=r)/\
 kc ms A9 aJ w cs (c7 f).k (c7 f).d6 (dB (c7 f))/\(∀q r,A9 q r->¬A r/\¬R r/\B<=r)/\(∀r,aJ r->¬eB w r/\r<w.heap.size/\B<=r)/\∀r,R r->B<=r
def SH(w:x4)(q:Λ)(v:x1)(I:x4):Prop:=Ext w I/\∃a cs ok,v= .tuple #[a,.agg cs.toArray,.bool ok]/\(cs.length=8/\∀u∈cs,u.oneCell'=ms)/\((ok=ne/\a= .pointer ν)\/(ok=ms/\∃f,iy q=σ f/\v7 w.heap.size I a cs f))/\∀f,iy q=σ f->nZ f.d8<=16384->ok=ms
theorem SI(V:dN am):(bq am).Nodup:=by
 rw[List.nodup_iff_pairwise_ne,U3];intro i j hi a e he;have h1:=kt V (x8 hi)
 grind [kt]
section
variable{k:Int}{d6:Λ}{s:an}
theorem Gt{f:bI}(a:ba k d6 s)(ah:f∈s.d8)(ac:∀u,f.sc[pos]?=σ u->v∈aT s u):(bV s f.sc pos v).Nodup:=by
 obtain⟨e,h,_⟩:=a.d8 f ah;obtain⟨j,_⟩:=kD a ah;rw[za a (λu hu=>⟨(e.scope.1 u hu).1,e.d7 u hu⟩) ac,<-h]
 grind [SI]
theorem zw{α:Type}{l:List α}{q:Nat}{a:α}(e:l.Nodup)(h:l[q]?=σ a):a∉l.take q:=λhm=>by
 grind [Y4,List.getElem_inj]
theorem tn{m:Nat}{f:bI}(ah:s.d8[j]?=σ f)(a:f.live≠0)(hi:ct f.am t 0=σ (m:Int)):ea s j t=bt f.am f.cs t/\∃p,ig s j t=σ p:=by
 grind [ig,ea,mh]
theorem Gu{m q:Nat}{f:bI}{g:Int->Int}{L:List (Λ)}(a:ba k d6 s)(ah:s.d8[j]?=σ f)(e:L.Nodup)(h:L[q]?=σ t)(hi:ct f.am t 0=σ (m:Int)):
  bt f.am (eo g (L.take q) f.am f.cs) t=bt f.am f.cs t/\mj (eH s j f (eo g (L.take q) f.am f.cs)) j m (g (bt f.am f.cs t))=eH s j f (eo g (L.take (q+1)) f.am f.cs):=by
 obtain⟨r,w⟩:=kD a (x6 ah);have x:=zw e h
 grind [l4,u5,bt,RO,mj,eH,u7,List.set_set]
end
section
variable{w:x4}{af ag:Nat}{A R:ak}{n:aI}{s:an}{t:az}
theorem zx{i:Int}(h:bw w af ag A R n s t):aq x7 Kd [Γ af,Δ i,Δ v] w λr I=>Ext w I/\r=Δ (if(dF s i v).isSome=ms then 0 else 1):=by
 have L:=h.2.2.2.1.d7;refine aF func151 ?_;rw[cT dx.u];simp only[l9,a6];refine a1 (λr U=>r= .bool (!(dF s i v).isSome)/\Ext w U) ?_ ?_
 .rintro _ U ⟨rfl,B⟩;rw[b1];exact⟨λf=>⟨B,by rw[m1 (by simpa using f)]⟩,λf=>⟨B,by rw[lw (by simpa using f)]⟩⟩
 intro aA C;refine(tc h).Y ?_;rintro _ ab _ ⟨rfl,j⟩;rw[b1];refine⟨λa=>C _ _ ⟨?_,j⟩,λa=>?_⟩
 .rw[S0,m6]at a;have q:dF s i v=ν:=by
   unfold dF;rw[lw a.1];have y:=a.2;unfold dp at y;cases J:s.d7[i.toNat]? with
   |none=>rfl
   |some x=>
    rw[J]at y;simp only;rw[m1 λh=>by simp[h.1]at y]
  rw[q];rfl
 refine(iW (i:=i) (h.W j)).Y ?_;rintro _ M _ ⟨⟨b,m,rfl,z⟩,G⟩;refine(yX z.1).Y ?_;rintro _ N _ ⟨rfl,H⟩;rw[bE];refine C _ _ ⟨?_,(j.F G).F H⟩;congr 2;by_cases e:0<=i/\i<n.d6.length
 .obtain⟨x,J⟩:=aK (l:=s.d7) (i:=i.toNat) Ω;rw[FS z e.1 J];unfold dF;rw[lw e.1,J];have K:x.gone=0:=by
   rw[m3 e.1,T0]at a;unfold dp at a;rw[J]at a;simpa using a
  simp only;by_cases ac:v∈aB x
  .rw[m3 ac,lw ⟨K,ac⟩];rfl
  .rw[m5 ac,m1 λh=>ac h.2];rfl
 .obtain⟨rfl,rfl⟩:=z.2.1 e;have q:dF s i v=ν:=by
   unfold dF;by_cases E:0<=i
   .rw[lw E,V0 Ω]
   .rw[m1 E]
  rw[q,m5 Ω];rfl
def SJ(s:an)(j pos v:Int)(u e:Int):Prop:=(e=0/\∃f x,du s j pos v=σ (f,u,x))\/(e=1/\du s j pos v=ν)
theorem zy{j pos:Int}(h:bw w af ag A R n s t):aq x7 J7 [Γ af,Δ j,Δ pos,Δ v] w λr I=>Ext w I/\∃u e,r= .tuple #[Δ u,Δ e]/\SJ s j pos v u e:=by
 refine aF func143 ?_;rw[cT dx.u];simp only[l9,a6];have key:∀(K:x1->x4->Prop),(∀r I,Ext w I->(∀f,0<=j->s.d8[j.toNat]?=σ f->aQ .i64 I r f.sc)->K r I)->aq x7 rW [Γ af,Δ j] w K:=λK V=>by
  by_cases W:0<=j/\j<s.d8.length
  .obtain⟨f,ah⟩:=aK (l:=s.d8) (i:=j.toNat) Ω;have:=mm h ah;rw[show((j.toNat:Nat):Int)=j by omega]at this;refine this.Y ?_;rintro r U _ ⟨C,g,_,hm⟩;exact V r U C λH _ X=>by rw[ah]at X;cases X;exact hm.ls
  .refine (FN h W).Y ?_;rintro r U _ ⟨rfl,C⟩;exact V _ U C λf E ah=>m2 ⟨E,by have:=(x5.1 ah).1;omega⟩ W
 refine key _ λr U C Y=>?_;have L:∀{P:Prop},(¬∃f u,0<=j/\0<=pos/\s.d8[j.toNat]?=σ f/\f.live≠0/\f.sc[pos.toNat]?=σ u)->(du s j pos v=ν->P)->P:=λz am=>am (by
  cases ae:du s j pos v with
  |none=>rfl
  |some q=>
   obtain⟨f,u,x⟩:=q;obtain⟨M,N,a3,a4,a5,_⟩:=nj ae;exact m2 ⟨f,u,M,N,a3,a4,a5⟩ z)
 refine a1 (λZ ab=>Ext U ab/\((Z= .bool ms/\du s j pos v=ν)\/(Z= .bool ne/\∃f u,0<=j/\0<=pos/\s.d8[j.toNat]?=σ f/\f.live≠0/\f.sc[pos.toNat]?=σ u))) ?_ ?_
 .rintro _ ab ⟨O,⟨rfl,z⟩|⟨rfl,f,u,E,aa,ah,an,hu⟩⟩
  .rw[bK];exact⟨C.F O,0,1,rfl,.inr ⟨rfl,z⟩⟩
  .rw[a6];intro ap B _ _;have ad:=(Y f E ah).W (O.F B);refine mN Ω av.u al.i ad hu λb o au=>?_;rw[aD Ψ au,fO (y:=pos) (i:=pos.toNat) Ω av.u al.i Ψ ad hu];have ai:=(C.F O).F B;refine(zx (h.W ai)).Y ?_;rintro _ ax _ ⟨aj,rfl⟩;refine⟨.inl aj,ai.F aj,u,_,rfl,?_⟩;have ae:du s j pos v=(dF s u v).map λx=>(f,u,x):=by
    unfold du;rw[lw ⟨E,aa⟩,ah];simp only;rw[lw an,hu]
   cases ac:dF s u v with
   |none=>exact .inr ⟨rfl,by rw[ae,ac];rfl⟩
   |some x=>exact .inl ⟨rfl,f,x,by rw[ae,ac];rfl⟩
 intro aA J;refine(rp (h.W C)).Y ?_;rintro _ ap _ ⟨rfl,B⟩;have same:∀{f H:bI},s.d8[j.toNat]?=σ f->s.d8[j.toNat]?=σ H->H=f:=λa b=>by rw[a]at b;exact(Z4 b).symm
 rw[bE,b1];refine⟨λQ=>L (λ⟨f,u,M,N,a3,a4,a5⟩=>?_) λz=>J _ _ ⟨B,.inl ⟨rfl,z⟩⟩,λS=>?_⟩
 .unfold eL at Q;rw[a3]at Q;simp[M,a4]at Q
 have S:0<=j/\eL s j.toNat=ms:=by simpa using S
 obtain⟨E,G⟩:=S;obtain⟨f,ah,aw⟩:∃f,s.d8[j.toNat]?=σ f/\f.live≠0:=by
  unfold eL at G;cases ah:s.d8[j.toNat]? with
  |none=>rw[ah]at G;cases G
  |some f=>rw[ah]at G;exact⟨f,rfl,by simpa using G⟩
 rw[aW,ao];refine⟨λay=>L (λ⟨_,_,_,N,_⟩=>Ω) λz=>J _ _ ⟨B,.inl ⟨rfl,z⟩⟩,λaa=>?_⟩;rw[a7 av.u ((Y f E ah).W B),cJ];by_cases ak:(f.sc.length:Int)<=pos
 .refine L (λ⟨H,u,_,_,a3,_,a5⟩=>?_) λz=>J _ _ ⟨B,.inl ⟨by rw[m3 ak],z⟩⟩;obtain rfl:=same ah a3;have:=(x5.1 a5).1;omega
 .obtain⟨u,hu⟩:=aK (l:=f.sc) (i:=pos.toNat) Ω;exact J _ _ ⟨B,.inr ⟨by rw[m5 ak],f,u,E,Ω,ah,aw,hu⟩⟩
theorem wa{most:Int}(h:bw w af ag A R n s t):aq x7 J8 [Γ af,Δ c,Δ most] w λr I=>Ext w I/\r=Δ (dG n.k c most):=by
 refine aF func144 ?_;refine(n2 h).Y ?_;rintro _ U _ ⟨rfl,a⟩;refine ln.Y ?_;rintro _ ab _ ⟨rfl,e⟩;have hi:cA c n.k↔0<=c/\c<=n.k:=⟨λh=>h.2,λj=>⟨h.2.2.2.1.eA,j⟩⟩;unfold dG;rw[bE,b1];refine⟨λf=>⟨a.F e,?_⟩,λf=>?_⟩
 .have:¬cA c n.k:=by simpa using f
  rw[lw λh=>this (hi.2 h)]
 .have:cA c n.k:=by simpa using f
  rw[m1 λh=>h (hi.1 this),bU,ao];exact⟨λh=>⟨a.F e,by rw[lw h]⟩,λh=>⟨a.F e,by rw[m1 h]⟩⟩
theorem SK{b:Int}(hk:right k)(f:0<=a/\a<=k)(j:0<=b/\b<=k)(x:a=k\/b<=a):aq x7 KZ [Δ a,Δ b,Δ k] w λv I=>v= .tuple #[Δ (cG k a b),Δ 0]/\Ext w I:=by
 have y:1<=k/\k<=2147483648:=hk;refine aF func213 ?_;refine a1 (λr U=>r= .bool ne/\Ext w U) ?_ ?_
 .rintro _ U ⟨rfl,e⟩;unfold cG;rw[a6,bl,ao];refine⟨λh=>⟨by rw[lw h],e⟩,λh=>?_⟩;rw[m1 h,bU,ao];refine⟨λz=>Ω,λ_=>?_⟩;rw[c5,hx Ω Ω];exact⟨rfl,e⟩
 intro aA q;refine ln.Y ?_;rintro _ U _ ⟨rfl,e⟩;rw[m3 (show cA a k from⟨hk,f⟩),bE,Y1,a6];refine ln.Y ?_;rintro _ ab _ ⟨rfl,s⟩;rw[m3 (show cA b k from⟨hk,j⟩),bE,Y1];exact q _ _ ⟨rfl,e.F s⟩
theorem wb(h:bw w af ag A R n s t)(e:0<=a/\a<=n.k)(f:0<=c/\c<=n.k)(j:a=n.k\/c<=a):aq x7 pv [Γ af,Δ a,Δ c] w λr I=>r=Δ (cG n.k a c)/\Ext w I:=by
 refine aF func146 ?_;refine(n2 h).Y ?_;rintro _ U _ ⟨rfl,q⟩;refine(SK h.2.2.2.1.eA e f j).Y ?_;rintro _ ab _ ⟨rfl,x⟩;rw[bx,bz];exact⟨rfl,q.F x⟩
theorem tp(h:bw w af ag A R n s t)(e:0<=a/\a<=n.k)(f:0<=c/\c<=n.k):aq x7 pw [Γ af,Δ a,Δ c] w λr I=>r=Δ (b4 n.k a c)/\Ext w I:=by
 refine aF func147 ?_;refine(n2 h).Y ?_;rintro _ U _ ⟨rfl,j⟩;refine(RH e f h.2.2.2.1.eA).Y ?_;rintro _ ab _ ⟨rfl,q⟩;rw[bx,bz];exact⟨rfl,j.F q⟩
end
theorem SL{g n c:Nat}{K:x1->x4->Prop}(a:ai w g cS cs)(h:∀I,aj (λr=>r=g) w I->(∀o vs,w.rangeAt g o vs->I.rangeAt g o vs)->K (.slice (σ ⟨g,0,ν⟩) n c) I):
  aM x7 (convert cU cU (.slice (σ ⟨g,0,ν⟩) n c)) w K:=by
 have f:∀r,(w.freeze ⟨g,cs.length,ν⟩ 1).heap[r]?=if g=r then(w.heap[r]?).map (λ| .cells c q (lo,hi)=>.cells c q (if lo == hi then(cs.length,cs.length+1)else(min lo cs.length,max hi (cs.length+1)))|o=>o)else w.heap[r]?:=λr=>by
  unfold x4.freeze;rw[m1 Φ];exact Array.getElem?_modify
 have A:(w.freeze ⟨g,cs.length,ν⟩ 1).heap.size=w.heap.size:=by
  unfold x4.freeze;rw[m1 Φ];exact Array.size_modify
 have s:w.shape? g=σ (cS,cs.length):=by
  unfold x4.shape?;unfold ai at a;rw[a];simp
 have x:(convert cU cU (.slice (σ ⟨g,0,ν⟩) n c)).run x7 w= .ok (.slice (σ ⟨g,0,ν⟩) n c) (w.freeze ⟨g,cs.length,ν⟩ 1):=by
  simp[convert,run_underlying cU.u,run_underlying cS.u,markStringish,s]
 unfold ai at a;refine .of x ⟨by unfold x4.freeze;rw[m1 Φ],.lP (by unfold x4.freeze;rw[m1 Φ]) (by unfold x4.freeze;rw[m1 Φ]),by unfold x4.freeze;rw[m1 Φ],Ω,λr o e V=>?_⟩ (h _ ⟨Ω,λr o e _ y=>?_⟩ λo vs ac j v z=>?_)
 .rw[f];by_cases he:g=r
  .subst he;rw[a]at e;cases e;cases V
  .rw[m1 he];exact e
 .rw[f,m1 λhe=>y he.symm];exact e
 .have h1:=ac j v z;unfold x4.cell? at h1 ⊢;rw[f,lw rfl];rw[a]at h1 ⊢;exact h1
def zz(s0 s:an):Prop:=s.zero=s0.zero/\s.d8=s0.d8/\s.d7.length=s0.d7.length/\∀(i:Nat)x,s.d7[i]?=σ x->∃a,s0.d7[i]?=σ a/\x.un=a.un/\x.gone=0/\a.gone=0/\a.mask=0
theorem zz.new(n:aI):zz (dB n) (dB n):=⟨rfl,rfl,rfl,λi x J=>by
 refine⟨x,J,rfl,?_⟩;have J:(n.unary.map newVar)[i]?=σ x:=J;rw[v8]at J;obtain⟨u,_,rfl⟩:=Y0.1 J;exact⟨rfl,rfl,rfl⟩⟩
theorem Gv(n:aI):b2 (dB n):=λf _ _ v _ x J=>by
 obtain⟨_,_,_,h,_⟩:=(zz.new n).2.2.2 _ x J;exact h
theorem SM{au:Nat}{E:x1}{f:cd}(G:v7 B ab E cs f)(J:Ext ab w)(H:ai w au a8 cs)(M:ab.heap.size<=au):
  ∃af ag A R A9 aJ t,E=Γ af/\cm w af ag au A R A9 aJ (c7 f) (dB (c7 f)) (dB (c7 f)) t [] cs/\t.marks=[]/\(∀r,A r->B<=r)/\(∀q r,A9 q r->B<=r)/\t.cells.length<=2000000/\t.olds.length=0/\(c7 f).d8.length<=256/\t.ever=0/\(∀r,aJ r->B<=r)/\∀r,R r->B<=r:=by
 obtain⟨af,ag,A,R,t,N,A9,aJ,x,rfl,y,e,I,K,C,j,L⟩:=G;have F:=ti y;have z:=J.size;have s:=(vD (Ea x).1 (y5 x) (c7 f).unary.length (c7 f).d8.length);rw[yJ,<-y.2.1]at s;unfold az.bT at s;rw[u9]at s;refine⟨af,ag,A,R,λq r=>A9 q r/\r<ab.heap.size,aJ,t,rfl,⟨y.W J,e.2.2.1,H,K.old.W J,λq r h=>⟨(C q r h.1).1,(C q r h.1).2.1,by have:=h.2;omega⟩,λr a=>⟨λh=>(j r a).1 (oS (λo aE V _=>J.bb r o aE V) h),by have:=(j r a).2;omega,by have:=(j r a).2;omega⟩,λh=>by have:=F au (.inl h);omega,λh=>by have:=F au (.inr h);omega⟩,e.1,I,λq r h=>(C q r h.1).2.2,s,by rw[e.2.1];rfl,y5 x,e.2.2.2,λr a=>(j r a).2.2,L⟩
theorem SN{A:ak}{t:az}(h:db w ag A t):aq x7 Ks [Γ ag] w λv I=>v=Δ (t.marks.length:Int)/\Ext w I:=by
 obtain⟨e,f,go,da,bd,j,dm,h1,q,r,a,s⟩:=h;refine aF func167 ?_;rw[cT mF.u];simp only[l9,a6];rw[aL dh.p 2 h1 rfl,dO kj.u a];exact⟨rfl,Ext.refl _⟩
theorem SO{A:ak}{t:az}(h:db w ag A t)(ad:m8 t)(aG:t.ever<=1000000):aq x7 I8 [Γ ag] w λv I=>v=Δ (t.marks.length:Int)/\∃aP,Grow A w aP I/\db I ag aP t.mark:=by
 obtain⟨G,ae,go,da,bd,z,dm,h1,M,N,O,B⟩:=id h;obtain⟨aH,aI,aJ⟩:=ad;obtain⟨⟨af,ah,P⟩,al,am⟩:=rh h1 M N O;refine aF func52 ?_;rw[cT mF.u];simp only[l9,a6];rw[aL dh.p 3 h1 rfl,aR,lc Ω Ω,bR,aY dh.p rfl];refine bs (o:=0+3) fL.i rfl rfl h1 Ξ λU s aK H=>?_;have H:ai U ag dh [bd,z,dm,.int .u64 ((t.ever:Int)+1)]:=H;have x:∀{r:Nat},r=ag->¬(hp bd r\/hp z r\/hp dm r):=λhe aw=>by
  subst he;rcases aw with h|h|h
  .exact af h
  .exact ah h
  .exact P h
 have an:=M.aa s λr e he=>x he (.inl e);have ao:=N.aa s λr e he=>x he (.inr (.inl e));have ap:=O.aa s λr e he=>x he (.inr (.inr e));intro ab q _ _;have y:=H.W q;have Q:=an.W q;have R:=ao.W q;have au:=ap.W q;rw[aL dh.p 2 y rfl,aL dh.p 1 y rfl,dO jb.u R,aL dh.p 0 y rfl,dO ir.u Q,
  bR,aY dh.p rfl,aD (v:=.int .u64 ((t.ever:Int)+1)) Ψ (y.cell (o:=0+3) rfl),dk (cs:=#[Δ (t.olds.length:Int),Δ (t.cells.length:Int),.int .u64 ((t.ever:Int)+1)]) Ψ]
 let a:pN:=⟨t.olds.length,t.cells.length,t.ever+1⟩;have av:∀u∈j7 a,u.oneCell'=ms:=by intro v ac;simp[j7]at ac;rcases ac with rfl|rfl|rfl<;>rfl
 refine jk (f:=j7) (a:=a) kj.u ee.i Ω rfl rfl λv3 aM S aN j ax=>?_;refine⟨.inl j,?_⟩;have ay:=y.W j;have aA:=au.W j;refine jH (f:=j7) (a:=a) kj.u ee.i rfl aA (by simpa using ax.sl) av Ω Ω λJ V aO C aB W=>?_;have X:=ay.aa W λhe=>P he;rw[bR,aY dh.p rfl];refine bs (o:=0+2) kj.i (dn C.sl).1 (dn C.sl).2 X Ξ λK Y aQ E=>?_;have E:ai K ag dh [bd,z,J,.int .u64 ((t.ever:Int)+1)]:=E;have Z:bn j7 3 ee K V J (t.marks++[a]):=C.aa Y λr e he=>by
  have he:r=ag:=he;subst he;exact cw C X Φ e
 have L:aj (λr=>hp dm r\/r=ag) S K:=(W.Y λr _ h=>.inl h).F (Y.Y λr _ h=>.inr h);rw[aL dh.p 2 E rfl,dO kj.u Z,o4,c5,hx (by simp;try omega) (by simp;try omega)];have z3:=j.size;have aS:=q.size;have aT:=s.size;have aC:=(Q.W j).aa L λr e he=>he.elim (λhe=>(al r e).2 he) λhe=>x he (.inl e);have aE:=(R.W j).aa L λr e he=>he.elim (λhe=>(am r e).2 he) λhe=>x he (.inr (.inl e));refine⟨by congr 1;simp,λr=>A r\/S.heap.size<=r,⟨?_,λr e=>e.imp id λh=>Ω,λr e=>.inl e⟩,.inl G,ae,go,V,bd,z,J,E,aC,aE,Z,λr e=>?_⟩
 .exact ((s.Y λr _ he=>by have he:r=ag:=he;rw[he];exact G).F ((q.F j).aa _)).F (L.Y λr _ h=>h.elim (λh=>B r (.inr (.inr h))) λh=>by rw[h];exact G)
 .rcases e with e|e|e
  .exact .inl (B r (.inl e))
  .exact .inl (B r (.inr (.inl e)))
  .rcases aB r e with h|h
   .exact .inl (B r (.inr (.inr h)))
   .exact .inr h
theorem StateM.p4{A R:ak}{n:aI}{s:an}{t:az}(h:StateM w af ag A R n s t):∃a,db w ag a t/\∀e I bu,Grow a w e I->db I ag e bu->aj (eB w) w I/\∃aP,Grow A w aP I/\StateM I af ag aP R n s bu:=by
 obtain⟨f,j,q,r,x⟩:=h;obtain⟨a,y,z⟩:=x.p4;refine⟨a,y,λe I bu B C=>?_⟩;obtain⟨h1,aP,E,F⟩:=z e I bu B C;exact⟨h1,aP,E,f,j,q,r,F⟩
section
variable{w:x4}{af ag:Nat}{A R:ak}{n:aI}{s:an}{t:az}
theorem SP(h:bw w af ag A R n s t)(hm:t.marks.length<1000)(e:t.ever<=1000000):aq x7 w5 [Γ af] w λv I=>v=Δ (t.marks.length:Int)/\aj (eB w) w I/\∃aP,Grow A w aP I/\bw I af ag aP R n s t.mark:=by
 obtain⟨f,ac,a,j,q⟩:=id h;obtain⟨J,K,M,N,bh,O,L,_,r,_⟩:=h.1.parts;obtain⟨P,x,y⟩:=f.p4;refine aF func20 ?_;rw[cT dx.u];simp only[l9,a6];rw[aL ch.p 1 r rfl];refine(SO x a e).Y ?_;rintro _ U _ ⟨rfl,z,B,C⟩;obtain⟨E,aP,G,H⟩:=y z U _ B C;refine⟨rfl,E,aP,G,H,ac,⟨a.1,a.2.1,?_⟩,j,q⟩;show(t.marks++_).length<=_;rw[o4];simp;omega
end
theorem b6.down{B:x1->x4->(x1->x4->Prop)->Prop}(n:Nat)(a:Nat->x4->Prop)(x:n<=1000000000000)(j:a 0 w)(r:∀(q:Nat)(w:x4)(k:x1->x4->Prop),q<n->a q w->(∀I,a (q+1) I->k (Δ (X3.wrap (((n-1-q:Nat):Int)-1))) I)->B (Δ ((n-1-q:Nat):Int)) w k)(s:∀(w:x4)(k:x1->x4->Prop),a n w->B (Δ (-1)) w k):b6 (Δ ((n:Int)-1)) w B:=by
 refine⟨λt w=>∃q:Nat,t=Δ ((n:Int)-1-q)/\q<=n/\a q w,λt _=>(bY t+1).toNat,⟨0,Ξ,X9 _,j⟩,?_⟩;rintro _ w ⟨q,rfl,y,h⟩;by_cases f:q<n
 .have e:(n:Int)-1-q=((n-1-q:Nat):Int):=Ω
  rw[e];refine r q w _ f h λI bg=>?_;rw[hx Ω Ω];exact⟨⟨q+1,by congr 1;omega,f,bg⟩,by simp only[bY];omega⟩
 .have e:q=n:=Ω
  subst e;rw[show((q:Int)-1-q)= -1 by omega];exact s w _ h
theorem SQ{t:r8}{pl:List (Nat×Nat)}{b k:Nat}{z v:x1}{i:Nat}{α:Type}{f:α->List x1}{L:List α}{a:α}{S:ak}(hu:bJ x7 e pl)(s:x7.underlying t=σ (.slice e))(hi:aS x7 e k b z)(r:∀x∈L,(f x).length=k)(h:jR S w k v L.length (L.flatMap f))(q:L[i]?=σ a):ad x7 (n9 t v (Δ (i:Int))) w (λp=>ad x7 (u4 e p) w K)=K (.agg (f a).toArray):=by
 obtain⟨h1,E,o,base,cap,rfl,F,G,y,_,A⟩:=h;have B:=(x5.1 q).1;rw[fq s hi B λh=>y Ω];rw[bF hu hi (r a (x6 q)) λj u C=>?_];have:=A (i*k+j) u (pW r q C);rwa [<-Nat.add_assoc]at this
theorem SR{g go:Nat}{v:x1}{os:List l1}(G:os.length<=100000000):
  pn x7 qH [Γ g] os.length (λk vs _=>∃o,os[os.length-1-k]?=σ o/\vs=[Δ ((os.length-1-k:Nat):Int),.agg (lC o).toArray])
   (λw=>ai w g jb [v]/\jR (λr=>r=go) w 3 v os.length (os.flatMap lC)):=by
 refine⟨qH.enters,λl aA H w I _ x ⟨e,V⟩ y=>?_⟩;refine qO func168 ?_;have z:ad x7 (W7 #[jb] al #[v]) w=λK=>K (Δ (os.length:Int)):=by
  obtain⟨_,_,_,_,_,rfl,_⟩:=V;funext K;exact je jb.u
 rw[aD (o:=0) Ψ (e.Qz rfl),z];simp only[c5];rw[hx Ω Ω];refine b6.down os.length (λq ab=>aA q ab/\ai ab g jb [v]/\jR (λr=>r=go) ab 3 v os.length (os.flatMap lC)) Ω ⟨y,e,V⟩ ?_ ?_
 .rintro q ab k f ⟨a,j,s⟩ hk;obtain⟨o,aE⟩:=aK (l:=os) (i:=os.length-1-q) Ω;rw[cJ,ao];refine⟨λ_=>?_,λh=>Ω⟩;rw[aD (o:=0) Ψ (j.Qz rfl),SQ gT.p jb.u gT.i (λ_ _=>rfl) s aE];refine⟨rfl,(x q _ ab f ⟨j,s⟩ ⟨o,aE,rfl⟩ a).Y ?_⟩;rintro _ J (⟨rfl,⟨A,B⟩,C⟩|⟨rfl,E⟩)
  .rw[bE,Y1,a6,c5];exact hk _ ⟨C.1,A,B⟩
  .rw[bE,X4,bK];exact .inr ⟨q,f,E⟩
 .rintro ab k ⟨a,_⟩;rw[cJ,ao];exact⟨λh=>Ω,λ_=>.inl a⟩
section
variable{α:Type}{f:α->List x1}{k:Nat}{e:r8}{w:x4}{g:Nat}{v:x1}{L:List α}
theorem ru{t:r8}{b:Nat}{z:x1}{i:Nat}(s:x7.underlying t=σ (.slice e))(hi:aS x7 e k b z)(h:bn f k e w g v L)(y:i<=L.length):
  ∃j,(∀(I:x4)(K:x1->Prop),ad x7 (V5 t v ν (σ (Δ (i:Int))) ν) I K=K j)/\bn f k e w g j (L.take i)/\∀r,hp j r->hp v r:=by
 obtain⟨⟨J,⟨rfl,A⟩|⟨cap,cs,rfl,B,M,C,E,N⟩⟩,O⟩:=id h
 .have F:=j6 A;subst F;have:i=0:=Ω
  subst this;exact⟨_,λI K=>gW s hi ko pE fc Ω Ω Ω,h,λr q=>q⟩
 .have G:(if cap=0 then(σ ⟨g,0,ν⟩:Option Addr)else V9 (λx:Addr=>x.add (0*k)) (σ ⟨g,0,ν⟩))=σ ⟨g,0,ν⟩:=by grind [U6]
  refine⟨.slice (σ ⟨g,0,ν⟩) i cap,λI K=>?_,⟨⟨?_,.inr ⟨cap,cs,by grind,B,by grind,C,E,?_⟩⟩,by grind⟩,λr q=>by obtain⟨a,_,_,e,H⟩:=q;cases e;exact⟨_,_,_,rfl,H⟩⟩
  .rw[gW s hi ko pE fc Ω Ω Ω,G,Nat.sub_zero,Nat.sub_zero]
  .grind [iO]
  .rw[j9,Nat.min_eq_left y];have ah:L.flatMap f=(L.take i).flatMap f++(L.drop i).flatMap f:=by grind [List.take_append_drop]
   have P:((L.take i).flatMap f).length=i*k:=by grind [iO,j9]
   have:cs.take (i*k)=(cs.take (L.length*k)).take (i*k):=by grind
   grind
theorem SS{t:r8}{b:Nat}{z:x1}{i:Nat}(a:x7.underlying t=σ (.slice e))(hi:aS x7 e k b z)(h:bn f k e w g v L)(G:i<=L.length)(q:∀s,jR (λr=>r=g) w k s (L.drop i).length ((L.drop i).flatMap f)->K s):ad x7 (V5 t v (σ (Δ (i:Int))) ν ν) w K:=by
 obtain⟨⟨H,⟨rfl,y⟩|⟨cap,cs,rfl,A,I,J,M,B⟩⟩,C⟩:=id h
 .have E:=j6 y;subst E;have:i=0:=Ω
  subst this;rw[gW a hi pB kp fc Ω Ω Ω];exact q _ ⟨Ξ,0,0,ν,0,Ξ,Ξ,by simp[maxLen],by grind,by grind,λj v h=>by simp at h⟩
 .rw[gW a hi pB kp fc Ω Ω Ω];have ah:L.flatMap f=(L.take i).flatMap f++(L.drop i).flatMap f:=by grind [List.take_append_drop]
  have F:((L.take i).flatMap f).length=i*k:=by grind [iO,j9]
  refine q _ ⟨by grind [iO],g,i*k,_,cap-i,by rw[List.length_drop],by grind,Ω,λh=>?_,λ_=>rfl,λj u hu=>?_⟩
  .grind [U6]
  .have h1:(L.flatMap f)[i*k+j]?=σ u:=by rw[ah,X1 Ω,F,Nat.add_sub_cancel_left];exact hu
   have x:=(x5.1 h1).1;rw[iO C]at x;rw[<-B,W3 x]at h1;have:=A.cell h1;omega
end
theorem SU{A:ak}{t:az}{m:Int}(h:db w ag A t):aq x7 JN [Γ ag,Δ m] w λv I=>v= .bool (decide (0<=m/\m<t.marks.length))/\Ext w I:=by
 refine aF func104 ?_;refine a1 (λv U=>v= .bool (decide (0<=m/\m<t.marks.length))/\Ext w U) (λ_ _ h=>h) λaA a=>?_;rw[cJ,ao];refine⟨λe=>?_,λe=>a _ _ ⟨by rw[m5 Ω],Ext.refl _⟩⟩;refine(SN h).Y ?_;rintro _ U _ ⟨rfl,J⟩;rw[aW];refine a _ _ ⟨?_,J⟩;congr 1;exact decide_eq_decide.2 ⟨λh=>⟨e,h⟩,λh=>h.2⟩
theorem SV{A:ak}{t:az}{m:Nat}{x:pN}(h:db w ag A t)(bm:m8 t)(hm:t.marks[m]?=σ x)(aE:x.olds<=t.olds.length)(bp:x.cells<=t.cells.length)(aS:∀o∈t.olds.drop x.olds,o.i<t.cells.length):
  aq x7 Ja [Γ ag,Δ (m:Int)] w λv I=>v=Δ 0/\∃aP,Grow A w aP I/\db I ag aP (t.jh m):=by
 have bq:=(x5.1 hm).1;obtain⟨b4,b5,b6⟩:=bm;refine iM func56 ?_;refine bo λg1 U b7 aT C=>?_;have C:ai U g1 mF [Γ ag]:=C;rw[aD (o:=0) Ψ (C.Qz rfl)];refine(SU (m:=(m:Int)) (h.W aT)).Y ?_;rintro _ ab _ ⟨rfl,H⟩;have Z:=aT.F H;rw[m3 Ω,bE,Y1,a6];obtain⟨aU,av,go,da,bd,Q,dm,h1,R,ad,ae,aV⟩:=id (h.W Z);obtain⟨⟨aw,br,bt⟩,ax,b9⟩:=rh h1 R ad ae;rw[aD (o:=0) Ψ ((C.W H).Qz rfl),aL dh.p 2 h1 rfl,cf rfl kj.u ee.i ae bq,bF ee.p ee.i rfl (ae.range hm)];refine bC ee.i λau ca cb bu bw=>?_;refine b8 (vs:=j7 x) ee.i rfl rfl (by intro v ac;simp[j7]at ac;rcases ac with rfl|rfl|rfl<;>rfl) bw λbx bz cc aW=>?_;have bA:Ext ab bx:=bu.put bz Ω;intro cd ay _ _;have M:=bA.F ay;have ce:=Z.F M;rw[aD (o:=0) Ψ ((C.W (H.F M)).Qz rfl),aL dh.p 1 (h1.W M) rfl,aO ee.p 0 (aW.W ay) rfl];refine SS jb.u gT.i (ad.W M) aE λaX aA=>?_;refine aF func105 ?_;refine bo λaf aZ cg ah al=>?_;have al:ai aZ af jb [aX]:=by
  obtain⟨_,_,_,_,_,e,_⟩:=aA;rw[e]at al ⊢;exact al
 rw[lh];obtain⟨os,am⟩:∃os,os=t.olds.drop x.olds:=⟨_,rfl⟩;rw[<-am]at aA aS;have bB:os.length<=100000000:=by rw[am,List.length_drop];omega
 have G:=M.F ah;have bD:=Z.F G;have bG:=SR (g:=af) (go:=go) (v:=aX) bB;have ch:=Z.size;have ci:=M.size;have cj:=ah.size;have a1:∀r,hp bd r->r=av/\r<ab.heap.size:=λr y=>⟨(R.hv y).1,by have:=R.hv y;omega⟩;have a2:¬hp bd g1:=λhe=>cw R (C.W H) Φ he;refine oq.old ⟨Nat,ne,qH,#[Γ af],0,_,_,_,λq I=>aj (λr=>hp bd r) aZ I/\bn jq 2 eu I av bd (back (os.drop (os.length-q)) t.cells),λ_ _ _=>False,rfl,bG.s,
  ?_,λ_ _ J h=>⟨h.1.W J,h.2.aa (J.aa λ_=>False) λ_ _ _ h=>h⟩,λ_ _ _ J h=>⟨h.1.F (J.aa _),h.2.W J⟩,λ_ _ _ _ _ h=>h,⟨al,aA.aa (ah.aa λ_=>False) λ_ _ _ h=>h⟩,⟨aj.refl _ _,?_⟩,?_,?_,λ_ _ h=>h.elim,λ_ _ _ h=>h.elim⟩
 .rintro _ _ _ _ ⟨_,_,_,_,rfl⟩;rfl
 .rw[Nat.sub_zero,List.drop_length];exact R.W G
 .rintro _ Q q _ a7 ⟨bH,bI⟩ ⟨a8,rfl,o,ba,bJ⟩ ⟨z,an⟩;cases bJ;have ck:=aS o (x6 ba);have bK:=z.size;refine bC gT.i λgy L cl B bL=>?_;refine b8 (vs:=lC o) gT.i rfl rfl (by intro v ac;simp[lC]at ac;rcases ac with rfl|rfl|rfl<;>rfl) bL λS V bM W=>?_;have bN:Ext a7 S:=B.put V Ω;intro aB bb _ cm X bc _ _;have N:=(bN.F bb).F bc;have O:=(W.W bb).W bc;have E:ai X g1 mF [Γ ag]:=((C.W (H.F G)).aa z a2).W N;have P:ai X ag dh [bd,Q,dm,.int .u64 (t.ever:Int)]:=((h1.W G).aa z aw).W N;have be:=an.W N;have cn:(back (os.drop (os.length-q)) t.cells).length=t.cells.length:=xy _ _;rw[aD (o:=0) Ψ (E.Qz rfl),aL dh.p 0 P rfl,aO gT.p 0 O rfl,aY gT.p rfl,
   bF (cs:=jq o.c) (o:=0+1) eu.p eu.i rfl (λj u bO=>by
    have:(lC o)[1+j]?=σ u:=by rw[Nat.add_comm];exact bO
    have:=O.cell this;simpa using this),cf rfl ir.u eu.i be Ω]
  refine uZ (f:=jq) (a:=o.c) eu.i be rfl (by intro v ac;simp[jq]at ac;rcases ac with rfl|rfl<;>rfl) Ω λbP aC cp bQ=>?_;have bS:hp Q go:=by
   obtain⟨_,cq,cr,e,_⟩:=Ez ad (by rintro e;rw[am,e]at a8;simp at a8);exact⟨_,_,_,e,rfl⟩
  have bT:∀r,r=go->¬hp bd r:=λr e y=>by subst e;exact(ax r y).1 bS
  refine⟨⟨(bH.W N).aa aC λhe=>by have:=a1 af he;omega,(bI.aa (N.aa λ_=>False) λ_ _ _ h=>h).aa aC λr _=>bT r⟩,⟨(z.F (N.aa _)).F aC,?_⟩,λh=>by cases h⟩;have e:os.drop (os.length-(q+1))=o::os.drop (os.length-q):=by
   rw[show os.length-(q+1)=os.length-1-q by omega,Y8 Ω,show os.length-1-q+1=os.length-q by omega];congr 1;exact(x5.1 ba).2
  rw[e];exact bQ
 .rintro q a7 rfl ⟨z,an⟩;rw[V8,List.drop_zero]at an;intro L B _ _;have bK:=z.size;have z9:=B.size;have E:ai L g1 mF [Γ ag]:=((C.W (H.F G)).aa z a2).W B;have P:ai L ag dh [bd,Q,dm,.int .u64 (t.ever:Int)]:=((h1.W G).aa z aw).W B;have aG:ai L au ee (j7 x):=((aW.W (ay.F ah)).aa z λhe=>by have:=a1 au he;omega).W B;have bU:bn lC 3 gT L go Q t.olds:=((ad.W G).aa z λr y he=>(ax r he).1 y).W B;have bV:bn j7 3 ee L da dm t.marks:=((ae.W G).aa z λr y he=>(ax r he).2 y).W B;have bW:=an.W B;obtain⟨ao,bX,aH,bf⟩:=ru (i:=x.olds) jb.u gT.i bU aE;obtain⟨aI,bg,aJ,bh⟩:=ru (i:=x.cells) ir.u eu.i bW (by rw[xy];exact bp);obtain⟨bi,aK,aM,bj⟩:=ru (i:=m) kj.u ee.i bV Ω;rw[aD (o:=0) Ψ (E.Qz rfl),aD (o:=0) Ψ (E.Qz rfl),aD (o:=0) Ψ (E.Qz rfl),aD (o:=0) Ψ (E.Qz rfl),aL dh.p 1 P rfl,aO ee.p 0 aG rfl,bX,
   aD (o:=0) Ψ (E.Qz rfl),aL dh.p 0 P rfl,aO ee.p 1 aG rfl,bg,
   aD (o:=0) Ψ (E.Qz rfl),aL dh.p 2 P rfl,aK,bR,aY dh.p rfl]
  have aN:∀{u u':x1}{r:Nat},(∀r,hp u' r->hp u r)->¬hp u ag->hp u' r->¬r=ag:=λbY bZ b0 he=>by subst he;exact bZ (bY _ b0)
  have b1:¬au=ag:=λhe=>by have:=h1.lt;omega
  have bk:¬g1=ag:=λhe=>by
   subst he;exact m2 (eJ (C.W H) h1) Φ
  refine bs (o:=0+1) jb.i (dn aH.sl).1 (dn aH.sl).2 P Ξ λS V bM W=>?_;have W:ai S ag dh [bd,ao,dm,.int .u64 (t.ever:Int)]:=W;have aQ:=E.aa V bk;have b2:=aG.aa V b1;refine⟨.inr ⟨Go.Vc.jl λK=>aK S K,Go.Vc.jl λK=>bg S K,kS Ψ (b2.cell (o:=0+1) rfl),Go.Vc.jl λK=>aY ee.p rfl,kS Ψ (aQ.Qz rfl),kS Ψ (aQ.Qz rfl),trivial⟩,?_⟩;rw[bR,aY dh.p rfl];refine bs (o:=0+0) ir.i (dn aJ.sl).1 (dn aJ.sl).2 W Ξ λaB bl ct aR=>?_;have aR:ai aB ag dh [aI,ao,dm,.int .u64 (t.ever:Int)]:=aR;refine⟨.inr ⟨Go.Vc.jl λK=>aK aB K,kS Ψ ((aQ.aa bl bk).Qz rfl),trivial⟩,?_⟩;rw[bR,aY dh.p rfl];refine bs (o:=0+2) kj.i (dn aM.sl).1 (dn aM.sl).2 aR Ξ λX b3 cu O=>?_;have O:ai X ag dh [aI,ao,bi,.int .u64 (t.ever:Int)]:=O;intro bP Y _;have ap:aj (λr=>r=ag) L X:=(V.F bl).F b3;have hu:t.jh m={cells:=(back os t.cells).take x.cells,olds:=t.olds.take x.olds,marks:=t.marks.take m,ever:=t.ever}:=by
   unfold az.jh;rw[hm,am]
  refine⟨rfl,A,⟨?_,λ_ h=>.inl h,λ_ h=>h⟩,?_⟩
  .exact ((bD.aa A).F (z.Y λr _ h=>aV r (.inl h))).F ((B.aa A).F ((ap.Y λr _ h=>by have h:r=ag:=h;rw[h];exact aU).F (Y.aa A)))
  .rw[hu];exact⟨aU,av,go,da,aI,ao,bi,O.W Y,(aJ.aa ap λr y=>aN bh aw y).W Y,(aH.aa ap λr y=>aN bf br y).W Y,(aM.aa ap λr y=>aN bj bt y).W Y,λr y=>aV r (y.imp (bh r) λh=>h.imp (bf r) (bj r))⟩
structure tq(a b:an):Prop where
 off:iR b=iR a
 fn:∀(j:Nat)f,a.d8[j]?=σ f->∃f',b.d8[j]?=σ f'/\f'.sc=f.sc/\f'.am=f.am/\e6 b j=e6 a j
 el:∃l,b.di=a.di++l
theorem nb.zA{s s':an}(h:nb s s'):tq s s':=
 ⟨h.1,λj f ah=>by
  have x:=h.2.1;obtain⟨a,e⟩:∃a,s'.d8[j]?=σ a:=⟨_,x8 (by have:=(x5.1 ah).1;omega)⟩;obtain⟨f0,h1,q,r,w⟩:=h.2.2.1 j a e;rw[ah]at h1;cases h1;exact⟨a,e,q,r,w⟩,[],by rw[h.2.2.2,V2]⟩
theorem tq.d8{a b:an}(h:tq a b):a.d8.length<=b.d8.length:=by
 by_cases e:a.d8.length=0
 .omega
 obtain⟨f,h1,_⟩:=h.fn (a.d8.length-1) _ (x8 Ω);have:=(x5.1 h1).1;omega
section
variable{w:x4}{af ag:Nat}{A R:ak}{n:aI}{s sm:an}{t tm:az}{aw:List az}{m:Nat}
theorem SX(h:bw w af ag A R n s t)(hk:eR t aw)(hm:aw.reverse[m]?=σ tm)(ap:tm.bT=sm.cells)(aR:ba n.k n.d6 sm)(ae:tq sm s):
  aq x7 w6 [Γ af,Δ (m:Int)] w λv I=>v=Δ 0/\aj (eB w) w I/\∃aP,Grow A w aP I/\bw I af ag aP R n sm {tm with ever:=t.ever}:=by
 obtain⟨⟨H,J,bC,aS,au⟩,ac,av,bD,aT⟩:=id h;obtain⟨hu,x,aU,aV,bE,bF,⟨new,ax,bH,aW⟩,aX,bI⟩:=hk.jh hm;obtain⟨bJ,bK,bL⟩:=id av;have ay:(t.jh m).bT=sm.cells:=by rw[hu];exact ap
 obtain⟨⟨a0,_⟩,_,_,_,_,_,_,_,az,_⟩:=id au;refine aF func23 ?_;rw[cT dx.u];simp only[l9,a6];rw[aL ch.p 1 az rfl];obtain⟨bM,aZ,a1⟩:=au.p4;have bN:tm.olds.length<=t.olds.length:=by rw[ax,o4];omega
 refine(SV aZ av aU Ω Ω (λo aE=>by rw[ax,aV,List.drop_left]at aE;exact aW o aE)).Y ?_;rintro _ U _ ⟨rfl,a2,a7,a8⟩;obtain⟨bb,aP,M,bc⟩:=a1 a2 U _ a7 a8;rw[bG,ao];refine⟨λh=>m2 rfl h,λ_=>?_⟩;intro ab N _ _;have bd:=bc.W N;obtain⟨⟨B,C,a3,a4⟩,bh,be,ge,L,E,bf,w0,G,⟨bg,bi,aA⟩,⟨O,bj,P,bk⟩,aB,⟨aC,aD⟩,aG,aH⟩:=id bd;rw[aL ch.p 3 G rfl,aL ch.p 1 G rfl];refine(m4 (i:=1) O rfl (show(t.jh m).bT[1]?=σ (sm.d8.length:Int) by rw[ay];exact QJ sm)).Y ?_;rintro _ bO _ ⟨rfl,Q⟩;refine⟨.inl Q,?_⟩;have aI:sm.d8.length<=L.length:=by rw[aD.1];exact ae.d8
 obtain⟨l,aJ⟩:=ae.el;have aK:sm.di.length<=E.length:=by rw[aH.1,aJ,o4];omega
 obtain⟨K,bl,S,aM⟩:=ru (i:=sm.d8.length) fm.u ec.i aC aI;obtain⟨V,bm,W,aN⟩:=ru (i:=sm.di.length) ox.u gS.i aG aK;rw[bl,bR,aY ch.p rfl];refine bs (o:=0+3) fm.i (dn S.sl).1 (dn S.sl).2 (G.W Q) Ξ λbn bo bP X=>?_;have X:ai bn af ch [Γ H,Γ ag,J,K,aS]:=X;intro bp aO _ _;have Y:=X.W aO;have aQ:aj (λr=>r=af) ab bp:=((Q.aa _).F bo).F (aO.aa _);have bq:=O.aa aQ λr a he=>P (he▸a);rw[aL ch.p 4 Y rfl,aL ch.p 1 Y rfl];refine(m4 (i:=2) bq rfl (show(t.jh m).bT[2]?=σ (sm.di.length:Int) by rw[ay];exact QK sm)).Y ?_;rintro _ bQ _ ⟨rfl,Z⟩;refine⟨.inl Z,?_⟩;rw[bm,bR,aY ch.p rfl];refine bs (o:=0+4) ox.i (dn W.sl).1 (dn W.sl).2 (Y.W Z) Ξ λad br bS ak=>?_;have ak:ai ad af ch [Γ H,Γ ag,J,K,V]:=ak;have q:aj (λr=>r=af) ab ad:=(aQ.F (Z.aa _)).F br;have bU:=q.size;have bt:eZ ad af ag H J K V aP R n sm (t.jh m):=by
  refine⟨⟨B,C,λr a=>by have:=a3 r a;omega,λr a=>by have:=a4 r a;omega⟩,bh,be,ge,L.take sm.d8.length,E.take sm.di.length,bf,w0,ak,⟨bg,s3 bi q λr o a aE he=>C r (he▸B) (aA r o a aE),aA⟩,⟨O.aa q λr a he=>P (he▸a),bj,P,λr a=>bk r (a.imp id λh=>h.imp (aM r) (aN r))⟩,?_,⟨S.aa q λr a he=>?_,?_,λj y f z ah=>?_⟩,W.aa q λr a he=>?_,?_,λj y e z he=>?_⟩
  .rw[<-ae.off];exact bB aB q λr a he=>by cases he;exact cv aB G Φ a rfl
  .cases he;exact cw aC G Φ (aM _ a)
  .rw[j9,Nat.min_eq_left aI]
  .rw[List.getElem?_take]at z;split at z
   .obtain⟨bu,h1,bx,bz,bA⟩:=ae.fn j f ah;obtain⟨al,am,an⟩:=aD.2 j y bu z h1;rw[<-bx,<-bz,<-bA];exact⟨al.aa q λr _ a he=>C r (he▸B) a,am.aa q λr _ a he=>C r (he▸B) a,an⟩
   .cases z
  .cases he;exact cw aG G Φ (aN _ a)
  .rw[j9,Nat.min_eq_left aK]
  .rw[List.getElem?_take]at z;split at z
   .have h1:s.di[j]?=σ e:=by rw[aJ,V3 (x5.1 he).1];exact he
    obtain⟨al,am,an⟩:=aH.2 j y e z h1;exact⟨al,am.aa q λr _ a he=>C r (he▸B) a,an.aa q λr _ a he=>C r (he▸B) a⟩
   .cases z
 refine⟨by trivial,(bb.F (N.aa _)).F (q.Y λr _ he=>he▸ .inl ⟨_,_,az,Φ⟩),aP,⟨(M.1.F (N.aa _)).F (q.Y λr _ he=>he▸a0),M.2.1,M.2.2⟩,⟨H,J,K,V,hu▸bt⟩,ap,⟨?_,?_,?_⟩,aR,aT⟩
 .show tm.cells.length<=_;omega
 .show tm.olds.length<=_;omega
 .show tm.marks.length<=_;rw[aX,j9];omega
end
def SY(s:an):Prop:=∀e∈s.di,e.sc.length<=1000/\e.oO.length<=1000
section
variable{w I:x4}{af ag au da:Nat}{A R O M aJ:ak}{A9:Nat->ak}{k:Int}{d6:Λ}{V:List an}{n:aI}{s u:an}{t:az}{h:List az}{cs:List x1}
structure Ww(w:x4)(au:Nat)(A R:ak)(A9:Nat->ak)(aJ O M:ak):Prop where
 o:∀r,O r->r<w.heap.size/\¬A r/\¬R r/\(∀q,¬A9 q r)/\¬aJ r/\r≠au/\¬M r
 m:∀r,M r->r<w.heap.size/\¬A r/\(∀q,¬A9 q r)/\¬aJ r/\r≠au
theorem cm.side{S:ak}(p:cm w af ag au A R A9 aJ n s u t h cs)(f:aj S w I)(e:∀r,r<w.heap.size->S r->¬A r/\¬R r/\(∀q,¬A9 q r)/\¬aJ r/\r≠au):cm I af ag au A R A9 aJ n s u t h cs:=by
 have z:=f.size;exact⟨⟨p.eK.1.aa f λr a h V=>h.elim (e r a V).1 (e r a V).2.1,p.eK.2⟩,p.fX,p.box.aa f λV=>(e au p.box.lt V).2.2.2.2 rfl,p.doc.aa f λr a h V=>h.elim (λ⟨q,h⟩=>(e r a V).2.2.1 q h) (e r a V).2.2.2.1,p.apart,
  λr a=>⟨λh=>(p.read r a).1 (oS (λo aE V _=>f.bb r o aE V λj=>(e r (p.read r a).2.1 j).2.2.2.1 a) h),by have:=(p.read r a).2.1;omega,(p.read r a).2.2⟩,p.out⟩
theorem cm.Gw(p:cm w af ag au A R A9 aJ n s u t h cs):∀q r,A9 q r->¬aJ r:=by
 obtain⟨_,_,_,_,_,_,_,_,_,_,_,_,_,a⟩:=p.doc;exact(a rfl).2
end
theorem Gx{w0:x4}{out:x1}{g:Nat}{x:Int}{K:x1->x4->Prop}(e:Ext w0 w)(hm:aH .i64 al w g out l)(f:∀r,hv out r->w0.heap.size<=r)(G:l.length<=1000000000)(q:∀v I s,Ext w0 I->aH .i64 al I s v (l++[x])->(∀r,hv v r->w0.heap.size<=r)->K v I):
  aM x7 (Y3 av 1 #[(0,Δ x)]) w λy U=>aM x7 (c9 #[av,av] av #[out,y]) U K:=by
 refine eI av.u al.i rfl λv4 H J L a A=>?_;refine iF av.u al.i rfl (hm.W a) A.ls Θ Θ λv5 B M C E F=>?_;have z:=(e.F a).size;exact q _ _ B ((e.F a).then F λr j he=>by have:=f r he;omega) C λr j=>(E r j).elim (f r) λh=>Ω
theorem qm(x:bA):(aB x).length<=x.un.length:=by
 unfold aB;have:=List.length_filter_le (λv:Int=>!dropped x.mask v) ((X2 x.un.length).map λv:Nat=>(v:Int));rw[u9,List.length_range]at this;exact this
section
variable{w:x4}{af ag:Nat}{A R:ak}{n:aI}{s:an}{t:az}
end
theorem wc{out:x1}{g:Nat}{x:Int}{K:x1->x4->Prop}(hm:aH .i64 ax w g out l)(E:l.length<=1000000000000)(e:∀v I f,aj (λr=>hv out r) w I->aH .i64 ax I f v (l++[x])->(∀r,hv v r->hv out r\/w.heap.size<=r)->K v I):
  aM x7 (Y3 aC 1 #[(0,Δ x)]) w λy U=>aM x7 (c9 #[aC,aC] aC #[out,y]) U K:=by
 refine eI aC.u ax.i rfl λv4 F G H a j=>?_;refine iF aC.u ax.i rfl (hm.W a) j.ls Θ Θ λv5 q J s A B=>?_;have z:=a.size;exact e _ _ q ((a.aa _).F B) s λr C=>(A r C).imp id λh=>Ω
def pa(l:Λ):Λ:=(l.length:Int)::l
def qn(w:x4)(out v:x1)(l:Λ)(I:x4):Prop:=aj (λr=>hv out r) w I/\(∃g,aH .i64 ax I g v l)/\∀r,hv v r->hv out r\/w.heap.size<=r
theorem qn.F{o v u:x1}{fS:Λ}(h:qn w o v l U)(k:qn U v u fS ab):qn w o u fS ab:=by
 obtain⟨h1,_,e⟩:=h;obtain⟨f,q,s⟩:=k;have z:=h1.size;have y:=f.size;exact⟨⟨Ω,λr x a V j=>f.bb r x (h1.bb r x a V j) V λh=>(e r h).elim j λh=>by have:=(Z6.1 a).1;omega⟩,q,λr a=>(s r a).elim (e r) λh=>.inr Ω⟩
theorem Gy{k f:o5}{a:r8}{g:Nat}{v u:x1}{fS:Λ}(h:aH k e w g v l)(bg:aH f a w j u fS)(he:e≠a)(q:aj (λr=>hv u r) w I):aH k e I g v l:=bB h q λr s hu=>by
 obtain⟨z,x⟩:=s8 h r s;obtain⟨A,y⟩:=s8 bg r hu;exact he (eJ x y)
theorem SZ{k:o5}{a:r8}{g b:Nat}{u:x1}(f:ai w b a cs)(h:aH k e w g u l)(he:e≠a)(j:aj (λr=>hv u r) w I):ai I b a cs:=f.aa j λhu=>by
 obtain⟨s,q⟩:=s8 h b hu;exact he (eJ q f)
theorem we{out cQ:x1}{g f:Nat}{o:Λ}(hm:aH .i64 ax w g out o)(h:aH .i64 al w f cQ l)(M:o.length+l.length<=100000000000):aq x7 I3 [out,cQ] w λv I=>qn w out v (o++pa l) I:=by
 refine aF func47 ?_;rw[a7 av.u h.ls];refine wc hm Ω λz U g1 j A B=>?_;have q:=Gy h hm Φ j;have C:qn w out z (o++[(l.length:Int)]) U:=⟨j,⟨g1,A⟩,B⟩;rw[a7 av.u q.ls];refine cb.range l.length (λi a ab=>qn w out a (o++(l.length:Int)::l.take i) ab/\aH .i64 al ab f cQ l) Ω ⟨by rw[List.take_zero];exact C,q⟩ ?_ ?_
 .rintro i a ab E hi ⟨e,r⟩ G;obtain⟨x,J⟩:=aK (l:=l) hi;obtain⟨_,⟨N,s⟩,_⟩:=id e;refine bM Ω ?_;rw[bm av.u al.i Ψ r.ls J];refine wc s (by rw[o4,X5,j9];omega) λv3 O H y K L=>?_;rw[aR];refine G _ _ ⟨e.F ⟨y,⟨H,?_⟩,L⟩,Gy r s Φ y⟩;rw[u7,J];simpa using K
 .rintro a ab E ⟨e,_⟩;refine cc Ω ?_;rw[o6]at e;exact e
def fH(s:an)(sc t:Λ):Bool:=(sc.zip t).all λp=>match s.d7[p.1.toNat]? with
 |some x=>decide (p.2∈aB x)
 |none=>ne
section
variable{w:x4}{af ag:Nat}{A R:ak}{n:aI}{s:an}{t:az}
theorem Ta{ho aV:x1}{at_:Int}(h:bw w af ag A R n s t)(f:aQ .i64 w aZ sc)(N:aQ .i64 w ho am)(ac:∀v∈sc,0<=v/\v<n.d6.length)(O:aQ .i64 w aV tl)(an:tl.length=sc.length):
  aq x7 I7 [Γ af,.agg #[aZ,ho,Δ at_],aV] w λr I=>r= .bool (fH s sc tl)/\Ext w I:=by
 have ap:=h.2.2.2.1.d7;refine aF func51 ?_;refine bo λg1 U au K j=>?_;have j:ai U g1 ec [aZ,ho,Δ at_]:=by
  obtain⟨_,_,_,P⟩:=dA f;obtain⟨_,_,_,Q⟩:=dA N;rw[P,Q]at j ⊢;exact j
 rw[aO ec.p 0 j rfl,a7 av.u (f.W K)];refine cb.range sc.length (λi _ ab=>Ext w ab/\fH s (sc.take i) (tl.take i)=ms) f.le ⟨K,rfl⟩ ?_ ?_
 .rintro i S ab V hi ⟨z,a⟩ W;obtain⟨v,B⟩:=aK (l:=sc) hi;obtain⟨y,E⟩:=aK (l:=tl) (i:=i) Ω;have L:=ac v (x6 B);obtain⟨x,J⟩:=aK (l:=s.d7) (i:=v.toNat) Ω;refine bM Ω ?_;rw[bm av.u al.i Ψ (f.W z) B];intro aw X _ _;have C:=z.F X;refine mN rfl av.u al.i (O.W C) E λb o Y=>?_;rw[aD Ψ Y];refine(iW (i:=v) (h.W C)).Y ?_;rintro _ ax _ ⟨⟨b,m,rfl,G⟩,H⟩;refine⟨.inl H,?_⟩;refine(yX G.1).Y ?_;rintro _ ay _ ⟨rfl,M⟩;obtain⟨hm,Z⟩:=G.2.2 x L.1 J;have az:=kC G L.1 J;have aa:(decide (0<=y/\y<(m:Int))&&b.testBit y.toNat)=decide (y∈aB x):=by
   rw[Z,hm];by_cases e:0<=y/\y<(x.un.length:Int)
   .rw[m3 e,T0,m3 Ω,T0,Int.toNat_of_nonneg e.1];have:=FL e;rw[U1,m6];simpa using this.symm
   .rw[m5 e,Bool.false_and];symm;refine m5 λhm=>e ?_;unfold aB at hm;obtain⟨h1,_⟩:=T6.1 hm;obtain⟨q,ad,rfl⟩:=o9.1 h1;have:=List.mem_range.1 ad;omega
  have ae:(sc.take (i+1)).zip (tl.take (i+1))=(sc.take i).zip (tl.take i)++[(v,y)]:=by
   rw[u7,u7,B,E,o8,o8,List.zip_append Θ];rfl
  have aj:fH s (sc.take (i+1)) (tl.take (i+1))=decide (y∈aB x):=by
   unfold fH at a ⊢;rw[ae,List.all_append,a,T0];simp[J]
  rw[aa,bE,b1];refine⟨λah=>?_,λah=>?_⟩
  .refine⟨?_,(C.F H).F M⟩;congr 1;symm;have ak:(v,y)∈sc.zip tl:=x6 (List.getElem?_zip_eq_some.2 ⟨B,E⟩);unfold fH;rw[List.all_eq_false];exact⟨_,ak,by simp only[J];simpa using ah⟩
  .rw[aR];exact W _ _ ⟨(C.F H).F M,by rw[aj];simpa using ah⟩
 .rintro S ab V ⟨z,a⟩;rw[aW,ao];refine⟨λh=>Ω,λ_=>⟨?_,z⟩⟩;rw[o6,j4 Ω]at a;rw[a]
end
def k1(x:bA):Λ:=if x.gone≠0 then[]else(aB x).map λv=>x.un.getD v.toNat 0
def mo(x:bA):Λ:=[x.gone]++pa (aB x)++k1 x
def k2(s:an)(f:bI):Λ:=if f.live≠0 then pa f.sc++((bq f.am).filter (fH s f.sc)).map (bt f.am f.cs)else[]
def n8(e:vx):Λ:=[-1,e.v]++pa e.sc++pa e.oO
def rv(s:an):Λ:=[s.zero]++s.d7.flatMap mo++s.d8.flatMap (k2 s)++s.di.flatMap n8
theorem rx(l:Λ):(pa l).length=l.length+1:=rfl
def ju(w I:x4)(af g1 go:Nat)(l:Λ):Prop:=Ext w I/\ai I g1 dx [Γ af]/\∃v g,ai I go aC [v]/\aH .i64 ax I g v l/\∀r,hv v r->w.heap.size<=r
section
variable{w U ab:x4}{af ag g1 go:Nat}{A R:ak}{n:aI}{s:an}{t:az}{l fS:Λ}
theorem ju.W(h:ju w U af g1 go l)(J:Ext U ab):ju w ab af g1 go l:=by
 obtain⟨h1,a,v,g,e,f,j⟩:=h;exact⟨h1.F J,a.W J,v,g,e.W J,f.W J,j⟩
theorem ju.put{v u:x1}{g:Nat}{K:Unit->x4->Prop}(J:Ext w U)(y:w.heap.size<=go)(f:ai U g1 dx [Γ af])(e:ai U go aC [u])(hm:aH .i64 ax U g v l)(j:∀r,hv v r->w.heap.size<=r)(q:∀ab,aj (λr=>r=go) U ab->ju w ab af g1 go l->K () ab):aM x7 (o7 aC (Γ go) v) U K:=by
 have h:=hm.ls.cells;refine bs (g:=go) (o:=0) aC.i h.1 h.2 e Ξ λab a z s=>q ab a ⟨J.then a Ω,f.aa a λhe=>?_,v,g,s,bB hm a λr x he=>?_,j⟩
 .have he:=he;subst he;exact m2 (eJ f e) Φ
 .have he:r=go:=he;subst he;obtain⟨c,b⟩:=s8 hm r x;exact m2 (eJ b e) Φ
theorem side{v:x1}{g b:Nat}(a:ai U b e cs)(hm:aH .i64 ax U g v l)(he:ax≠e)(f:aj (λr=>hv v r) U ab):ai ab b e cs:=SZ a hm he f
theorem tr{u:x1}{b:Nat}(a:ai U b e cs)(h:ai U go aC [u])(he:aC≠e)(f:aj (λr=>r=go) U ab):ai ab b e cs:=a.aa f (by grind [eJ])
end
theorem ll{α β:Type}{f:α->List β}{L:List α}{b:Nat}(h:∀a∈L,(f a).length<=b):(L.flatMap f).length<=L.length*b:=by
 induction L with
 |nil=>simp
 |cons a L e=>
  rw[U2,o4,X5,T4,Nat.one_mul];have:=h a Ξ;have:=e λa j=>h a (by simp[j]);omega
section
variable{w:x4}{af ag:Nat}{A R:ak}{n:aI}{s:an}{t:az}
theorem Tb(a:ba k d6 s):∀x∈s.d7,(mo x).length<=66:=λx J=>by
 obtain⟨i,hi⟩:=Y4.1 J;have e:=a.d7;have f:=(x5.1 hi).1;obtain⟨h,_⟩:=a.var i x _ hi (x8 Ω);have j:=a.fg.2.2 _ (T9 (n:=i) Ω);have:=qm x;have hu:(k1 x).length<=(aB x).length:=by unfold k1;split<;>simp
 unfold mo;rw[o4,o4,rx];simp;omega
theorem Tc(e:ba k d6 s):∀f∈s.d8,(k2 s f).length<=4103:=λf ah=>by
 obtain⟨a,h,_⟩:=e.d8 f ah;have q:dN f.am:=by rw[h];exact oN e.fg.2.2 λv ac=>⟨(a.scope.1 v ac).1,a.d7 v ac⟩
 have h1:=jg q;have r:aX f.am<=4096:=by rw[h];exact a.small
 have w:=List.length_filter_le (fH s f.sc) (bq f.am);have j:=a.scope.2;have j:f.sc.length<=6:=j;unfold k2;split
 .rw[o4,rx,u9];omega
 .simp
theorem Gz(h:bw w af ag A R n s t)(b0:Laid w)(B:SY s)(fK:s.d8.length<=100000)(fL:s.di.length<=100000):aq x7 w4 [Γ af] w λv I=>Ext w I/\∃g,aH .i64 ax I g v (rv s)/\∀r,hv v r->w.heap.size<=r:=by
 have ab:=h.2.2.2.1;have fM:=ab.d7;have fN:=ab.fg.2.1;have c0:=Tb ab;have c1:=Tc ab;obtain⟨⟨fP,fQ,fR,fS,ee⟩,_⟩:=id h;obtain⟨_,_,_,_,b2,c2,_,_,c3,_,_,_,⟨b3,c4⟩,b4,c5⟩:=id ee;have fU:b2.length=s.d8.length:=c4.1;have fV:=c5.1;refine iM func19 ?_;refine bo λg1 U fW b7 a7=>?_;have a7:=a7;rw[aD Ψ (a7.cell rfl),cT dx.u];simp only[l9,a6];rw[aD Ψ (a7.cell rfl)];refine(tb (h.W b7)).Y ?_;rintro _ fX _ ⟨rfl,c6⟩;refine eI aC.u ax.i rfl λv4 fY fZ gb c7 c8=>?_;refine bC aC.i λgo gc aM c9 N=>?_;have gd:=b7.size;have z3:=c6.size;have z4:=c7.size;have br:=(c6.F c7).F c9;have N:=N;refine ju.put (b7.F br) Ω (a7.W br) N (c8.W c9) (λr z=>by obtain⟨e,_⟩:=b5 c8 z;omega) λgf gg b9=>?_;rw[aD Ψ (b9.2.1.cell rfl)];refine(yZ (h.W b9.1)).Y ?_;rintro _ gh _ ⟨rfl,ef⟩;have aM:w.heap.size<=go:=Ω
 refine b6.range n.d6.length (λi ca=>ju w ca af g1 go ([s.zero]++(s.d7.take i).flatMap mo)) Ω (by rw[List.take_zero,List.flatMap_nil,V2];exact b9.W ef) ?_ ?_
 .rintro i ca eg hi Q eh;obtain⟨x,ap⟩:=aK (l:=s.d7) (i:=i) Ω;have a8:([s.zero]++(s.d7.take i).flatMap mo).length<=100000:=by
   have:=ll (L:=s.d7.take i) (b:=66) λa ba=>c0 a (S4 ba);rw[j9]at this;rw[o4];have O:min i s.d7.length*66<=64*66:=X6 _ Ω;simp only[S1];omega
  generalize bb:[s.zero]++(s.d7.take i).flatMap mo=aj at Q a8;have bc:[s.zero]++(s.d7.take (i+1)).flatMap mo=aj++mo x:=by
   rw[<-bb,u7,ap,o8,List.flatMap_append,List.flatMap_singleton,X7]
  refine bM Ω ?_;refine bC al.i λbd ei gi ej cb=>?_;have cb:ai ei bd al [Δ 0]:=cb;refine bs (g:=bd) (o:=0) al.i rfl rfl cb Ξ λgj ek gk cd=>?_;have cd:=cd;have em:=ej.put ek Ω;intro gl da _ _;have ce:=cd.W da;obtain⟨ak,bu,v,g,N,hm,au⟩:=Q.W (em.F da);obtain⟨gm,gn,gp,gq,bh,gu,L,gv,db,gw,en,eo,gx,gA⟩:=(h.W ak).1.parts;have M:∀{P:x4}{K:x1->Prop},ai P g1 dx [Γ af]->K (Γ af)->ad x7 (u4 dx (Γ g1)) P K:=λB ay=>by
   rw[aD Ψ (B.cell rfl)];exact ay
  have be:∀{P:x4}{K:x1->Prop},ai P bd al [Δ (i:Int)]->K (Δ (i:Int))->ad x7 (u4 al (Γ bd)) P K:=λB ay=>by
   rw[aD Ψ (B.cell rfl)];exact ay
  rw[aD Ψ (N.Qz rfl)];refine M bu ?_;rw[aL ch.p 1 db rfl];refine M bu ?_;rw[aL ch.p 2 db rfl];refine be ce ?_;rw[fO (y:=(i:Int)) (i:=i) rfl av.u al.i Ψ eo.ls (s9 Ω)];refine M bu (be ce ?_);have bA:t.bT[ic s i+0]?=σ x.gone:=by rw[h.2.1,ri ap Ω];rfl
  refine(m4 en rfl bA).Y ?_;rintro _ gB _ ⟨rfl,cj⟩;refine⟨.inl cj,?_⟩;refine eI aC.u ax.i rfl λgC gE gF gH dc ep=>?_;refine⟨.inl (cj.F dc),?_⟩;have aN:=cj.F dc;have S:=hm.W aN;refine iF aC.u ax.i rfl S ep.ls Θ Θ λck er es W cl X=>?_;have et:=ak.size;have gI:=aN.size;have bf:∀r,hv ck r->w.heap.size<=r:=λr z=>(cl r z).elim (au r) λh=>Ω
  have an:=(ak.F aN).then X λr z he=>by have:=au r he;omega
  have dd:=side (ce.W aN) S Φ X;have bB:=side (bu.W aN) S Φ X;have cm:=side (N.W aN) S Φ X;refine⟨.inr ⟨kS Ψ (dd.cell rfl),kS Ψ (bB.cell rfl),trivial⟩,?_⟩;refine(iW (i:=(i:Int)) (h.W an)).Y ?_;rintro _ gJ _ ⟨⟨gK,gL,rfl,de⟩,br⟩;refine l3.Y ?_;rintro _ df _ ⟨eu,dg,rfl,gM,cn⟩;have dh:=kC de Ω (by rw[u5];exact ap);have dj:=br.F eu;have gN:=qm x;have gO:=(ab.var i x _ ap (x8 hi)).1;have gP:=ab.fg.2.2 _ (T9 hi);refine(Eo (L:=aB x) (l2 (g:=dg) de.1) (λk vs w hk=>by
    obtain⟨v,ac,rfl⟩:=hk;exact⟨v,by rw[<-dh,v8,ac];rfl,rfl⟩) (λa b bA ae=>⟨ae.1.aa bA λh=>by have:=cn.lt;have h:df.heap.size<=dg:=h;omega,iu bA (λh=>by have h:df.heap.size<=0:=h;have:=cn.lt;omega) ae.2⟩) ⟨cn,b0.W (an.F dj)⟩ (by rw[<-dh,u9]) Ω).Y ?_
  rintro gQ gR _ ⟨ev,gT,_,ew⟩;have Y:=dj.F ev;refine(we (W.W Y) ew Θ).Y ?_;rintro bD cp _ ⟨C,⟨dk,az⟩,bg⟩;have ey:=an.size;have gU:=Y.size;have bG:∀r,hv bD r->w.heap.size<=r:=λr z=>(bg r z).elim (bf r) λh=>Ω
  have aE:=(an.F Y).then C λr z he=>by have:=bf r he;omega
  have ez:=side (dd.W Y) (W.W Y) Φ C;have cq:=side (bB.W Y) (W.W Y) Φ C;have bH:=side (cm.W Y) (W.W Y) Φ C;refine ju.put aE aM cq bH az bG λcr aF bi=>?_;have dm:=tr ez bH Φ aF;refine M bi.2.1 (be dm ?_);refine(iW (i:=(i:Int)) (h.W bi.1)).Y ?_;rintro _ eA _ ⟨⟨eB,eD,rfl,dn⟩,eE⟩;refine l3.Y ?_;rintro _ gV _ ⟨eF,dq,rfl,eH,eJ⟩;have dr:=eE.F eF;have ds:=kC dn Ω (by rw[u5];exact ap);have dt:=bi.W dr;let du:=aj++[x.gone]++pa (aB x);refine ki.old ⟨Nat,ne,jy,#[Γ dq],_,_,_,_,λq I=>ju w I af g1 go (du++(k1 x).take q)/\ai I bd al [Δ (i:Int)],λ_ _ _=>False,rfl,(l2 (g:=dq) dn.1).s,?_,
   λ_ _ J h=>⟨h.1.W J,h.2.W J⟩,λ_ _ _ J h=>⟨h.1.W J,h.2.W J⟩,λ_ _ _ _ _ h=>h,⟨eJ,b0.W dt.1⟩,⟨by rw[List.take_zero,V2];exact dt,dm.W dr⟩,?_,?_,λ_ _ h=>h.elim,λ_ _ _ h=>h.elim⟩
  .rintro _ _ _ _ ⟨_,_,_,_,rfl⟩;rfl
  .rintro _ q _ dv ⟨dw,eK⟩ ⟨bI,rfl,y,bJ,eM⟩ ⟨bK,ct⟩;cases eM;intro gW cu _ _;have cw:=bK.W cu;have cz:=ct.W cu;have dy:(aB x)[q]?=σ (y:Int):=by rw[<-ds,v8,bJ];rfl
   have dz:=x6 dy;have gX:0<=(y:Int)/\(y:Int)<x.un.length:=by
    unfold aB at dz;obtain⟨h1,_⟩:=T6.1 dz;obtain⟨j,aG,e⟩:=o9.1 h1;have:=List.mem_range.1 aG;omega
   refine M cw.2.1 (be cz ?_);refine(qb (h.W cw.1)).Y ?_;rintro _ gY _ ⟨rfl,bN⟩;have eN:eC n i y:=⟨Ω,Ω,Ω,by rw[u5,p8,x8 hi,Option.getD_some];omega⟩;have eO:fx s (i:Int).toNat (y:Int).toNat=x.un.getD y 0:=by
    rw[u5,u5];unfold fx;rw[ap]
   have bj:=cw.W bN;rw[lw eN,eO,bx,bz];refine M bj.2.1 (be (cz.W bN) ?_);refine(tc (h.W bj.1)).Y ?_;rintro _ gZ _ ⟨rfl,bO⟩;have eP:(decide (0<=(i:Int))&&dp s (i:Int).toNat)=decide (x.gone≠0):=by
    rw[m3 Ω,T0,u5];unfold dp;rw[ap]
   have bP:=(cu.F bN).F bO;rw[eP,bE,b1];refine⟨λaI=>?_,λaI=>?_⟩
   .have aP:¬x.gone≠0:=by simpa using aI
    obtain⟨bk,cA,v5,eQ,ao,E,bl⟩:=bj.W bO;rw[aD Ψ (ao.cell rfl)];have eR:((k1 x).take q).length<=100:=by rw[j9];unfold k1;rw[m1 aP,u9];omega
    refine wc E (by simp only[du,o4,rx,S1];omega) λeS eU eV G cB cC=>?_;have eW:=bk.size;have cD:=bk.then G λr z he=>by have:=bl r he;omega
    refine ju.put (g1:=g1) cD aM (side cA E Φ G) (side ao E Φ G) cB (λr z=>(cC r z).elim (bl r) λh=>Ω) λcE bQ aQ=>?_;have eX:=tr (side ((cz.W bN).W bO) E Φ G) (side ao E Φ G) Φ bQ;have cF:=eH;have eY:∀{b:Nat}{e:r8}{cs:List x1},ai dv b e cs->ax≠e->aC≠e->ai cE b e cs:=λB h1 O=>tr (side (B.W bP) E h1 G) (side ao E Φ G) O bQ;refine⟨⟨eY dw Φ Φ,b0.W aQ.1⟩,⟨?_,eX⟩,λh=>by cases h⟩;rw[u7,show(k1 x)[q]?=σ (x.un.getD y 0) by unfold k1;rw[m1 aP,v8,dy];rfl,o8,<-X7];exact aQ
   .have aP:x.gone≠0:=by simpa using aI
    refine⟨⟨dw.W bP,eK.W bP⟩,⟨?_,ct.W bP⟩,λh=>by cases h⟩;have e:k1 x=[]:=by unfold k1;rw[lw aP]
    rw[e,List.take_nil]at bj ⊢;exact bj.W bO
  .rintro q dv rfl ⟨bK,ct⟩;rw[aR];refine eh _ ?_;rw[bc];have:(k1 x).take (gD eB eD).length=k1 x:=j4 (by
    unfold k1;split
    .simp
    .rw[u9,<-ds,u9];exact p9 _)
   rw[this]at bK;unfold mo;rw[<-X7,<-X7];exact bK
 .rintro ca eg Q;refine cc Ω ?_;rw[j4 Ω]at Q;have eZ:([s.zero]++s.d7.flatMap mo).length<=100000:=by
   have:=ll c0;have O:s.d7.length*66<=64*66:=X6 _ Ω;rw[o4];simp only[S1];omega
  have M:∀{P:x4}{K:x1->Prop},ai P g1 dx [Γ af]->K (Γ af)->ad x7 (u4 dx (Γ g1)) P K:=λB ay=>by
   rw[aD Ψ (B.Qz rfl)];exact ay
  refine M Q.2.1 ?_;rw[aL ch.p 3 (c3.W Q.1) rfl,dO fm.u (b3.W Q.1)];unfold rv;generalize[s.zero]++s.d7.flatMap mo=cQ at Q eZ;refine b6.range b2.length (λj cG=>ju w cG af g1 go (cQ++(s.d8.take j).flatMap (k2 s))) Ω (by rw[List.take_zero,List.flatMap_nil,V2];exact Q) ?_ ?_
  .rintro j cG e0 aG H e1;obtain⟨f,ah⟩:=aK (l:=s.d8) (i:=j) Ω;obtain⟨y,bJ⟩:=aK (l:=b2) aG;obtain⟨⟨⟨bW,aS⟩,_⟩,e2,_⟩:=c4.2 j y f bJ ah;have bR:=e2.ls;obtain⟨aT,cH,_⟩:=ab.d8 f (x6 ah);have bS:dN f.am:=by rw[cH];exact oN ab.fg.2.2 λv ac=>⟨(aT.scope.1 v ac).1,aT.d7 v ac⟩
   have g0:f.sc.length<=6:=aT.scope.2;have e3:f.am.length=f.sc.length:=by rw[cH];unfold ci;rw[u9]
   have e4:cg f.am:=⟨Ω,bS⟩;have g2:=jg bS;have g3:aX f.am<=4096:=by rw[cH];exact aT.small
   have a8:(cQ++(s.d8.take j).flatMap (k2 s)).length<=1000000000:=by
    have:=ll (L:=s.d8.take j) (b:=4103) λa ba=>c1 a (S4 ba);rw[j9]at this;have O:min j s.d8.length*4103<=100000*4103:=X6 _ Ω;rw[o4];omega
   generalize bb:cQ++(s.d8.take j).flatMap (k2 s)=aj at H a8;have bc:cQ++(s.d8.take (j+1)).flatMap (k2 s)=aj++k2 s f:=by
    rw[<-bb,u7,ah,o8,List.flatMap_append,List.flatMap_singleton,X7]
   refine bM Ω ?_;refine cZ (λdA=>ju w dA af g1 go (aj++k2 s f)) (λdA e5=>by rw[aR];exact e1 _ (by rw[bc];exact e5)) λaA dC=>?_;rw[cf rfl fm.u ec.i (b3.W H.1) aG,bF ec.p ec.i rfl ((b3.W H.1).range bJ)];refine bC al.i λaU dD g4 bU aW=>?_;have aW:ai dD aU al [Δ 0]:=aW;refine bC ec.i λe6 e7 g5 dE dF=>?_;refine bs (g:=aU) (o:=0) al.i rfl rfl (aW.W dE) Ξ λe8 dG g6 cI=>?_;have cI:=cI;have g7:=bU.size;have g8:=aW.lt;have cJ:=(aS.W H.1).ls;have e9:=bR.W H.1;refine b8 (vs:=oQ y) ec.i rfl rfl (by intro u hu;simp[oQ]at hu;rcases hu with rfl|rfl|rfl<;>first|rfl|exact cJ.cells.2|exact e9.cells.2) (dF.aa dG λhe=>by have he:=he;omega) λfa dH g9 fb=>?_;have dI:=cI.aa dH λhe=>by have he:=he;omega
   have fc:=((bU.F dE).then dG λr z he=>by have he:r=aU:=he;omega).put dH Ω;have cK:=H.W fc;have dJ:∀{P:x4}{K:x1->Prop},ai P aU al [Δ (j:Int)]->K (Δ (j:Int))->ad x7 (u4 al (Γ aU)) P K:=λB ay=>by
    rw[aD Ψ (B.cell rfl)];exact ay
   refine M cK.2.1 (dJ dI ?_);refine(rp (h.W cK.1)).Y ?_;rintro _ fd _ ⟨rfl,bm⟩;have dK:=cK.W bm;have fe:(decide (0<=(j:Int))&&eL s (j:Int).toNat)=decide (f.live≠0):=by
    rw[m3 Ω,T0,u5];unfold eL;rw[ah]
   rw[fe,bE,b1];refine⟨λaI=>dC _ ?_,λaI=>?_⟩
   .have aP:¬f.live≠0:=by simpa using aI
    unfold k2;rw[m1 aP,V2];exact dK
   have cF:f.live≠0:=by simpa using aI
   obtain⟨cL,ff,ha,ge,cM,bn,dL⟩:=id dK;have fh:=dI.W bm;have dM:=fb.W bm;rw[aD Ψ (cM.Qz rfl),aO ec.p 0 dM rfl];refine(we bn (aS.W cL) Ω).Y ?_;rintro bD cp _ ⟨C,⟨dk,az⟩,bg⟩;have hb:=cL.size;have aE:Ext w cp:=cL.then C λr z he=>by have:=dL r he;omega
   refine ju.put (w:=w) (g1:=g1) aE aM (side ff bn Φ C) (side cM bn Φ C) az (λr z=>(bg r z).elim (dL r) λh=>Ω) λcr aF bi=>?_;have dP:∀{b:Nat}{e:r8}{cs:List x1},ai fd b e cs->ax≠e->aC≠e->ai cr b e cs:=λB h1 O=>tr (side B bn h1 C) (side cM bn Φ C) O aF;have fi:=dP fh Φ Φ;have dQ:=dP dM Φ Φ;rw[aY ec.p rfl,bF (cs:=[y.ho]) bL.p bL.i rfl (λq u bI=>by
    cases q with
    |zero=>cases bI;exact dQ.cell (o:=0+1) rfl
    |succ q=>simp at bI)]
   refine uR.Y ?_;rintro _ hc _ ⟨cN,dR,rfl,hd,fj⟩;have cO:=bi.W cN;have fk:=uQ (g:=dR) (B0:=w.heap.size) (sv:=y.ho) e4;refine oq.old ⟨Nat,ne,mD,#[Γ dR],_,_,_,_,λq I=>ju w I af g1 go (aj++pa f.sc++(((bq f.am).take q).filter (fH s f.sc)).map (bt f.am f.cs))/\ai I aU al [Δ (j:Int)]/\ai I e6 ec [y.aZ,y.ho,Δ (y.at_:Int)],λ_ _ _=>False,rfl,fk.s,
    ?_,λ_ _ J h=>⟨h.1.W J,h.2.1.W J,Y7 h.2.2 J.size⟩,λ_ _ _ J h=>⟨h.1.W J,h.2.1.W J,h.2.2.W J⟩,λ_ _ _ _ _ h=>h,⟨fj,bR.W cO.1,cO.1.size⟩,⟨by rw[List.take_zero,List.filter_nil,List.map_nil,V2];exact cO,fi.W cN,dQ.W cN⟩,?_,?_,λ_ _ h=>h.elim,λ_ _ _ h=>h.elim⟩
   .rintro _ _ _ _ ⟨_,_,_,_,rfl,_⟩;rfl
   .rintro _ aV q _ dS ⟨dT,fo,fp⟩ ⟨bI,rfl,hg,gt,fq,hh,dU⟩ ⟨bV,cP,cR⟩;cases fq;have bX:(bq f.am)[q]?=σ (dl f.am (q:Int)):=qZ bS Ω;generalize dl f.am (q:Int)=tl at bX dU;intro hj bY _ _;have cS:=bV.W bY;have dV:=(dU.W bY).ls;refine M cS.2.1 (dJ (cP.W bY) ?_);refine(vH (h.W cS.1) dV).Y ?_;rintro _ hl _ ⟨rfl,cU⟩;have fs:=kt bS bX;have ft:(ig s j tl).isSome=ms:=by unfold ig;rw[ah];simp only;rw[lw cF,fs];rfl
    have fu:mh s j tl=bt f.am f.cs tl:=by unfold mh;rw[ah]
    have bp:=cS.W cU;rw[lw ft,fu,bx,bz];refine M bp.2.1 ?_;have dW:=bY.F cU;rw[bF ec.p ec.i rfl (cR.W dW).range];refine(Ta (h.W bp.1) ((aS.W bp.1).ls) (bR.W bp.1) (λv ac=>⟨(aT.scope.1 v ac).1,aT.d7 v ac⟩) (dV.W cU) (by rw[ut bX,e3])).Y ?_;rintro _ hn _ ⟨rfl,dX⟩;have dY:=bp.W dX;have a1:=dW.F dX;have dZ:((bq f.am).take (q+1)).filter (fH s f.sc)=((bq f.am).take q).filter (fH s f.sc)++(if fH s f.sc tl=ms then[tl]else[]):=by
     rw[u7,bX,o8,List.filter_append];congr 1;cases aw:fH s f.sc tl<;>simp[aw]
    rw[b1];refine⟨λcV=>?_,λcV=>?_⟩
    .obtain⟨bk,cA,v5,eQ,ao,E,bl⟩:=dY;rw[aD Ψ (ao.cell rfl)];have eR:(((bq f.am).take q).filter (fH s f.sc)).length<=4096:=by
      have:=List.length_filter_le (fH s f.sc) ((bq f.am).take q);rw[j9]at this;omega
     refine wc E (by simp only[o4,rx,u9];omega) λeS eU eV G cB cC=>?_;have eW:=bk.size;have cD:=bk.then G λr z he=>by have:=bl r he;omega
     refine ju.put cD aM (side cA E Φ G) (side ao E Φ G) cB (λr z=>(cC r z).elim (bl r) λh=>Ω) λcE bQ aQ=>?_;have cW:∀{b:Nat}{e:r8}{cs:List x1},ai dS b e cs->ax≠e->aC≠e->ai cE b e cs:=λB h1 O=>tr (side (B.W a1) E h1 G) (side ao E Φ G) O bQ;refine⟨⟨cW dT Φ Φ,bR.W aQ.1,aQ.1.size⟩,⟨?_,cW cP Φ Φ,cW cR Φ Φ⟩,λh=>by cases h⟩;rw[dZ,lw cV,Z2,List.map_singleton,<-X7];exact aQ
    .refine⟨⟨dT.W a1,fo.W a1,Y7 fp a1.size⟩,⟨?_,cP.W a1,cR.W a1⟩,λh=>by cases h⟩;rw[dZ,m1 (by rw[cV];decide),V2];exact dY
   .rintro q dS rfl ⟨bV,_⟩;refine dC _ ?_;rw[j4 Ω]at bV;unfold k2;rw[lw cF,<-X7];exact bV
  .rintro cG e0 H;refine cc Ω ?_;rw[j4 Ω]at H;have fv:(cQ++s.d8.flatMap (k2 s)).length<=1000000000:=by
    have:=ll (b:=4103) c1;have O:s.d8.length*4103<=100000*4103:=X6 _ Ω;rw[o4];omega
   refine M H.2.1 ?_;rw[aL ch.p 4 (c3.W H.1) rfl,dO ox.u (b4.W H.1)];generalize cQ++s.d8.flatMap (k2 s)=bZ at H fv;refine b6.range c2.length (λj cX=>ju w cX af g1 go (bZ++(s.di.take j).flatMap n8)) Ω (by rw[List.take_zero,List.flatMap_nil,V2];exact H) ?_ ?_
   .rintro j cX fw aG Z fy;obtain⟨e,he⟩:=aK (l:=s.di) (i:=j) Ω;obtain⟨x,J⟩:=aK (l:=c2) aG;obtain⟨bm,⟨⟨bW,aS⟩,_⟩,⟨hq,ea⟩,_⟩:=c5.2 j x e J he;obtain⟨hr,dF⟩:=B e (x6 he);have a8:(bZ++(s.di.take j).flatMap n8).length<=10000000000:=by
     have:=ll (L:=s.di.take j) (f:=n8) (b:=2004) λa ba=>by
      obtain⟨h1,O⟩:=B a (S4 ba);unfold n8;simp only[o4,rx,X5,List.length_nil];omega
     rw[j9]at this;have O:min j s.di.length*2004<=100000*2004:=X6 _ Ω;rw[o4];omega
    generalize bb:bZ++(s.di.take j).flatMap n8=aj at Z a8;have bc:bZ++(s.di.take (j+1)).flatMap n8=aj++n8 e:=by
     rw[<-bb,u7,he,o8,List.flatMap_append,List.flatMap_singleton,X7]
    refine bM Ω ?_;rw[cf rfl ox.u gS.i (b4.W Z.1) aG,bF gS.p gS.i rfl ((b4.W Z.1).range J)];refine bC gS.i λge dD hs bU aW=>?_;have cJ:=(aS.W Z.1).ls;have fz:=(ea.W Z.1).ls;refine b8 (vs:=yF x) gS.i rfl rfl (by intro u hu;simp[yF]at hu;rcases hu with rfl|rfl|rfl<;>first|rfl|exact cJ.cells.2|exact fz.cells.2) aW λe7 fA ht a2=>?_;have fB:=bU.put fA Ω;intro e8 eb _ _;have a2:=a2.W eb;obtain⟨ak,V,v,g,N,hm,au⟩:=Z.W (fB.F eb);rw[aD Ψ (N.cell rfl),aO gS.p 0 a2 rfl,aO gS.p 1 a2 rfl,aO gS.p 2 a2 rfl,bm];refine nR (l:=[-1,e.v]) aC.u ax.i Ω rfl Ψ λhy hz fa hA aJ fD=>?_;refine⟨.inl aJ,?_⟩;have S:=hm.W aJ;refine iF aC.u ax.i rfl S fD.ls Θ Θ λck er es W cl X=>?_;have et:=ak.size;have hB:=aJ.size;have bf:∀r,hv ck r->w.heap.size<=r:=λr z=>(cl r z).elim (au r) λh=>Ω
    have an:=(ak.F aJ).then X λr z he=>by have:=au r he;omega
    have cY:=side (a2.W aJ) S Φ X;have bB:=side (V.W aJ) S Φ X;have cm:=side (N.W aJ) S Φ X;refine⟨.inr ⟨kS Ψ (cY.cell rfl),Go.Vc.jl λK=>aY gS.p rfl,kS Ψ (cY.cell rfl),Go.Vc.jl λK=>aY gS.p rfl,trivial⟩,?_⟩;refine(we W (aS.W an) Θ).Y ?_;rintro bD cp _ ⟨C,⟨dk,az⟩,bg⟩;have ey:=an.size;have bG:∀r,hv bD r->w.heap.size<=r:=λr z=>(bg r z).elim (bf r) λh=>Ω
    have aE:=an.then C λr z he=>by have:=bf r he;omega
    have fE:=side cY W Φ C;have cq:=side bB W Φ C;have bH:=side cm W Φ C;refine⟨.inr ⟨kS Ψ (fE.cell rfl),Go.Vc.jl λK=>aY gS.p rfl,trivial⟩,?_⟩;refine(we az (ea.W aE) (by simp[rx];omega)).Y ?_;rintro hC cr _ ⟨aF,⟨hD,fF⟩,fG⟩;have hE:=aE.size;have fI:=aE.then aF λr z he=>by have:=bG r he;omega
    refine ju.put fI aM (side cq az Φ aF) (side bH az Φ aF) fF (λr z=>(fG r z).elim (bG r) λh=>Ω) λeA hF fJ=>?_;rw[aR];refine fy _ ?_;rw[bc];unfold n8;rw[<-X7,<-X7];exact fJ
   .rintro cX fw Z;refine cc Ω ?_;rw[j4 Ω]at Z;obtain⟨ak,V,v,g,N,hm,au⟩:=Z;rw[aD Ψ (N.cell rfl)];intro hG ed _;exact⟨ak.F ed,g,hm.W ed,au⟩
end
theorem GA{b:Bool}{ho bd:x1}{a e f:Λ}(h1:Seen e3 w [aZ] a)(h:Seen e3 w [ho] e)(j:Seen e3 w [bd] f):∀u∈[aZ,ho,bd,.bool b],u.oneCell'=ms:=by
 intro u hu;simp only[List.mem_cons,List.not_mem_nil,or_false]at hu;rcases hu with rfl|rfl|rfl|rfl
 .exact jS h1
 .exact jS h
 .exact jS j
 .rfl
section
variable{w:x4}{af ag:Nat}{A R:ak}{n:aI}{s:an}{t:az}{dr:x1}
end
def oa(am t:Λ):Int:=(ct am t 0).getD 0
def kF(s:an)(f:bI)(pos:Nat)(v:Int):Λ:=(bV s f.sc pos v).map (oa f.am)
def mp(s:an)(sc:Λ)(pos:Nat)(v:Int)(t:Λ):Bool:=decide (t.getD pos 0=v)&&fH s sc t
section
variable{k:Int}{d6:Λ}{s:an}{f:bI}{pos:Nat}{v:Int}
theorem Td:fH s sc t=ms↔ ∀(p:Nat)u w,sc[p]?=σ u->t[p]?=σ w->w∈aT s u:=by
 unfold fH;rw[List.all_eq_true];constructor
 .intro h p u w hu hw;have:=h (u,w) (x6 (List.getElem?_zip_eq_some.2 ⟨hu,hw⟩));unfold aT;cases J:s.d7[u.toNat]? with
  |none=>simp[J]at this
  |some x=>simpa[J]using this
 .rintro h ⟨u,w⟩ hm;obtain⟨p,ae⟩:=Y4.1 hm;obtain⟨h1,a⟩:=List.getElem?_zip_eq_some.1 ae;have:=h p u w h1 a;unfold aT at this;simp only;cases J:s.d7[u.toNat]? with
  |none=>rw[J]at this;cases this
  |some x=>rw[J]at this;simpa using this
theorem Te(q:ba k d6 s)(ah:f∈s.d8)(A:pos<f.sc.length)(ac:∀u,f.sc[pos]?=σ u->v∈aT s u):bV s f.sc pos v=(bq f.am).filter (mp s f.sc pos v):=by
 obtain⟨r,x,_⟩:=q.d8 f ah;have j:=za q (λu hu=>⟨(r.scope.1 u hu).1,r.d7 u hu⟩) ac;rw[<-x]at j;have h1:∀t∈bq f.am,(qc (qf s pos v f.sc 0) t=ms↔t∈bV s f.sc pos v):=λt a=>by rw[j,T6];exact⟨λh=>⟨a,h⟩,λh=>h.2⟩
 rw[j];refine List.filter_congr λt a=>?_;have B:t.length=f.sc.length:=by rw[ur a,x];simp[ci]
 rw[U1,h1 t a,oY,mp,S0,m6,Td];constructor
 .rintro⟨_,h⟩;obtain⟨u,hu⟩:=aK (l:=f.sc) A;obtain⟨w,hw⟩:=aK (l:=t) (i:=pos) Ω;have y:=h pos u w hu hw;rw[lw rfl]at y;refine⟨by rw[p8,hw];exact y,λp u' I z C=>?_⟩;have:=h p u' I z C;split at this
  .rename_i e;subst e;rw[this];exact ac u' z
  .exact this
 .rintro⟨h1,E⟩;refine⟨B,λp u w hu hw=>?_⟩;split
  .rename_i e;subst e;rw[p8,hw]at h1;exact h1
  .exact E p u w hu hw
end
section
variable{w:x4}{dr:x1}{k:Int}{d6:Λ}{s:an}
theorem Tf{j pos:Int}(h:iI w dr k d6 s)(Y:ba k d6 s)(aj:b2 s):aq x7 KU [dr,Δ j,Δ pos,Δ v] w λr I=>Ext w I/\∃u,r= .tuple #[Δ u,.bool (du s j pos v).isSome]:=by
 have aH:=Y.d7;refine aF func207 ?_;refine bo λg1 U aI G ak=>?_;have Z:=h.box G ak;obtain⟨ho,aJ,aL,aM,aN,aP,H,aQ,_,am,aR,aS,aa,aT⟩:=id Z;refine a1 (λr ab=>Ext U ab/\((r= .bool ms/\du s j pos v=ν)\/(r= .bool ne/\∃f u,0<=j/\0<=pos/\s.d8[j.toNat]?=σ f/\f.live≠0/\f.sc[pos.toNat]?=σ u))) ?_ λaA C=>?_
 .rintro _ ab ⟨z,⟨rfl,e⟩|⟨rfl,f,u,K,ac,ah,ad,hu⟩⟩
  .rw[bK,e];exact⟨G.F z,0,rfl⟩
  .rw[a6];have af:=x6 ah;have L:=x6 hu;obtain⟨ag,aU,_⟩:=Y.d8 f af;have M:=(ag.scope.1 u L).1;have aV:=ag.d7 u L;have M:=M;obtain⟨x,J⟩:=aK (l:=s.d7) (i:=u.toNat) Ω;rw[aO a8.p 6 (H.W z) rfl];refine lY (i:=j.toNat) Ω fa.u dI.i (bP aa z) (by rw[v8,ah];rfl) λb o cs N O=>?_;obtain⟨an,ap,v3,rfl,h1,au,aw⟩:=n5 O;rw[aY dI.p rfl,aY be.p rfl,aD Ψ (N 0 _ rfl),fO (y:=pos) (i:=pos.toNat) Ω av.u al.i Ψ (dy h1) hu,aO a8.p 3 (H.W z) rfl];refine iN (i:=u.toNat) rfl Ω df.u av.i Ψ (bP am z) (by rw[v8,J];rfl) λaX ax=>?_;refine(y4 (dy ax)).Y ?_;rintro _ aZ _ ⟨rfl,ay⟩;refine⟨(G.F z).F ay,u,?_⟩;have az:=aj f af ad u L x J;have ae:du s j pos v=(dF s u v).map λx=>(f,u,x):=by
    unfold du;rw[lw ⟨K,ac⟩,ah];simp only;rw[lw ad,hu]
   have aC:dF s u v=if v∈aB x then σ x else ν:=by
    unfold dF;rw[lw M,J];simp only[az,true_and]
   rw[ae,aC];by_cases E:v∈aB x
   .rw[lw E,m3 E];rfl
   .rw[m1 E,m5 E];rfl
 have Q:∀{P:Prop},(¬∃f u,0<=j/\0<=pos/\s.d8[j.toNat]?=σ f/\f.live≠0/\f.sc[pos.toNat]?=σ u)->(du s j pos v=ν->P)->P:=λe aE=>aE (by
  cases ae:du s j pos v with
  |none=>rfl
  |some q=>
   obtain⟨f,u,x⟩:=q;obtain⟨R,S,a3,a4,a5,_⟩:=nj ae;exact m2 ⟨f,u,R,S,a3,a4,a5⟩ e)
 refine Z.load λu hu=>?_;refine(Sk hu).Y ?_;rintro _ a2 _ ⟨rfl,A⟩;have same:∀{f V:bI},s.d8[j.toNat]?=σ f->s.d8[j.toNat]?=σ V->V=f:=λa b=>by rw[a]at b;exact(Z4 b).symm
 rw[bE,b1];refine⟨λW=>Q (λ⟨f,u,R,S,a3,a4,a5⟩=>?_) λe=>C _ _ ⟨A,.inl ⟨rfl,e⟩⟩,λX=>?_⟩
 .unfold eL at W;rw[a3]at W;simp[R,a4]at W
 have X:0<=j/\eL s j.toNat=ms:=by simpa using X
 obtain⟨K,B⟩:=X;obtain⟨f,ah,aG⟩:∃f,s.d8[j.toNat]?=σ f/\f.live≠0:=by
  unfold eL at B;cases ah:s.d8[j.toNat]? with
  |none=>rw[ah]at B;cases B
  |some f=>rw[ah]at B;exact⟨f,rfl,by simpa using B⟩
 rw[aW,ao];refine⟨λbb=>Q (λ⟨_,_,_,S,_⟩=>Ω) λe=>C _ _ ⟨A,.inl ⟨rfl,e⟩⟩,λac=>?_⟩;rw[aO a8.p 6 (H.W A) rfl];refine lY (i:=j.toNat) Ω fa.u dI.i (bP aa A) (by rw[v8,ah];rfl) λb o cs N O=>?_;obtain⟨an,ap,v3,rfl,h1,au,aw⟩:=n5 O;rw[aY dI.p rfl,aY be.p rfl,aD Ψ (N 0 _ rfl),a7 av.u (dy h1),cJ];by_cases ai:(f.sc.length:Int)<=pos
 .refine Q (λ⟨V,u,_,_,a3,_,a5⟩=>?_) λe=>C _ _ ⟨A,.inl ⟨by rw[m3 ai],e⟩⟩;obtain rfl:=same ah a3;have:=(x5.1 a5).1;omega
 .obtain⟨u,hu⟩:=aK (l:=f.sc) (i:=pos.toNat) Ω;exact C _ _ ⟨A,.inr ⟨by rw[m5 ai],f,u,K,Ω,ah,aG,hu⟩⟩
theorem zB{f:bI}(h:iI w dr k d6 s)(L:ba k d6 s)(ah:s.d8[j]?=σ f)(aJ:pos<f.sc.length)(ac:∀u,f.sc[pos]?=σ u->v∈aT s u):
  aq x7 J3 [dr,Δ (j:Int),Δ (pos:Int),Δ v] w λr I=>Ext w I/\aQ .i64 I r (kF s f pos v)/\∀q,hv r q->w.heap.size<=q:=by
 have bw:=L.d7;have V:=x6 ah;obtain⟨M,ai,_⟩:=L.d8 f V;have N:=(kD L V).1;have aL:f.am.length=f.sc.length:=by rw[ai];simp[ci]
 have bx:=jg N;have bz:(bq f.am).length<=4096:=by
  have O:=M.small;rw[<-ai]at O;omega
 refine aF func139 ?_;refine bo λg1 U bA W aM=>?_;obtain⟨ho,bB,bD,bE,bG,bH,aj,bJ,_,aN,bK,bL,aP,bN⟩:=h.box W aM;rw[aO a8.p 6 aj rfl];refine lY (i:=j) rfl fa.u dI.i aP (by rw[v8,ah];rfl) λb o cs E aS=>?_;obtain⟨X,Y,v3,rfl,h1,O,aU⟩:=n5 aS;rw[aY dI.p rfl,bF (cs:=[X,Y,v3]) be.p be.i rfl (λq u a=>by
  have:q<3:=(x5.1 a).1
  match q,this,a with
  |0,_,a=>cases a;exact E 0 _ rfl
  |1,_,a=>cases a;exact E 1 _ rfl
  |2,_,a=>cases a;exact E 2 _ rfl)]
 refine bC be.i λbO ab bQ aW aX=>?_;have aZ:∀u∈[X,Y,v3],u.oneCell'=ms:=λu hu=>by
  simp only[List.mem_cons,List.not_mem_nil,or_false]at hu;rcases hu with rfl|rfl|rfl
  .exact jS h1
  .exact jS O
  .exact jS aU
 refine b8 (vs:=[X,Y,v3]) be.i rfl rfl aZ aX λbR a2 bS ak=>?_;have an:=aW.put a2 Ω;have s1:=dy h1;have a6:=dy O;rw[aO be.p 1 ak rfl];refine(uD f.am (a6.W an) ⟨by rw[aL];exact M.scope.2,N⟩).Y ?_;rintro bT P _ ⟨ao,ap⟩;have Z:=an.F ao;rw[jB df.u ap];refine cb.range (bq f.am).length (λi out C=>Ext P C/\(∃g,aH .i64 al C g out ((((bq f.am).take i).filter (mp s f.sc pos v)).map (oa f.am)))/\∀r,hv out r->P.heap.size<=r) Ω ⟨Ext.refl _,⟨0,aH.nil _ _ _ _⟩,λr E=>by obtain⟨_,_,_,e,_⟩:=E;cases e⟩ ?_ ?_
 .rintro q out C bb a ⟨z,⟨g,hm⟩,Q⟩ bc;have G:(bq f.am)[q]?=σ (dl f.am (q:Int)):=qZ N Ω;generalize dl f.am (q:Int)=tl at G;have bU:=ut G;have bd:=kt N G;have bf:oa f.am tl=(q:Int):=by unfold oa;rw[bd];rfl
  have R:=Z.F z;have au:((bq f.am).take (q+1)).filter (mp s f.sc pos v)=((bq f.am).take q).filter (mp s f.sc pos v)++(if mp s f.sc pos v tl=ms then[tl]else[]):=by
   rw[u7,G,o8,List.filter_append];congr 1;cases aw:mp s f.sc pos v tl<;>simp[aw]
  obtain⟨aa,ax⟩:=aK (l:=tl) (i:=pos) Ω;refine bM Ω ?_;refine a1 (λay az=>Ext P az/\(∃g,aH .i64 al az g ay ((((bq f.am).take (q+1)).filter (mp s f.sc pos v)).map (oa f.am)))/\∀r,hv ay r->P.heap.size<=r) (λ_ _ ad=>by rw[aR];exact bc _ _ ad) λaA H=>?_;refine iN rfl rfl df.u av.i Ψ (bP ap z) G λaV S=>?_;have S:=dy S;rw[bm av.u al.i Ψ S ax,bl,aO be.p 0 (ak.W (ao.F z)) rfl,a7 av.u (s1.W R)];refine cb.range f.sc.length (λp ok af=>Ext C af/\ok= .bool (decide (aa=v)&&fH s (f.sc.take p) (tl.take p))) s1.le ⟨Ext.refl _,by simp[fH]⟩ ?_ ?_
  .rintro p _ af bg ae ⟨A,rfl⟩ bh;obtain⟨u,ag⟩:=aK (l:=f.sc) ae;obtain⟨y,aC⟩:=aK (l:=tl) (i:=p) Ω;have aD:=x6 ag;have aE:=(M.scope.1 u aD).1;have aG:=M.d7 u aD;have aG:=aG;have aE:=aE;obtain⟨x,J⟩:=aK (l:=s.d7) (i:=u.toNat) Ω;have aI:fH s (f.sc.take (p+1)) (tl.take (p+1))=(fH s (f.sc.take p) (tl.take p)&&decide (y∈aB x)):=by
    unfold fH;rw[u7,u7,ag,aC,o8,o8,List.zip_append Θ,List.all_append];simp[J]
   refine bM Ω ?_;refine a1 (λok bi=>Ext C bi/\ok= .bool (decide (aa=v)&&fH s (f.sc.take (p+1)) (tl.take (p+1)))) (λ_ _ ad=>by rw[aR];exact bh _ _ ad) λaA H=>?_;rw[bm av.u al.i Ψ (s1.W (R.F A)) ag];intro bV bj _ _;have K:=A.F bj;rw[b1];refine⟨λB=>?_,λB=>H _ _ ⟨K,by rw[aI,<-Bool.and_assoc,B];rfl⟩⟩;rw[aO a8.p 3 (aj.W (R.F K)) rfl];refine iN (i:=u.toNat) rfl Ω df.u av.i Ψ (bP aN (R.F K)) (by rw[v8,J];rfl) λbW bk=>?_;rw[bm av.u al.i Ψ (S.W K) aC];refine(y4 (dy bk)).Y ?_;rintro _ bX _ ⟨rfl,bn⟩;exact H _ _ ⟨K.F bn,by rw[aI,<-Bool.and_assoc,B,T0]⟩
  .rintro _ af bg ⟨A,rfl⟩;rw[o6,j4 Ω];refine cc Ω ?_;have bp:(decide (aa=v)&&fH s f.sc tl)=mp s f.sc pos v tl:=by unfold mp;rw[p8,ax];rfl
   rw[bp,b1];refine⟨λB=>?_,λB=>H _ _ ⟨z.F A,⟨g,by rw[au,m1 (by rw[B];decide),V2];exact hm.W A⟩,Q⟩⟩;refine Gx (z.F A) (hm.W A) Q ?_ λbY I br bs bt bu=>H _ _ ⟨bs,⟨br,?_⟩,bu⟩
   .rw[u9];have h1:=List.length_filter_le (mp s f.sc pos v) ((bq f.am).take q);rw[j9]at h1;omega
   .rw[au,lw B,Z2,List.map_singleton,bf];exact bt
 .rintro out C bb ⟨z,⟨g,hm⟩,Q⟩;rw[o6,<-Te L V aJ ac]at hm;refine cc Ω ?_;exact⟨(W.F Z).F z,hm.ls,λq a=>by have:=Q q a;have:=(W.F Z).size;omega⟩
theorem Tg{j pos:Int}(h:iI w dr k d6 s)(e:ba k d6 s)(P:b2 s):
  aq x7 J1 [dr,Δ j,Δ pos,Δ v] w λr I=>Ext w I/\r=(match du s j pos v with|some (f,_,_)=>.tuple #[Δ (eN k s f pos.toNat v),.bool ms]|none=>.tuple #[Δ 0,.bool ne]):=by
 refine aF func137 ?_;refine bo λg1 U ay y Q=>?_;have G:=h.box y Q;refine G.load λu hu=>?_;refine(Tf hu e P).Y ?_;rintro _ ab _ ⟨z,fu,rfl⟩;rw[bx,bz,bE];cases ae:du s j pos v with
 |none=>
  rw[S6,X4,bK];exact⟨y.F z,rfl⟩
 |some q=>
 obtain⟨f,u',x⟩:=q;rw[T8,Y1,a6];obtain⟨R,S,ah,az,A,V⟩:=nj ae;obtain⟨aA,W,aB,X⟩:=ke V;obtain⟨j,rfl⟩:=Y6 R;obtain⟨pos,rfl⟩:=Y6 S;rw[u5]at ah A;have H:=x6 ah;have Y:=(x5.1 A).1;have ac:∀u,f.sc[pos]?=σ u->v∈aT s u:=λu hu=>by
  rw[A]at hu;cases hu;unfold aT;rw[W];exact X
 have J:=G.W z;obtain⟨ho,aE,aG,aH,aI,aJ,K,aL,_,aM,aN,aP,Z,aQ⟩:=id J;rw[aO a8.p 0 K rfl];refine J.load λaS aa=>?_;refine(zB aa e ah Y ac).Y ?_;rintro aV ad _ ⟨L,B,_⟩;rw[a7 av.u B];have M:(kF s f pos v).length=(bV s f.sc pos v).length:=by unfold kF;rw[u9]
 rw[M];refine cb.range (bV s f.sc pos v).length (λi af C=>Ext ad C/\af=Δ ((((bV s f.sc pos v).take i).map (bt f.am f.cs)).foldl min k)) (by rw[<-M];exact B.le) ⟨Ext.refl _,rfl⟩ ?_ ?_
 .rintro i _ C ag hi ⟨a,rfl⟩ ai;obtain⟨tl,E⟩:=aK (l:=bV s f.sc pos v) hi;obtain⟨m,hm⟩:=o2 e H ac (x6 E);have aj:(kF s f pos v)[i]?=σ (m:Int):=by
   unfold kF;rw[v8,E];unfold oa;rw[Y9,hm];rfl
  obtain⟨ak,aU⟩:=kD e H;have aW:=(x5.1 (l4 ak hm)).1;obtain⟨c,N⟩:=aK (l:=f.cs) (i:=m) Ω;have an:bt f.am f.cs tl=c:=by
   unfold bt;rw[hm];simp[p8,N]
  have O:=L.F a;refine bM Ω ?_;rw[bm av.u al.i Ψ (B.W a) aj,aO a8.p 6 (K.W O) rfl];refine lY (i:=j) rfl fa.u dI.i (bP Z O) (by rw[v8,ah];rfl) λb o cs ao ap=>?_;obtain⟨aX,aZ,v3,rfl,h1,a1,au⟩:=n5 ap;rw[aY dI.p rfl,aY be.p rfl,aD Ψ (ao 2 _ rfl),bm aC.u ax.i Ψ (dy au) N];refine Fs.Y ?_;rintro _ a2 _ ⟨rfl,aw⟩;rw[aR];refine ai _ _ ⟨a.F aw,?_⟩;rw[u7,E,o8,Z2,List.foldl_append,List.map_singleton,an];rfl
 .rintro _ C ag ⟨a,rfl⟩;rw[o6];refine cc Ω ?_;exact⟨(y.F z).F (L.F a),rfl⟩
theorem wg{b k:Int}(h1:0<=a/\a<=4294967296)(f:0<=b/\b<=4294967296):aq x7 J4 [Δ a,Δ b,Δ k] w λr I=>r=Δ (cG k a b)/\Ext w I:=by
 refine aF func140 ?_;refine(show aq x7 KX [Δ a,Δ b,Δ k] w λr I=>(∃q,r= .tuple #[Δ (cG k a b),q])/\Ext w I from ?_).Y ?_
 .refine aF func210 ?_;unfold cG;rw[bl,ao];refine⟨λh=>⟨⟨_,by rw[lw h]⟩,Ext.refl _⟩,λh=>?_⟩;rw[c5,hx Ω Ω,nI,m1 h];exact⟨⟨_,rfl⟩,Ext.refl _⟩
 .rintro _ U _ ⟨⟨q,rfl⟩,e⟩;rw[bx,bz];exact⟨rfl,e⟩
end
def dH(w:x4)(af ag au:Nat)(A R:ak)(A9:Nat->ak)(aJ:ak)(n:aI)(s:an)(t:az)(h:List az)(u:an)(I:x4):Prop:=aj (λr=>(∃q,A9 q r)\/r=au) w I/\∃cz cs,cm I af ag au A R cz aJ n s u t h cs/\∀q r,cz q r->(∃a,A9 a r)\/w.heap.size<=r
section
variable{w I U ab:x4}{af ag au:Nat}{A R:ak}{A9:Nat->ak}{aJ:ak}{n:aI}{s u fe fu:an}{t:az}{h:List az}{cs:List x1}
theorem dH.same(p:cm w af ag au A R A9 aJ n s u t h cs)(J:Ext w I):dH w af ag au A R A9 aJ n s t h u I:=⟨J.aa _,A9,cs,p.W J,λq r h=>.inl ⟨q,h⟩⟩
theorem dH.comp{cz:Nat->ak}(e:aj (λr=>(∃q,A9 q r)\/r=au) w U)(f:∀q r,cz q r->(∃a,A9 a r)\/w.heap.size<=r)(d:dH U af ag au A R cz aJ n s t h fu ab):dH w af ag au A R A9 aJ n s t h fu ab:=by
 obtain⟨x,y,cj,B,C⟩:=d;have z:=e.size;refine⟨?_,y,cj,B,λq r j=>(C q r j).elim (λ⟨a,h⟩=>f a r h) λh=>.inr Ω⟩;refine((e.Y λr _ h=>.inl h).F (x.Y λr _ h=>?_):aj (λr=>((∃q,A9 q r)\/r=au)\/w.heap.size<=r) w ab).Y λr j h=>h.elim id λh=>Ω
 rcases h with⟨q,h⟩|h
 .exact (f q r h).imp .inl id
 .exact .inl (.inr h)
def k3(w:x4)(af ag au:Nat)(A R:ak)(A9:Nat->ak)(aJ:ak)(n:aI)(s:an)(t:az)(h:List az)(u:an)(I:x4):Prop:=aj (A9 2) w I/\∃cz cs,cm I af ag au A R cz aJ n s u t h cs/\(∀q r,cz q r->(∃a,A9 a r)\/w.heap.size<=r)/\∀r,cz 2 r->A9 2 r\/w.heap.size<=r
theorem k3.GB(d:k3 w af ag au A R A9 aJ n s t h u I):dH w af ag au A R A9 aJ n s t h u I:=by
 obtain⟨h1,cz,cs,a,e,_⟩:=d;exact⟨h1.Y λr _ h=>.inl ⟨2,h⟩,cz,cs,a,e⟩
theorem k3.same(p:cm w af ag au A R A9 aJ n s u t h cs)(J:Ext w I):k3 w af ag au A R A9 aJ n s t h u I:=⟨J.aa _,A9,cs,p.W J,λq r h=>.inl ⟨q,h⟩,λr h=>.inl h⟩
theorem k3.comp{cz:Nat->ak}(f:aj (A9 2) w U)(x:∀q r,cz q r->(∃e,A9 e r)\/w.heap.size<=r)(j:∀r,cz 2 r->A9 2 r\/w.heap.size<=r)(d:k3 U af ag au A R cz aJ n s t h fu ab):k3 w af ag au A R A9 aJ n s t h fu ab:=by
 obtain⟨y,B,cj,C,E,F⟩:=d;have z:=f.size;refine⟨?_,B,cj,C,λq r a=>(E q r a).elim (λ⟨e,h⟩=>x e r h) λh=>.inr Ω,λr a=>(F r a).elim (j r) λh=>.inr Ω⟩;exact((f.Y λr _ h=>.inl h).F (y.Y λr _ h=>j r h):aj (λr=>A9 2 r\/w.heap.size<=r) w ab).Y λr a h=>h.elim id λh=>Ω
theorem cm.Th{T:ak}{v:x1}{u':an}(p:cm w af ag au A R A9 aJ n s u t h cs)(z:∀q r,A9 q r->r<w.heap.size)(ac:cs[5]?=σ v)(e:aj T w I)(f:∀r,r<w.heap.size->T r->A9 2 r)(C:bS (λr=>A9 2 r\/w.heap.size<=r) aJ I [v] (u'.d7.map (·.un)))(E:u'.zero=u.zero)(F:u'.d7.map aB=u.d7.map aB)(G:(u'.d7.map λx=>decide (x.gone≠0))=u.d7.map λx=>decide (x.gone≠0))(H:u'.d8=u.d8)(J:u'.di=u.di):
  ∃cz,cm I af ag au A R cz aJ n s u' t h cs/\(∀q r,cz q r->(∃K,A9 K r)\/w.heap.size<=r)/\∀r,cz 2 r->A9 2 r\/w.heap.size<=r:=by
 have L:=ck.mi p.doc (zj e) (λr a=>.inl (f r a.2 a.1)) C (λj r M a=>?_) (λr a=>?_)
 .have y:=zk (w:=w) (B:=λr=>A9 2 r\/w.heap.size<=r) λr h=>h;refine⟨_,p.row e f ?_ y,y,λr a=>a⟩;have:=ck.sn ac L;unfold kc;rw[E,F,G,H,J];exact this
 .rcases a with a|a
  .exact p.iw.1 2 j r (Ne.symm M) a
  .exact λh=>by have:=z j r h;omega
 .rcases a with a|a
  .exact p.iw.2 2 r a
  .exact λh=>by have:=(p.read r h).2.1;omega
theorem zC(p:cm w af ag au A R A9 aJ n s u t h cs){i:Nat}{x:bA}(J:u.d7[i]?=σ x):∃g cap y,cs[5]?=σ (.slice (σ ⟨g,0,ν⟩) u.d7.length cap)/\w.cell? ⟨g,i,ν⟩=σ y/\aQ .i64 w y x.un/\
  ∀{I:x4}{v:Nat}{c:Int}{K:Unit->x4->Prop},Ext w I->v<x.un.length->(∀G,k3 w af ag au A R A9 aJ n s t h (e7 u i x (x.un.set v c)) G->K () G)->
   ad x7 (n9 aC y (Δ (v:Int))) I λa=>aM x7 (o7 ax a (Δ c)) I K:=by
 have H:=p.olds;obtain⟨ho,ak,al,am,an,ao,L,_,_,_,M,_,_,B⟩:=id H.doc;obtain⟨g,cap,c,ap,e,S,N,aq,_⟩:=vW M (by rw[v8,J];rfl) λr _ h=>(B rfl).2 2 r h;obtain⟨y,rfl⟩:=W6.1 (ay.len N);have O:w.cell? ⟨g,i,ν⟩=σ y:=by
  have:=S 0 y rfl;simpa[show ay.n (Λ)=1 from rfl]using this
 rw[u9]at e;refine⟨g,cap,y,by rw[L,<-e];rfl,O,dy (kO N),λ{I v c K}j ac U=>?_⟩;have V:=H.W j;have z:=j.size;obtain⟨av,aw,az,aA,P,W,Q,C,X⟩:=vW (bP M j) (by rw[v8,J];rfl) λr _ h=>(B rfl).2 2 r h;obtain⟨E,rfl⟩:=W6.1 (ay.len Q);rw[u9,e]at P;cases P;have Y:E=y:=by
  have h1:=W 0 E rfl;have h1:I.cell? ⟨g,i,ν⟩=σ E:=by simpa[show ay.n (Λ)=1 from rfl]using h1
  rw[km j O]at h1;exact(Z4 h1).symm
 subst Y;refine Gb rfl rfl aC.u ax.i Q ac rfl rfl (λr _ f=>⟨λh=>h,(B rfl).2 2 r (C r f)⟩) λaD F Z=>?_;have ab:=X F (λr _ h=>h) Z λr f=>f.elim .inl False.elim;obtain⟨cz,ae,ah,ai⟩:=V.Th (u':=e7 u i x (x.un.set v c)) (λq r h=>by have:=h.2;omega) (by rw[L];rfl) F (λr _ h=>C r h) (by show bS _ _ _ _ ((u.d7.set i {x with un:=x.un.set v c}).map (·.un));rw[U4];exact ab) rfl (rt J (by unfold aB;simp)) (rt J rfl) rfl rfl;refine U _ ⟨(j.aa _).F (F.Y λr _ h=>(C r h).1),cz,cs,ae,λq r f=>?_,λr f=>?_⟩
 .rcases ah q r f with⟨aj,h⟩|h
  .exact .inl ⟨aj,h.1⟩
  .exact .inr Ω
 .exact (ai r f).imp (λh=>h.1) λh=>Ω
theorem Ti(p:cm w af ag au A R A9 aJ n s u t h cs){f:bI}(ah:u.d8[j]?=σ f):∃g cap C L y,cs[6]?=σ (.slice (σ ⟨g,0,ν⟩) u.d8.length cap)/\w.rangeAt g (j*4) [C,L,y,.bool (decide (f.live≠0))]/\aQ .i64 w C f.sc/\aQ .i64 w y f.cs/\
  ∀{I:x4}{m:Nat}{c:Int}{K:Unit->x4->Prop},Ext w I->m<f.cs.length->(∀N,dH w af ag au A R A9 aJ n s t h (eH u j f (f.cs.set m c)) N->K () N)->
   ad x7 (n9 aC y (Δ (m:Int))) I λa=>aM x7 (o7 ax a (Δ c)) I K:=by
 have O:=p.olds;obtain⟨ho,av,aw,az,aA,aB,P,_,_,_,_,Q,_,E⟩:=id O.doc;obtain⟨g,cap,c,aD,e,F,V,aE,_⟩:=vW Q (by rw[v8,ah];rfl) λr _ h=>(E rfl).2 3 r h;have W:=n5 V;obtain⟨C,L,y,rfl,X,aF,Y⟩:=W;rw[u9]at e;have F:=F;refine⟨g,cap,C,L,y,by rw[P,<-e];rfl,F,dy X,dy Y,λ{I m c K}x hm Z=>?_⟩;have ab:=O.W x;have z:=x.size;obtain⟨aG,aH,aI,aK,S,M,ac,G,ae⟩:=vW (bP Q x) (by rw[v8,ah];rfl) λr _ h=>(E rfl).2 3 r h;rw[u9,e]at S;cases S;obtain⟨aL,aN,U,aO,rfl,ai,H,aj⟩:=Sw ac λr h=>(E rfl).2 3 r (G r h);have M:=M;have ak:U=y:=by
  have h1:=M 2 U rfl;rw[(pz x F) 2 y rfl]at h1;exact(Z4 h1).symm
 subst ak;refine Gb rfl rfl aC.u ax.i ai hm rfl rfl (λr _ B=>⟨λh=>h,(E rfl).2 3 r (G r (H r B))⟩) λaP J al=>?_;have am:=aj J (ay.Y al (λr _ h=>h.elim id False.elim) λ_ _ h=>h);have an:=ae J (λr _ h=>H r h) am λr B=>.inl B;obtain⟨cz,ao,ap⟩:=ab.Su (u':=eH u j f (f.cs.set m c)) (λq r h=>by have:=h.2;omega) (by rw[P];rfl) J (λr _ h=>G r (H r h)) (by show bS _ _ _ _ ((u.d8.set j {f with cs:=f.cs.set m c}).map kE);rw[U4];exact an) rfl rfl rfl;refine Z _ ⟨(x.aa _).F (J.Y λr _ h=>.inl ⟨3,(G r (H r h)).1⟩),cz,cs,ao,λq r B=>?_⟩;rcases ap q r B with⟨aq,h⟩|h
 .exact .inl ⟨aq,h.1⟩
 .exact .inr Ω
theorem Tj(p:cm w af ag au A R A9 aJ n s u t h cs){K:Unit->x4->Prop}(f:∀e,dH w af ag au A R A9 aJ n s t h {u with zero:=c} e->K () e):aM x7 (o7 ax (.pointer (σ ⟨au,0+2,ν⟩)) (Δ c)) w K:=by
 refine bs (o:=0+2) ax.i rfl rfl p.box (by rw[p.doc.len.1];omega) λab a x j=>?_;refine f _ ⟨a.Y λr _ h=>.inr h,A9,_,p.Gf a (λr _ h=>.inr h) j ?_ λq r h=>.inl ⟨q,h⟩,λq r h=>.inl ⟨q,h⟩⟩;exact(ck.aa p.doc a λr _ h he=>h.elim (λ⟨q,h⟩=>(p.apart q r h).2.2 he) λh=>(p.read r h).2.2 he).Sc
theorem Tk(p:cm w af ag au A R A9 aJ n s u t h cs){i:Nat}{x:bA}(J:u.d7[i]?=σ x):∃g cap y,cs[3]?=σ (.slice (σ ⟨g,0,ν⟩) u.d7.length cap)/\w.cell? ⟨g,i,ν⟩=σ y/\aQ .i64 w y (aB x)/\(∀r,hv y r->A9 0 r)/\
  ∀{I:x4}{m:Int}{z:x1}{gz:Nat}{K:Unit->x4->Prop},Ext w I->aH .i64 al I gz z (aB {x with mask:=m})->(∀r,hv z r->w.heap.size<=r)->(∀H,dH w af ag au A R A9 aJ n s t h {u with d7:=u.d7.set i {x with mask:=m}} H->K () H)->
   ad x7 (n9 df (.slice (σ ⟨g,0,ν⟩) u.d7.length cap) (Δ (i:Int))) I λa=>aM x7 (o7 av a z) I K:=by
 have L:=p.olds;have X:=(x5.1 J).1;obtain⟨ho,Y,aD,aE,aF,aG,M,_,Z,_,_,_,_,ab⟩:=id L.doc;obtain⟨g,cap,full,ac,c,aI,e,B,ae,C,N,E,ah,aK,ak⟩:=Gg Z (by rw[v8,J];rfl) λr _ h=>(ab rfl).2 0 r h;obtain⟨y,rfl⟩:=W6.1 (ay.len E);rw[u9]at e;have am:full[i]?=σ y:=by have:=N 0 y rfl;simpa[show ay.n (Λ)=1 from rfl]using this
 refine⟨g,cap,y,by rw[M,<-e];rfl,by have:=B.cell am;exact this,dy (kO E),λr f=>?_,λ{I m O gz K}F P Q an=>?_⟩
 .obtain⟨aL,aN,ao,ap⟩:=B4 E;rcases ap with rfl|aq
  .obtain⟨_,_,_,e,_⟩:=f;cases e
  .obtain⟨e,_⟩:=b5 ao f;rw[e];exact(ah _ aq).1
 have z:=F.size;have C:i*1+1<=full.length:=C;rw[fq df.u av.i X λ_=>rfl];obtain⟨_,_,_,S⟩:=dA P.ls;refine bs (o:=0+i*1) av.i (by rw[S];rfl) (by rw[S];rfl) (B.W F) Ω λU V aO j=>?_;have j:ai U g ac (over full (i*1) [O]):=by
  have e:=Gh (o:=i*1) (q:=0) (x:=O) N C Ξ;rw[V7]at j;rw[Nat.add_zero]at e;rw[e]at j;exact j
 have aP:g<w.heap.size:=B.lt;have G:aj (λr=>r=g) w U:=(F.aa _).F V;have aw:=bB P V λr f he=>by have he:r=g:=he;have:=Q r f;omega
 have ax:=ak G (λr _ h=>.inr h) j (oZ aw) λr f=>.inr (Q r f);have W:∀r,r<w.heap.size->r=g->A9 0 r/\r<w.heap.size:=λr f h=>by rw[h];exact ae
 obtain⟨cz,az,aA⟩:=L.qk (u':={u with d7:=u.d7.set i {x with mask:=m}}) (λq r h=>h.2) (v:=Y) (by rw[M];rfl) G W (by show bS _ _ _ _ ((u.d7.set i {x with mask:=m}).map aB);rw[U4];exact ax) rfl (rt J rfl) (rt J rfl) rfl rfl;refine an _ ⟨G.Y λr f h=>.inl ⟨0,(W r f h).1⟩,cz,cs,az,λq r f=>?_⟩;rcases aA q r f with⟨aC,h⟩|h
 .exact .inl ⟨aC,h.1⟩
 .exact .inr h
end
def gu(s:an)(sc:Λ)(pos:Int)(v:Int):Nat->Nat->Λ->List (Λ)
 |0,_,tl=>[tl]
 |m+1,p,tl=>if(p:Int)=pos then gu s sc pos v m (p+1) (tl.set p v)else(aT s (sc.getD p 0)).flatMap λx=>gu s sc pos v m (p+1) (tl.set p x)
theorem wh{α:Type}{l:List α}{p:Nat}{x:α}(h:p<l.length):(l.set p x).take (p+1)=l.take p++[x]:=by
 grind [u7,List.take_set_of_le]
theorem wi{s:an}{sc:Λ}{pos:Nat}{v:Int}:∀(m p:Nat)(tl:Λ),sc.length=p+m->tl.length=sc.length->gu s sc pos v m p tl=(ih (jK s pos v (sc.drop p) p)).map (tl.take p++ ·)
 |0,p,tl,h1,e=>by
  grind [gu,jK,ih]
 |m+1,p,tl,h1,e=>by
  have ae:p<sc.length:=Ω
  obtain⟨u,hu⟩:=aK (l:=sc) ae;have f:sc.drop p=u::sc.drop (p+1):=by grind [Y8]
  have h:sc.getD p 0=u:=by grind
  rw[f];unfold gu jK;rw[ih];by_cases a:p=pos
  .rw[lw Ω,lw a,List.flatMap_singleton,wi m (p+1) (tl.set p v) Ω (by grind),T7,wh Ω]
   grind [List.map_congr_left]
  .rw[m1 Ω,m1 a,h,List.map_flatMap];congr 1;funext x;rw[wi m (p+1) (tl.set p x) Ω (by grind),T7,wh Ω]
   grind [List.map_congr_left]
theorem Tl{s:an}{m p:Nat}{a:Λ}(h1:sc.length=p+m)(e:tl.length=sc.length)(f:a.length=sc.length)(h:a.take p=tl.take p):gu s sc pos v m p a=gu s sc pos v m p tl:=by
 grind [wi]
theorem Tm{s:an}(h:tl.length=sc.length):gu s sc pos v sc.length 0 tl=bV s sc pos v:=by
 rw[wi sc.length 0 tl Ω h];unfold bV;simp
def pb(w:x4)(af gs bW bf bh:Nat)(aZ:x1)(pos v:Int):Prop:=ai w gs dx [Γ af]/\ai w bW av [aZ]/\ai w bf al [Δ pos]/\ai w bh al [Δ v]
theorem pb.aa{S:ak}{gs bW bf bh:Nat}{pos:Int}(h:pb w af gs bW bf bh aZ pos v)(a:aj S w I)(e:¬S gs/\¬S bW/\¬S bf/\¬S bh):pb I af gs bW bf bh aZ pos v:=
 ⟨h.1.aa a e.1,h.2.1.aa a e.2.1,h.2.2.1.aa a e.2.2.1,h.2.2.2.aa a e.2.2.2⟩
theorem pb.W{gs bW bf bh:Nat}{pos:Int}(h:pb w af gs bW bf bh aZ pos v)(J:Ext w I):pb I af gs bW bf bh aZ pos v:=h.aa (J.aa λ_=>False) (by grind)
def gN(af ag:Nat)(R:ak)(n:aI)(s:an)(gs bW bf bh:Nat)(aZ:x1)(sc:Λ)(pos v:Int)(B0:Nat)(D:Nat->Prop)(w:x4):Prop:=
 pb w af gs bW bf bh aZ pos v/\(gs<B0/\bW<B0/\bf<B0/\bh<B0)/\aQ .i64 w aZ sc/\(∀r,hv aZ r->r<B0)/\(Laid w/\B0<=w.heap.size)/\∃A s' bu,bw w af ag A R n s' bu/\(∀i,aT s' i=aT s i)/\∀r,A r\/R r->r<B0\/D r
section
variable{af ag gs bW bf bh B0:Nat}{R:ak}{n:aI}{s:an}{aZ:x1}{sc:Λ}{pos v:Int}
theorem gN.W(h:gN af ag R n s gs bW bf bh aZ sc pos v B0 D w)(J:Ext w I):gN af ag R n s gs bW bf bh aZ sc pos v B0 D I:=by
 obtain⟨h1,e,f,j,a,A,s',bu,q,r,x⟩:=h;exact⟨h1.W J,e,f.W J,j,⟨a.1.W J,Y7 a.2 J.size⟩,A,s',bu,q.W J,r,x⟩
def lJ(w:x4)(l gy gt gtb ga:Nat)(iZ:Array x1)(q:Nat)(tl:Λ):Prop:=ai w gy BL [.func (.yield l) #[] #[]]/\ai w gtb av [.slice (σ ⟨gt,0,ν⟩) q q]/\ai w ga qK [.func (.func px) #[] iZ]/\
 aH .i64 al w gt (.slice (σ ⟨gt,0,ν⟩) q q) tl
theorem lJ.aa{S:ak}{l q:Nat}{iZ:Array x1}(h:lJ w l gy gt gtb ga iZ q tl)(f:aj S w I)(j:¬S gy/\¬S gtb/\¬S ga/\¬S gt):lJ I l gy gt gtb ga iZ q tl:=
 ⟨h.1.aa f j.1,h.2.1.aa f j.2.1,h.2.2.1.aa f j.2.2.1,bB h.2.2.2 f λr s=>by
  obtain⟨a,_,_,e,x⟩:=s
  grind⟩
theorem lJ.W{l q:Nat}{iZ:Array x1}(h:lJ w l gy gt gtb ga iZ q tl)(J:Ext w I):lJ I l gy gt gtb ga iZ q tl:=h.aa (J.aa λ_=>False) (by grind)
theorem Tn(V:aQ .i64 w aZ sc):aq x7 BB [Γ af,aZ,Δ pos,Δ v] w λr I=>Ext w I/\∃gs bW bf bh,r= .func (.func nF) #[] #[Γ bW,Γ bf,Γ bh,Γ gs]/\pb I af gs bW bf bh aZ pos v/\w.heap.size<=gs/\w.heap.size<=bW/\w.heap.size<=bf/\w.heap.size<=bh:=by
 obtain⟨_,_,_,y⟩:=dA V;refine aF func212 ?_;refine bo λgs U A s h=>?_;refine bo λbW ab B j a=>?_;refine bo λbf C E e q=>?_;refine bo λbh x G f z=>?_;have h:ai x gs dx [Γ af]:=((ai.W h j).W e).W f;have a:ai x bW av [aZ]:=by rw[y]at a ⊢;exact(ai.W a e).W f
 have q:=ai.W q f;rw[lh];have H:=s.size;have J:=j.size;have z3:=e.size;exact⟨((s.F j).F e).F f,gs,bW,bf,bh,rfl,⟨h,a,q,z⟩,Ω,Ω,Ω,Ω⟩
theorem gN.own{S:ak}(h:gN af ag R n s gs bW bf bh aZ sc pos v B0 D w)(f:aj S w I)(G:∀r,S r->B0<=r/\¬D r):gN af ag R n s gs bW bf bh aZ sc pos v B0 D I:=by
 obtain⟨h1,z,B,j,q,A,s',bu,x,C,E⟩:=h;have no:∀{r:Nat},r<B0->¬S r:=by grind
 refine⟨h1.aa f (by grind),z,jC B f λr y a n c e F=>?_,j,⟨?_,Y7 q.2 f.size⟩,A,s',bu,⟨x.1.aa f λr _ y V=>?_,x.2⟩,C,E⟩
 .exact no (j r ⟨a,n,c,e,F⟩) y
 .exact iu f (no Ω) q.1
 grind
def To(P:(Nat->Prop)->x4->Prop)(aA:(Nat->Prop)->Nat->x4->Prop)(L:List (Λ))(l B:Nat):Prop:=∀(D:Nat->Prop)(k:Nat)tl aV I,(∀r,D r->B<=r/\r<I.heap.size)->B<=I.heap.size->P D I->L[k]?=σ tl->aQ .i64 I aV tl->aA D k I->
 jv x7 l [aV] I λu a=>u= .bool ms/\(∃D',(∀r,D' r->D r\/I.heap.size<=r/\r<a.heap.size)/\(∀r,D r->D' r)/\P D' a/\aA D' (k+1) a)/\cR I a/\I.heap.size<=a.heap.size/\aj (λr=>r<B\/D r) I a
def ts(D:Nat->Prop)(B gy gtb ga gt:Nat):Prop:=(B<=gy/\¬D gy)/\(B<=gtb/\¬D gtb)/\(B<=ga/\¬D ga)/\B<=gt/\¬D gt
theorem ts.go{D':Nat->Prop}{m bX:Nat}(h:ts D B gy gtb ga gt)(a:∀r,D' r->D r\/m<=r/\r<bX)(hm:gy<m/\gtb<m/\ga<m/\gt<m):ts D' B gy gtb ga gt:=
 have f:∀{g:Nat},g<m->¬D g->¬D' g:=by grind
 ⟨⟨h.1.1,f hm.1 h.1.2⟩,⟨h.2.1.1,f hm.2.1 h.2.1.2⟩,⟨h.2.2.1.1,f hm.2.2.1 h.2.2.1.2⟩,h.2.2.2.1,f hm.2.2.2 h.2.2.2.2⟩
theorem lJ.lt{l q:Nat}{iZ:Array x1}(h:lJ w l gy gt gtb ga iZ q tl):gy<w.heap.size/\gtb<w.heap.size/\ga<w.heap.size/\gt<w.heap.size:=
 ⟨h.1.lt,h.2.1.lt,h.2.2.1.lt,(b5 h.2.2.2 ⟨_,_,_,rfl,rfl⟩).2⟩
def AtR(l gy gt gtb ga:Nat)(iZ:Array x1)(P:(Nat->Prop)->x4->Prop)(aA:(Nat->Prop)->Nat->x4->Prop)(S:ak)(D:Nat->Prop)(w:x4)(sl k p:Nat)(tl:Λ)(I:x4):Prop:=
 w.heap.size<=I.heap.size/\∃D' a,a.length=sl/\a.take p=tl.take p/\lJ I l gy gt gtb ga iZ sl a/\((∀r,D' r->D r\/w.heap.size<=r/\r<I.heap.size)/\∀r,D r->D' r)/\P D' I/\aA D' k I/\aj S w I
section
variable{l gy gt gtb ga B:Nat}{iZ:Array x1}{P:(Nat->Prop)->x4->Prop}{aA:(Nat->Prop)->Nat->x4->Prop}{S T:ak}{D:Nat->Prop}{w U ab:x4}{sl k p:Nat}{tl:Λ}
theorem AtR.own(A:∀D T U ab,aj T U ab->(∀r,T r->B<=r/\¬D r)->P D U->P D ab)(e:∀D k U ab,aj (λr=>B<=r/\¬D r) U ab->gg B U ab->aA D k U->aA D k ab)(h:AtR l gy gt gtb ga iZ P aA S D w sl k p tl U)(a:aj T U ab)(f:gg B U ab)(C:∀r,T r->r<w.heap.size/\¬D r/\B<=r/\S r/\r≠gy/\r≠gtb/\r≠ga/\r≠gt):AtR l gy gt gtb ga iZ P aA S D w sl k p tl ab:=by
 obtain⟨j,D',q,h1,s,x,⟨E,F⟩,G,y,z⟩:=h;have H:∀r,T r->B<=r/\¬D' r:=by grind
 exact⟨Y7 j a.size,D',q,h1,s,x.aa a (by grind),
  by grind [Nat.lt_of_lt_of_le,aj.size],by grind,e D' k U ab (a.Y (by grind)) f y,z.F (a.Y (by grind))⟩
theorem AtR.base{w0:x4}(h:AtR l gy gt gtb ga iZ P aA S D w sl k p tl U)(J:Ext w0 w)(a:∀r,r<w0.heap.size->S r->T r):AtR l gy gt gtb ga iZ P aA T D w0 sl k p tl U:=by
 obtain⟨e,D',f,h1,j,q,⟨s,x⟩,y,z,A⟩:=h;exact⟨Y7 J.size e,D',f,h1,j,q,⟨λr B=>(s r B).imp id λh=>⟨Y7 J.size h.1,h.2⟩,x⟩,y,z,((J.aa S).F A).Y a⟩
theorem AtR.comp{a:Nat->Prop}{e:Λ}{x:Int}(E:∀r,r<B\/D r\/r=gt->S r)(F:∀r,a r->D r\/w.heap.size<=r/\r<U.heap.size)(G:∀r,D r->a r)(f:aj S w U)(H:e.take p=tl.take p)(h:AtR l gy gt gtb ga iZ P aA (λr=>r<B\/a r\/r=gt) a U sl k (p+1) (e.set p x) ab):AtR l gy gt gtb ga iZ P aA S D w sl k p tl ab:=by
 obtain⟨j,D',q,h1,s,y,⟨I,J⟩,z,A,C⟩:=h;have V:=f.size;refine⟨Y7 V j,D',q,h1,?_,y,⟨λr K=>?_,by grind⟩,z,A,?_⟩
 .have:=congrArg (List.take p) s
  grind [List.take_set_of_le]
 .grind
 .refine ((f.Y (by grind)).F (C.Y λr _ h=>?_):aj (λr=>S r\/w.heap.size<=r) w ab).Y (by grind)
  grind
end
theorem Tp{α β:Type}{l:List α}{a:α->List β}{i:Nat}{y:α}{z:β}(h:l[j]?=σ y)(hi:(a y)[i]?=σ z):(l.flatMap a)[((l.take j).flatMap a).length+i]?=σ z:=by
 have q:=(x5.1 h).1;have e:l=l.take j++y::l.drop (j+1):=by
  grind [List.take_append_drop,Y8]
 conv=>lhs;rw[e,List.flatMap_append,U2]
 have f:=(x5.1 hi).1;have el:((l.take j++y::l.drop (j+1)).take j)=l.take j:=by grind
 rw[el,X1 Ω,Nat.add_sub_cancel_left,V3 f];exact hi
theorem Tq{t:r8}{b o:Nat}{x:x1}(a:lj x7 t=ms)(h:w.cell? ⟨b,o,ν⟩=σ x):ad x7 (do loadVar t (<-asAddr (.pointer (σ ⟨b,o,ν⟩)))) w K=K x:=ad.of λI J=>by
 have bg:=km J h;unfold lj at a;cases hu:x7.underlying t with
 |none=>grind
 |some d=>
  rw[hu]at a;cases d<;>first|(cases a;done)|simp[asAddr,loadVar,isAgg,run_underlying hu,bg]
def nl(bW gy gtb bf bh ga gs:Nat):Array x1:=#[Γ bW,Γ gy,Γ gtb,Γ bf,Γ bh,Γ ga,Γ gs]
def wj(p:Nat)(bW gy gtb bf bh ga gs:Nat):List x1:=[Δ (p:Int),Γ bW,Γ gy,Γ gtb,Γ bf,Γ bh,Γ ga,Γ gs]
theorem Tr{l:Nat}{L:List (Λ)}{aA:(Nat->Prop)->Nat->x4->Prop}(bR:0<=pos)(bS:∀u∈sc,0<=u/\u<n.d6.length)(cV:sc.length<=6)(cW:B0<=B)(cX:gt≠gy/\gt≠gtb/\gt≠ga)(O:∀D k U ab,aj (λr=>B<=r/\¬D r) U ab->gg B U ab->aA D k U->aA D k ab)(bT:To (gN af ag R n s gs bW bf bh aZ sc pos v B0) aA L l B):
  ∀(q p:Nat)(tl:Λ)(k:Nat)(D:Nat->Prop)(w:x4),sc.length=p+q->tl.length=sc.length->(∀r,D r->B<=r/\r<w.heap.size)->B<=w.heap.size->ts D B gy gtb ga gt->lJ w l gy gt gtb ga (nl bW gy gtb bf bh ga gs) sc.length tl->gN af ag R n s gs bW bf bh aZ sc pos v B0 D w->aA D k w->
   (∀i x,(gu s sc pos v q p tl)[i]?=σ x->L[k+i]?=σ x)->
   aq x7 px (wj p bW gy gtb bf bh ga gs) w λr I=>r= .bool ms/\AtR l gy gt gtb ga (nl bW gy gtb bf bh ga gs) (gN af ag R n s gs bW bf bh aZ sc pos v B0) aA (λr=>r<B\/D r\/r=gt) D w sc.length (k+(gu s sc pos v q p tl).length) p tl I:=by
 obtain⟨eM,rfl⟩:=Y6 bR;have Y:∀D T U ab,aj T U ab->(∀r,T r->B<=r/\¬D r)->gN af ag R n s gs bW bf bh aZ sc eM v B0 D U->gN af ag R n s gs bW bf bh aZ sc eM v B0 D ab:=λD T U ab aL cY h=>h.own aL (by grind);have aN:∀{H:x4}{K:x1->Prop},ai H bW av [aZ]->K aZ->ad x7 (u4 av (Γ bW)) H K:=λaO aP=>by rw[aD Ψ (aO.cell rfl)];exact aP
 have aQ:∀{aS p:Nat}{tl:Λ}{D:Nat->Prop}{w ab H:x4}{a:Nat}{b:Bool},Ext w ab->w.heap.size<=a->a<ab.heap.size->(∀r,D r->B<=r/\r<w.heap.size)->B<=w.heap.size->(gy<w.heap.size/\gtb<w.heap.size/\ga<w.heap.size/\gt<w.heap.size)->
   AtR l gy gt gtb ga (nl bW gy gtb bf bh ga gs) (gN af ag R n s gs bW bf bh aZ sc eM v B0) aA (λr=>r<B\/D r\/r=gt\/r=a) D ab sc.length aS p tl H->ai H a eE [.bool b]->
   aM x7 (o7 eE (Γ a) (.bool ms)) H λ(_:Unit)aU=>ad x7 (do loadVar eE (<-asAddr (Γ a))) aU λr=>wJ w.heap.size aU λbe=>r= .bool ms/\AtR l gy gt gtb ga (nl bW gy gtb bf bh ga gs) (gN af ag R n s gs bW bf bh aZ sc eM v B0) aA (λr=>r<B\/D r\/r=gt) D w sc.length aS p tl be:=by
  intro aS p tl D w ab H a b z bg ae S Z ah aV aW;have bU:∀r,r=a->r<ab.heap.size/\¬D r/\B<=r/\(r<B\/D r\/r=gt\/r=a)/\r≠gy/\r≠gtb/\r≠ga/\r≠gt:=by
   grind
  refine aM.cO (bs eE.i rfl rfl aW Ξ λaU bV cZ aX bX=>?_);have aX:=aX;have bY:=aV.own Y O bV bX.o bU;rw[Tq Ψ (aX.cell rfl)];intro be bZ b0;refine⟨rfl,((bY.own Y O (bZ.aa λ_=>False) (b0.2.Y Z) λ_ h=>h.elim).base z λr ak h=>?_)⟩
  grind
 intro q;induction q with
 |zero=>
  intro p tl k D w b1 ay S Z E am aY a1 an;refine iM func268 ?_;refine aM.cO (bo λg1 U b2 ap f a2=>?_);refine aM.cO (bC eE.i λa ab bg V M a8=>?_);have z:=ap.F V;have b3:=ap.size;have b4:=V.size;have f:=ai.W f V;have M:=M;have ae:=M.lt;have az:=O D k w ab (z.aa _) (a2.F a8).o a1;have G:=aY.W z;have C:=am.W z;rw[aD Ψ (f.cell rfl)];refine aN G.1.2.1 ?_;rw[a7 av.u G.2.2.1,bl,ao];refine⟨λ_=>?_,λh=>m2 Ω h⟩;rw[aD Ψ (C.1.cell rfl),aD Ψ (C.2.1.cell rfl)];have b5:=an 0 tl rfl;refine(show jv x7 l [.slice (σ ⟨gt,0,ν⟩) sc.length sc.length] ab _ from jv.Y (bT D k tl _ ab (by grind) Ω G b5 C.2.2.2.ls az) ?_);rintro _ b6 ⟨rfl,⟨D',d1,d2,b7,b8⟩,b9,ca,ba⟩;refine⟨b9,?_⟩;have ah:=am.lt;have bi:∀{g:Nat},w.heap.size<=g->¬D g:=by grind
  have aC:∀{g:Nat},B<=g->¬D g->¬(g<B\/D g):=by grind
  have aW:=M.aa ba (by grind);have aV:AtR l gy gt gtb ga (nl bW gy gtb bf bh ga gs) (gN af ag R n s gs bW bf bh aZ sc eM v B0) aA (λr=>r<B\/D r\/r=gt\/r=a) D ab sc.length (k+1) p tl b6:=
   ⟨ca,D',tl,ay,rfl,C.aa ba ⟨aC E.1.1 E.1.2,aC E.2.1.1 E.2.1.2,aC E.2.2.1.1 E.2.2.1.2,aC E.2.2.2.1 E.2.2.2.2⟩,⟨d1,d2⟩,b7,b8,ba.Y (by grind)⟩
  exact aQ z Ω ae S Z ah aV aW
 |succ q bj=>
  intro p tl k D w b1 ay S Z E am aY a1 an;refine iM func268 ?_;refine aM.cO (bo λg1 U b2 ap f a2=>?_);refine aM.cO (bC eE.i λa ab bg V M a8=>?_);have z:=ap.F V;have b3:=ap.size;have b4:=V.size;have f:=ai.W f V;have M:=M;have ae:=M.lt;have h1:=f.lt;have az:=O D k w ab (z.aa _) (a2.F a8).o a1;have G:=aY.W z;have C:=am.W z;have ah:=am.lt;have bi:∀{g:Nat},w.heap.size<=g->¬D g:=by grind
  rw[aD Ψ (f.cell rfl)];refine aN G.1.2.1 ?_;rw[a7 av.u G.2.2.1,bl,ao];refine⟨λh=>m2 h Ω,λ_=>?_⟩;rw[aD Ψ (f.cell rfl),aD Ψ (G.1.2.2.1.cell rfl),bl,ao];have bk:∀{H:x4}{K:x1->Prop},ai H gtb av [.slice (σ ⟨gt,0,ν⟩) sc.length sc.length]->K (.slice (σ ⟨gt,0,ν⟩) sc.length sc.length)->ad x7 (u4 av (Γ gtb)) H K:=λaO aP=>by rw[aD Ψ (aO.cell rfl)];exact aP
  have bn:∀{D:Nat->Prop}(r:Nat),ts D B gy gtb ga gt->r=gt->B<=r/\¬D r:=λr h e=>e▸⟨h.2.2.2.1,h.2.2.2.2⟩;refine⟨λhe=>?_,λcb=>?_⟩
  .refine bk C.2.1 ?_;rw[aD Ψ (f.cell rfl),aD Ψ (G.1.2.2.2.cell rfl),jV rfl av.u al.i C.2.2.2 Ω];refine aM.cO (jW al.i C.2.2.2 Ω λaE Q c0 cc cd=>?_);have bp:lJ aE l gy gt gtb ga (nl bW gy gtb bf bh ga gs) sc.length (tl.set p v):=⟨C.1.aa Q Ω,C.2.1.aa Q Ω,C.2.2.1.aa Q Ω,cc⟩;have ce:=Y D _ _ _ Q (by grind) G;have cf:=O D k ab aE (Q.Y (by grind)) cd.o az;have cg:=f.aa Q Ω;have ch:=M.aa Q Ω;rw[aD Ψ (bp.2.2.1.cell rfl),aD Ψ (cg.cell rfl),aR,hx Ω Ω];have hw:gu s sc eM v (q+1) p tl=gu s sc eM v q (p+1) (tl.set p v):=by rw[gu,lw he]
   rw[hw];rw[hw]at an;refine(show aq x7 px (wj (p+1) bW gy gtb bf bh ga gs) aE _ from aq.Y (bj (p+1) (tl.set p v) k D aE Ω (by grind) (by grind) Ω E bp ce cf an) ?_);rintro _ ci c1 ⟨rfl,bq⟩;have cj:ai ci a eE [.bool ne]:=by
    obtain⟨_,_,_,_,_,_,_,_,_,ck⟩:=bq;exact ch.aa ck (by grind)
   exact aQ z Ω ae S Z ah (AtR.comp (by grind) (by grind) (λ_ h=>h) (Q.Y Ω) rfl bq) cj
  intro c2 aF _ cl;have aG:=G.W aF;obtain⟨A,s',bu,br,cm,c3⟩:=id aG.2.2.2.2.2;obtain⟨u,hu⟩:=aK (l:=sc) (i:=p) Ω;obtain⟨cn,c4⟩:=bS u (x6 hu);have c5:=br.2.2.2.1.d7;obtain⟨x,bt⟩:=aK (l:=s'.d7) (i:=u.toNat) Ω;rw[aD Ψ (aG.1.1.cell rfl)];refine aN aG.1.2.1 ?_;rw[aD Ψ ((f.W aF).cell rfl),bm av.u al.i Ψ aG.2.2.1 hu];refine(iW (i:=u) br).Y ?_;rintro _ c6 cp ⟨⟨b,c7,rfl,bw⟩,bx⟩;refine(l3).Y ?_;rintro _ aH cq ⟨cr,bz,rfl,c8,bA⟩;have bB:=kC bw cn bt;have ct:aT s (sc.getD p 0)=aB x:=by
   rw[<-cm,p8,hu,Option.getD_some];unfold aT;rw[bt]
  have bD:gu s sc eM v (q+1) p tl=(aB x).flatMap λy=>gu s sc eM v q (p+1) (tl.set p y):=by rw[gu,m1 cb,ct]
  have W:=(aF.F bx).F cr;have cu:=(cl.F cp).F cq;have z12:=W.size;have c9:=(aF.F bx).size;have da:=bA.lt;have bF:B<=aH.heap.size:=Ω
  have cw:=O D k ab aH (W.aa _) cu.o az;have bG:=G.W W;have bH:=C.W W;refine⟨Nat,ne,ne,jy,#[Γ bz],0,_,_,λ_=>_,λ_ j I=>AtR l gy gt gtb ga (nl bW gy gtb bf bh ga gs) (gN af ag R n s gs bW bf bh aZ sc eM v B0) aA (λr=>r<B\/D r\/r=gt) D aH sc.length (k+(((aB x).take j).flatMap λy=>gu s sc eM v q (p+1) (tl.set p y)).length) p tl I/\ai I g1 al [Δ (p:Int)]/\ai I a eE [.bool ne],
   λ_ _ _ _=>False,rfl,(l2 (g:=bz) bw.1).s.x,?_,λ_ _ _ J h=>⟨h.1.W J,h.2.W J⟩,?_,by grind,⟨bA,bG.2.2.2.2.1.1⟩,?_,?_,?_,λ_ _ _ h=>h.elim,by grind⟩
  .rintro _ _ _ _ ⟨_,_,_,_,rfl⟩;rfl
  .rintro _ j db dc aL cz ⟨X,au,N⟩;have J:=aL.W (by grind);exact⟨X.own Y O (J.aa λ_=>False) (cz.Y bF) λ_ h=>h.elim,au.W J,N.W J⟩
  .exact⟨⟨p9 _,D,tl,ay,rfl,bH,⟨by grind,λ_ h=>h⟩,bG,by simpa using cw,aj.refl _ _⟩,f.W W,M.W W⟩
  .rintro _ _ j _ dd _ _ ⟨cA,de⟩ ⟨df,rfl,y,cB,cC⟩ ⟨cD,bI,cE⟩;cases cC;intro bJ aw cF _;have bK:(aB x)[j]?=σ (y:Int):=by rw[<-bB,v8,cB];rfl
   have cG:=cD.own Y O (aw.aa λ_=>False) (cF.2.Y bF) λ_ h=>h.elim;obtain⟨dg,ax,aI,X,au,N,⟨aJ,cH⟩,cI,cJ,cK⟩:=cG;have cL:=bH.lt;have bc:=E.go aJ cL;have bL:∀r,ax r->B<=r/\r<bJ.heap.size:=λr ak=>(aJ r ak).elim (λh=>⟨(S r h).1,by have:=(S r h).2;omega⟩) Ω;refine bk N.2.1 ?_;rw[aD Ψ ((bI.W aw).cell rfl),jV rfl av.u al.i N.2.2.2 Ω];refine aM.cO (jW al.i N.2.2.2 Ω λac P dh cM cN=>?_);have bM:lJ ac l gy gt gtb ga (nl bW gy gtb bf bh ga gs) sc.length (aI.set p y):=⟨N.1.aa P Ω,N.2.1.aa P Ω,N.2.2.1.aa P Ω,cM⟩;have cP:=Y ax _ _ _ P (λr h=>bn r bc h) cI;have cQ:=O ax _ bJ ac (P.Y λr _ h=>bn r bc h) cN.o cJ;have bN:ai ac g1 al [Δ (p:Int)]:=(bI.W aw).aa P Ω;have cR:ai ac a eE [.bool ne]:=(cE.W aw).aa P Ω;have cS:=(cA.W aw).aa P Ω;rw[aD Ψ (bM.2.2.1.cell rfl),aD Ψ (bN.cell rfl),aR,hx Ω Ω];have bO:gu s sc eM v q (p+1) (aI.set p (y:Int))=gu s sc eM v q (p+1) (tl.set p (y:Int)):=Tl Ω (by rw[Z5];exact ay) (by rw[Z5];exact X) (by rw[wh Ω,wh Ω,au]);refine(show aq x7 px (wj (p+1) bW gy gtb bf bh ga gs) ac _ from aq.Y (bj (p+1) (aI.set p y) _ ax ac Ω (by rw[Z5];exact X) (λr ak=>⟨(bL r ak).1,by have:=(bL r ak).2;omega⟩) Ω bc bM cP cQ λi di hi=>?_) ?_)
   .rw[bO]at hi;rw[Nat.add_assoc];refine an _ _ ?_;rw[bD];exact Tp bK hi
   rintro _ dj dk ⟨rfl,bP⟩;rw[bE,Y1,a6];have bQ:=AtR.comp (λr h=>h) (λr h=>(aJ r h).imp id Ω) cH (cK.F (P.Y Ω)) au bP;obtain⟨_,_,_,_,_,_,_,cT,_,bd⟩:=bP;have bb:∀{g:Nat},w.heap.size<=g->g<aH.heap.size->¬(g<B\/ax g\/g=gt):=λcU dl h=>by
    rcases h with h|h|h
    .omega
    .exact (aJ _ h).elim (bi cU) Ω
    .omega
   refine⟨⟨cS.aa bd (bb Ω Ω),cT.2.2.2.2.1.1⟩,⟨?_,bN.aa bd (bb Ω Ω),cR.aa bd (bb Ω Ω)⟩,by grind⟩;have e:k+(((aB x).take j).flatMap λy=>gu s sc eM v q (p+1) (tl.set p y)).length+(gu s sc eM v q (p+1) (aI.set p (y:Int))).length=k+(((aB x).take (j+1)).flatMap λy=>gu s sc eM v q (p+1) (tl.set p y)).length:=by
    rw[bO,u7,bK,o8,List.flatMap_append,List.flatMap_singleton,o4];omega
   rw[e]at bQ;exact bQ
  .rintro _ j dm rfl ⟨X,au,N⟩;rw[j4 (by rw[<-bB,u9];omega),<-bD]at X;exact aQ z Ω ae S Z ah (X.base W (by grind)) N
end
section
variable{af ag gs bW bf bh B0:Nat}{R:ak}{n:aI}{s:an}{aZ:x1}{sc:Λ}{v:Int}
theorem GC{eM:Nat}(S:∀u∈sc,0<=u/\u<n.d6.length)(W:sc.length<=6):
  rR x7 ms ne nF [Γ bW,Γ bf,Γ bh,Γ gs] 0 (λk=>k=(bV s sc eM v).length)
   (λk vs X w=>X=k+1/\∃tl aV,(bV s sc eM v)[k]?=σ tl/\vs=[aV]/\aQ .i64 w aV tl) (gN af ag R n s gs bW bf bh aZ sc eM v B0):=by
 refine⟨nF.enters,λl aA aX w Y _ Z hf ac=>?_⟩;have E:∀D k U ab,aj (λr=>w.heap.size<=r/\¬D r) U ab->gg w.heap.size U ab->aA D k U->aA D k ab:=λD k U ab ae ah=>Y D k U ab (ae.Y λr _ h=>⟨rfl,h⟩) ah;have V:=hf.2.2.1;have ak:=hf.2.2.2.2.1.2;obtain⟨_,_,_,aY⟩:=dA V;refine qO func267 ?_;refine aM.cO (bo λgy U a1 j G am=>?_);have an:∀{H:x4}{K:x1->Prop},ai H bW av [aZ]->K aZ->ad x7 (u4 av (Γ bW)) H K:=λao ap=>by rw[aD (v:=aZ) Ψ (ao.Qz rfl)];exact ap
 refine an (hf.1.2.1.W j) ?_;rw[a7 av.u (V.W j)];refine aM.cO (lk (k:=.i64) av.u al.i Ω Ω λgt ab a2 A J aq=>?_);refine aM.cO (bC av.i λgtb a6 a8 q M au=>?_);refine aM.cO (bs av.i rfl rfl M (by simp[x1.cells]) λba C bb aw ax=>?_);refine aM.cO (bC qK.i λga bc bd e N ay=>?_);rw[lh];refine aM.cO (bs qK.i rfl rfl N (by simp[x1.cells]) λa y be az aB=>?_);have bg:=j.size;have bi:=A.size;have z3:=q.size;have z5:=e.size;have bj:=G.lt;have bk:=J.lt;have bl:=M.lt;have bm:=N.lt;have aC:ai a gy BL [.func (.yield l) #[] #[]]:=(((((ai.W G A).W q).aa C Ω).W e).aa y Ω);have aE:ai a gt al (ints .i64 (r9 sc.length 0)):=((((J.W q).aa C Ω).W e).aa y Ω);have aF:ai a gtb av [.slice (σ ⟨gt,0,ν⟩) sc.length sc.length]:=((ai.W aw e).aa y Ω);have O:ai a ga qK [.func (.func px) #[] (nl bW gy gtb bf bh ga gs)]:=az;rw[aD (v:=.func (.func px) #[] (nl bW gy gtb bf bh ga gs)) Ψ (O.Qz rfl)];have hm:aH .i64 al a gt (.slice (σ ⟨gt,0,ν⟩) sc.length sc.length) (r9 sc.length 0):=by
  have:=b7.full (n:=sc.length) (k:=1) aE Ξ (by simp only[maxLen];omega);unfold aH;rw[List.length_replicate];exact this
 have aG:=(j.F A).F q;have P:aj (λr=>w.heap.size<=r/\¬False) w a:=(((aG.aa _).F (C.Y λr _ h=>⟨by have h:r=gtb:=h;omega,id⟩)).F (e.aa _)).F (y.Y λr _ h=>⟨by have h:r=ga:=h;omega,id⟩);have aI:cR w a:=((((am.F aq).F au).F ax).F ay).F aB;have aJ:gN af ag R n s gs bW bf bh aZ sc eM v B0 (λ_=>False) a:=hf.own P λr aK=>⟨Ω,aK.2⟩;have Q:=Tm (s:=s) (sc:=sc) (pos:=eM) (v:=v) (tl:=r9 sc.length 0) Ξ;refine(show io x7 px (wj 0 bW gy gtb bf bh ga gs) a _ from(Tr (L:=bV s sc eM v) (B:=w.heap.size) (l:=l) (gy:=gy) (gt:=gt) (gtb:=gtb) (ga:=ga) (pos:=eM) Ω S W ak ⟨Ω,Ω,Ω⟩ E ?_ sc.length 0 (r9 sc.length 0) 0 (λ_=>False) a Ω Ξ (λ_ h=>h.elim) Ω ⟨⟨Ω,id⟩,⟨Ω,id⟩,⟨Ω,id⟩,Ω,id⟩ ⟨aC,aF,O,hm⟩ aJ (E _ _ _ _ P aI.o ac) λi x hi=>?_).free.Y ?_)
 .intro D k tl aV I aL aN aO aP aR z;refine jv.Y (Z D k (k+1) [aV] I aL aN aO ⟨rfl,tl,aV,aP,rfl,aR⟩ z) ?_;rintro u bn (⟨h1,aS,aT,aU,aW⟩|⟨h,_⟩)
  .exact⟨h1,aS,aT (.inr rfl),aU,aW rfl⟩
  .cases h
 .rw[Q]at hi;rw[V7];exact hi
 .rintro _ bp ⟨_,rfl,_,D',_,_,_,_,_,_,z,_⟩;rw[Q,V7]at z;exact .inl ⟨D',_,rfl,z⟩
end
def GD(m gs bW bf bh:Nat)(aZ:x1):Prop:=(m<=gs/\m<=bW/\m<=bf/\m<=bh)/\∀r,hv aZ r->m<=r
section
variable{af ag gs bW bf bh B0 m:Nat}{A R:ak}{n:aI}{s s':an}{t:az}{aZ:x1}{sc:Λ}{pos v:Int}{w I:x4}
theorem bw.lt(h:bw w af ag A R n s t){r:Nat}(a:A r\/R r):r<w.heap.size:=by
 obtain⟨⟨j,q,x,y,⟨_,_,e,f⟩,_⟩,_⟩:=h;exact a.elim (f r) (e r)
theorem gN.put{D' S:Nat->Prop}(h:gN af ag R n s gs bW bf bh aZ sc pos v B0 D w)(j:aj S w I)(hm:GD m gs bW bf bh aZ)(z:∀r,S r->r<m\/B0<=r)(B:Laid I)(C:bw I af ag A R n s' t)(E:∀i,aT s' i=aT s i)(F:∀r,A r\/R r->r<B0\/D' r):gN af ag R n s gs bW bf bh aZ sc pos v B0 D' I:=by
 obtain⟨h1,f,q,x,G,_⟩:=h;have no:∀{r:Nat},m<=r->r<B0->¬S r:=λh1 f q=>by have:=z _ q;omega
 exact⟨h1.aa j ⟨no hm.1.1 f.1,no hm.1.2.1 f.2.1,no hm.1.2.2.1 f.2.2.1,no hm.1.2.2.2 f.2.2.2⟩,f,jC q j λr H a n c e y=>no (hm.2 r ⟨a,n,c,e,y⟩) (x r ⟨a,n,c,e,y⟩) H,x,⟨B,Y7 G.2 j.size⟩,A,s',t,C,E,F⟩
theorem GF{f:bI}{X:x4->Prop}{K:x1->x4->Prop}(h:bw w af ag A R n s t)(y:Laid w)(ah:s.d8[j]?=σ f)(B:∀aZ gs bW bf bh I,Ext w I->GD w.heap.size gs bW bf bh aZ->gN af ag R n s gs bW bf bh aZ f.sc pos v I.heap.size (λ_=>False) I->K (.func (.func nF) #[] #[Γ bW,Γ bf,Γ bh,Γ gs]) I):
  aq x7 rW [Γ af,Δ (j:Int)] w λaZ U=>(Ext w U\/X U)/\aq x7 BB [Γ af,aZ,Δ pos,Δ v] U K:=by
 refine(mm h ah).Y ?_;rintro aZ U _ ⟨q,g,C,hm⟩;refine⟨.inl q,(Tn hm.ls).Y ?_⟩;rintro _ ab _ ⟨x,gs,bW,bf,bh,rfl,a,E,G,H,L⟩;have J:=q.F x;have M:=q.size;have z:=J.size;refine B aZ gs bW bf bh ab J ⟨⟨Ω,Ω,Ω,Ω⟩,λr e=>(b5 hm e).1▸C⟩ ⟨a,⟨a.1.lt,a.2.1.lt,a.2.2.1.lt,a.2.2.2.lt⟩,hm.ls.W x,λr e=>?_,⟨y.W J,p9 _⟩,A,s,t,h.W J,λ_=>rfl,λr e=>.inl ?_⟩
 .have:=b5 hm e;have:=x.size;omega
 .have:=h.lt e;omega
end
section
variable{k:Int}{d6:Λ}{s:an}{f:bI}{j pos:Nat}{v:Int}{tl:Λ}
theorem GG{m:Nat}(ah:s.d8[j]?=σ f)(a:f.live≠0)(hm:ct f.am tl 0=σ (m:Int)):(ig s j tl).isSome=ms/\mh s j tl=bt f.am f.cs tl:=by
 unfold ig mh;rw[ah];simp[a,hm]
end
section
variable{w:x4}{af ag:Nat}{A R:ak}{n:aI}{s:an}{t:az}
theorem GH{f:bI}(h:bw w af ag A R n s t)(aj:Laid w)(ah:s.d8[j]?=σ f)(aA:f.live≠0)(ac:∀u,f.sc[pos]?=σ u->v∈aT s u):
  aq x7 J9 [Γ af,Δ (j:Int),Δ (pos:Int),Δ v] w λr I=>r=Δ (eN n.k s f pos v)/\Ext w I:=by
 have ak:=h.2.2.2.1;have an:=x6 ah;obtain⟨O,aS,_⟩:=ak.d8 f an;refine iM func145 ?_;refine bo λg1 U aU P z=>?_;refine bo λao ab aW L M=>?_;have z:=ai.W z L;have M:=M;rw[aD Ψ (z.cell rfl)];refine(n2 (h.W (P.F L))).Y ?_;rintro _ aX _ ⟨rfl,Q⟩;refine bC ax.i λS aY a1 V ap=>?_;have a2:=P.size;have a6:=L.size;have z3:=Q.size;have z4:=V.size;have a7:=z.lt;have a8:=M.lt;have ba:=ap.lt;refine bs ax.i rfl rfl ap (by simp[x1.cells]) λbc W bd X=>?_;have X:=X;intro au B _ _;have be:=B.size;have av:=Q.F V;have Y:=((((P.F L).F Q).F V).then W (by rintro r q rfl;omega)).F B;have Z:ai au g1 dx [Γ af]:=((z.W av).aa W Ω).W B;have aw:ai au ao al [Δ (j:Int)]:=((M.W av).aa W Ω).W B;have ay:=X.W B;have bg:=ay.lt;rw[aD Ψ (Z.cell rfl),aD Ψ (Z.cell rfl),aD Ψ (aw.cell rfl)];refine GF (h.W Y) (aj.W Y) ah λaZ gs bW bf bh aB C aC aE=>?_;have bi:=C.size;refine⟨Nat,ms,ne,nF,#[Γ bW,Γ bf,Γ bh,Γ gs],0,_,_,_,λD k I=>Ext w I/\ai I g1 dx [Γ af]/\ai I ao al [Δ (j:Int)]/\ai I S ax [Δ ((((bV s f.sc pos v).take k).map (bt f.am f.cs)).foldl min n.k)],
  λ_ _ _ _=>False,rfl,GC (λu hu=>⟨(O.scope.1 u hu).1,O.d7 u hu⟩) O.scope.2,?_,λ_ _ _ J h=>h.W J,?_,λ_ _ _ _ _ _ _ h=>h,aE,?_,?_,?_,λ_ _ _ h=>h.elim,λ_ _ _ _ h=>h.elim⟩
 .rintro _ _ _ _ ⟨_,_,_,_,rfl,_⟩;rfl
 .rintro D k aF aG N bj ⟨x,E,G,y⟩;have bb:∀{g:Nat}{e:r8}{cs:List x1},g<aB.heap.size->ai aF g e cs->ai aG g e cs:=λbk aH=>aH.aa N λh=>by have:=h.2.1;omega
  exact⟨x.then N λr q h=>by have:=h.2.1;omega,bb Ω E,bb Ω G,bb Ω y⟩
 .exact⟨Y.F C,Z.W C,aw.W C,ay.W C⟩
 .rintro aV D k bl bm bn bp aI ⟨rfl,tl,bq,az,e,aJ⟩ ⟨x,E,G,y⟩;cases e;intro br H _ aK;obtain⟨m,hm⟩:=o2 ak an ac (x6 az);obtain⟨aL,N⟩:=GG ah aA hm;rw[aD Ψ ((E.W H).cell rfl),aD Ψ ((G.W H).cell rfl)];refine(vH (h.W (x.F H)) (aJ.W H)).Y ?_;rintro _ bu aN ⟨rfl,aO⟩;have a:=H.F aO;rw[lw aL,N,bx,bz,aD Ψ ((y.W a).cell rfl),nK];refine aM.cO (bs ax.i rfl rfl (y.W a) Ξ λbA K bB ad aP=>?_);have bD:=a.size;have ae:=(x.F a).then K (by rintro r q rfl;omega);have aQ:=h.W ae;refine⟨⟨D,λr h=>.inl h,λ_ h=>h,(aI.W a).put K aC (λr q=>.inl (by have q:r=S:=q;omega)) (aj.W ae) aQ (λ_=>rfl) λr q=>.inl (by have:=h.lt q;omega),ae,(E.W a).aa K Ω,(G.W a).aa K Ω,?_⟩,aK.F (aN.kH.F aP.kH),(a.aa _).F (K.Y λr _ h=>.inl (by have h:r=S:=h;omega))⟩;have ad:=ad;rw[u7,az,o8,Z2,List.foldl_append];exact ad
 .rintro D k bE rfl ⟨x,E,G,y⟩;rw[aD Ψ (y.cell rfl)];intro bF aR _;refine⟨?_,x.F aR⟩;rw[j4 (p9 _)];rfl
theorem Ts{j pos:Int}(h:bw w af ag A R n s t)(z:Laid w):aq x7 Kp [Γ af,Δ j,Δ pos,Δ v] w λr I=>Ext w I/\r=(match du s j pos v with|some (f,_,_)=>.tuple #[Δ (eN n.k s f pos.toNat v),Δ 0]|none=>.tuple #[Δ 0,Δ 1]):=by
 refine aF func164 ?_;refine(zy h).Y ?_;rintro _ U _ ⟨a,u,e,rfl,ae⟩;rw[bx,bz];rcases ae with⟨rfl,f,x,ae⟩|⟨rfl,ae⟩
 .rw[ae,bG,ao];refine⟨λh=>m2 rfl h,λ_=>?_⟩;obtain⟨h1,B,C,E,q,G⟩:=nj ae;obtain⟨L,H,M,J⟩:=ke G;obtain⟨j,rfl⟩:=Y6 h1;obtain⟨pos,rfl⟩:=Y6 B;refine(GH (j:=j) (pos:=pos) (h.W a) (z.W a) C E λu' y=>?_).Y ?_
  .have q:f.sc[pos]?=σ u:=q;rw[q]at y;cases y;unfold aT;rw[H];exact J
  .rintro _ ab _ ⟨rfl,K⟩;exact⟨a.F K,rfl⟩
 .rw[ae,bG,ao];exact⟨λ_=>⟨a,rfl⟩,λh=>m2 Φ h⟩
end
def ry(t:az):Prop:=∀m,t.marks.getLast? =σ m->m.olds+t.cells.length<100000000/\t.olds.length<=m.olds+t.cells.countP λc=>decide (c.st=m.st)
def dJ(aw:List az)(t:az):Prop:=eR t aw/\ry t
theorem eR.m{t:az}(h:eR t []):dJ [] t:=⟨h,λm hm=>by rw[h.1]at hm;cases hm⟩
theorem dJ.room{aw:List az}{t:az}(h:dJ aw t):Room t:=by
 cases hm:t.marks.getLast? with
 |none=>exact .inl (List.getLast?_eq_none_iff.1 hm)
 |some m=>
  obtain⟨h1,a⟩:=h.2 m hm;have:=List.countP_le_length (p:=λc:Cell=>decide (c.st=m.st)) (l:=t.cells);exact .inr Ω
theorem ry.set{t:az}{i:Nat}{x:Int}(h:ry t):ry (t.set i x):=by
 unfold az.set;cases e:t.cells[i]? with
 |none=>exact h
 |some c=>
  obtain⟨f,j⟩:=x5.1 e;cases hm:t.marks.getLast? with
  |none=>
   intro m a
   grind
  |some m=>
   obtain⟨h1,q⟩:=h m hm;simp only;split
   .rename_i r;intro bX a
    grind
   .intro bX a
    grind
theorem dJ.set{aw:List az}{t:az}{i:Nat}{x:Int}(h:dJ aw t):dJ aw (t.set i x):=⟨h.1.set,h.2.set⟩
theorem dJ.mark{aw:List az}{t:az}(h:dJ aw t)(a:t.olds.length+t.cells.length<100000000):dJ (t::aw) t.mark:=by
 refine⟨h.1.mark,λm hm=>?_⟩;have hm:(t.marks++[_]).getLast? =σ m:=hm;rw[List.getLast?_concat]at hm;cases hm;exact⟨a,Nat.le_add_right _ _⟩
def cp(aw:List az)(w:x4)(af ag:Nat)(A R:ak)(n:aI)(s':an)(I:x4):Prop:=aj (eB w) w I/\Laid I/\∃aP bu,Grow A w aP I/\bw I af ag aP R n s' bu/\dJ aw bu/\¬aP 0
def dC(aw:List az)(w:x4)(af ag:Nat)(A R:ak)(n:aI)(m:Nat)(D:Nat->Prop)(s':an)(I:x4):Prop:=
 aj (λr=>eB w r\/w.heap.size<=r) w I/\(Laid I/\w.heap.size<=m/\0<w.heap.size/\(∀r,A r\/R r->r<w.heap.size))/\∃aP bu,Grow A w aP I/\bw I af ag aP R n s' bu/\(dJ aw bu/\¬aP 0)/\∀r,aP r->r<m\/D r
section
variable{aw:List az}{w U ab:x4}{af ag m:Nat}{A R:ak}{n:aI}{s s' qo:an}{t:az}{D D' S:Nat->Prop}
theorem dC.start(h:bw w af ag A R n s t)(e:Laid w)(f:¬A 0)(aE:dJ aw t)(J:Ext w U)(hm:w.heap.size<=m):dC aw w af ag A R n m D s U:=
 ⟨J.aa _,⟨e.W J,hm,by
  obtain⟨j,q,x,y,⟨h1,_,_,z⟩,_⟩:=h.1
  grind,λr a=>h.lt a⟩,A,t,Grow.W J,h.W J,⟨aE,f⟩,λr a=>.inl (by have:=h.lt (.inl a);omega)⟩
theorem dC.own(h:dC aw w af ag A R n m D s' U)(a:aj S U ab)(C:∀r,S r->m<=r/\¬D r):dC aw w af ag A R n m D s' ab:=by
 obtain⟨h1,⟨f,j,q,s⟩,aP,bu,⟨g1,x,y⟩,e,z,B⟩:=h;refine⟨h1.F (a.Y (by grind)),⟨iu a (by grind) f,j,q,s⟩,aP,bu,⟨?_,x,y⟩,⟨e.1.aa a λr _ E V=>?_,e.2⟩,z,B⟩
 .exact ((g1.Y (by grind)).F (a.Y (by grind)):aj (λr=>A r\/m<=r) w ab).Y (by grind)
 grind
theorem dC.W(h:dC aw w af ag A R n m D s' U)(J:Ext U ab):dC aw w af ag A R n m D s' ab:=h.own (J.aa λ_=>False) λ_ h=>h.elim
theorem dC.qp(h:dC aw w af ag A R n m D s' U):∃aP bu,bw U af ag aP R n s' bu/\dJ aw bu/\¬aP 0/\∀{ab:x4}{qo:an}{D' a:Nat->Prop}{f:az},aj (eB U) U ab->Grow aP U a ab->bw ab af ag a R n qo f->dJ aw f->(∀r,D r->D' r)->(∀r,U.heap.size<=r->r<ab.heap.size->D' r)->
  dC aw w af ag A R n m D' qo ab/\aj (λr=>r<m\/D r) U ab/\∀r,a r->r<m\/D' r:=by
 obtain⟨h1,⟨y,z,B,C⟩,aP,bu,E,F,j,K⟩:=h;refine⟨aP,bu,F,j.1,j.2,λ{ab qo D' a f}G e s H L I=>?_⟩;have M:=h1.size;have J:¬a 0:=λh=>(e.2.1 0 h).elim j.2 Ω;have x:∀r,a r->r<m\/D' r:=λr q=>(e.2.1 r q).elim (by grind) λh=>.inr (I r h (s.lt (.inl q)));refine⟨⟨h1.F (G.Y λr _ h=>?_),⟨iu e.1 j.2 y,z,B,C⟩,a,f,E.F e,s,⟨H,J⟩,x⟩,e.1.Y (by grind),x⟩;by_cases q:w.heap.size<=r
 .omega
 .exact .inl (oS (λo aE V N=>h1.bb r o aE V (by grind)) h)
theorem dC.open(h:dC aw w af ag A R n m D s' U):∃aP bu,bw U af ag aP R n s' bu/\dJ aw bu/\∀{ab:x4}{qo:an}{D' a:Nat->Prop}{e:az},aj (eB U) U ab->Grow aP U a ab->bw ab af ag a R n qo e->dJ aw e->(∀r,D r->D' r)->(∀r,U.heap.size<=r->r<ab.heap.size->D' r)->
  dC aw w af ag A R n m D' qo ab/\aj (λr=>r<m\/D r) U ab/\∀r,a r->r<m\/D' r:=by
 grind [dC.qp]
theorem dC.done(h:dC aw w af ag A R n m D s' U)(J:Ext U ab):cp aw w af ag A R n s' ab:=by
 obtain⟨h1,⟨e,q,r,s⟩,aP,bu,f,j,a,x⟩:=h.W J;exact⟨h1.Y (by grind),e,aP,bu,f,j,a.1,a.2⟩
end
section
variable{aw:List az}{w:x4}{af ag:Nat}{A R:ak}{n:aI}{s:an}{t:az}
theorem qq{u:Nat}{x:bA}(a:ba n.k n.d6 s)(J:s.d7[u]?=σ x)(ac:v∈aB x):eC n (u:Int) v:=by
 have h:=(x5.1 J).1;have j:=a.d7;obtain⟨z,e⟩:=aK (l:=n.d6) (i:=u) Ω;have q:=(a.var _ x z J e).1;have r:=a.fg.2.2 z (x6 e);have f:=(e1.1 ac).1;refine⟨Ω,Ω,f.1,?_⟩
 grind
theorem GI{f:bI}{g:Int->Int}(a:ba k d6 s)(ah:s.d8[j]?=σ f):eH s j f (eo g [] f.am f.cs)=s:=by
 obtain⟨e,h⟩:=kD a (x6 ah);rw[Sx e Ω (by grind)];have:s.d8.set j f=s.d8:=by
  apply Y5
  grind
 unfold eH;show{s with d8:=s.d8.set j f}=s;rw[this]
theorem GJ{u:Nat}{f:bI}{x:bA}{F1 F2:S9}{tup un:Int->Int}(h:bw w af ag A R n s t)(aN:Laid w)(bg:¬A 0)(aE:dJ aw t)(ah:s.d8[j]?=σ f)(bi:f.live≠0)(hu:f.sc[pos]?=σ (u:Int))(J:s.d7[u]?=σ x)(ac:v∈aB x)(h1:∀tl∈bV s f.sc pos v,(0<=tup (bt f.am f.cs tl)/\tup (bt f.am f.cs tl)<=n.k)/\∀{w:x4}{A:ak}{s:an}{t:az},bw w af ag A R n s t->aq x7 F1 [Γ af,Δ (bt f.am f.cs tl),Δ c] w λr I=>r=Δ (tup (bt f.am f.cs tl))/\Ext w I)(aQ:(0<=un (x.un.getD v.toNat 0)/\un (x.un.getD v.toNat 0)<=n.k)/\∀{w:x4}{A:ak}{s:an}{t:az},bw w af ag A R n s t->aq x7 F2 [Γ af,Δ (x.un.getD v.toNat 0),Δ c] w λr I=>r=Δ (un (x.un.getD v.toNat 0))/\Ext w I):
  aq x7 Ka [.agg #[.func (.func F1) #[] #[],.func (.func F2) #[] #[]],Γ af,Δ (j:Int),Δ (pos:Int),Δ v,Δ c] w λ_ I=>cp aw w af ag A R n (fy s j f pos u x v tup un) I:=by
 have B:=h.2.2.2.1;have ad:=x6 ah;obtain⟨ae,b2,_⟩:=B.d8 f ad;have aR:∀u',f.sc[pos]?=σ u'->v∈aT s u':=by grind [aT]
 have bj:=Gt B ad aR;refine iM func148 ?_;refine bo λbk U b3 aS N=>?_;refine bo λg1 ab b4 ao a=>?_;refine bo λb5 b6 b7 W q=>?_;refine bo λb8 y b9 X O=>?_;have N:ai y bk r0 [.func (.func F1) #[] #[],.func (.func F2) #[] #[]]:=((ai.W N ao).W W).W X;have a:ai y g1 dx [Γ af]:=(ai.W a W).W X;have q:=ai.W q X;have O:=O;have ap:=((aS.F ao).F W).F X;have ca:=aS.size;have cb:=ao.size;have z3:=W.size;have cc:=ap.size;have aU:=N.lt;have C:=a.lt;have aW:=q.lt;have aX:=O.lt;rw[aD Ψ (a.cell rfl),aD Ψ (q.cell rfl)];refine(mm (h.W ap) ah).Y ?_;rintro cd ce _ ⟨bl,_,_,bn⟩;rw[bm av.u al.i Ψ bn.ls hu];intro cf bp _ _;have E:=bl.F bp;have au:=ap.F E;have z46:=E.size;rw[aD Ψ ((a.W E).cell rfl),aD Ψ ((a.W E).cell rfl),aD Ψ ((q.W E).cell rfl)];refine GF (h.W au) (aN.W au) ah λaZ gs bW bf bh aY ax bq br=>?_;have cg:=ax.size;have bs:=E.F ax;refine⟨Nat,ms,ne,nF,#[Γ bW,Γ bf,Γ bh,Γ gs],0,_,_,_,
  λD k I=>dC aw w af ag A R n w.heap.size D (eH s j f (eo tup ((bV s f.sc pos v).take k) f.am f.cs)) I/\(aj (λr=>r<w.heap.size\/aY.heap.size<=r) y I/\aY.heap.size<=I.heap.size),
  λ_ _ _ _=>False,rfl,GC (λu hu=>⟨(ae.scope.1 u hu).1,ae.d7 u hu⟩) ae.scope.2,?_,λ_ _ _ J h=>h.W J,?_,by grind,br,?_,?_,?_,by grind,by grind⟩
 .grind
 .rintro D k ch ci P cj ⟨G,H,ay⟩;exact⟨G.own P (by grind),H.F (P.Y Ω),Y7 ay P.size⟩
 .refine⟨?_,bs.aa _,p9 _⟩;have e:eH s j f (eo tup ((bV s f.sc pos v).take 0) f.am f.cs)=s:=GI B ah;rw[e];exact dC.start h aN bg aE (au.F ax) (p9 _)
 .rintro aV D k ck aA cl cm bu ⟨rfl,tl,cn,aC,e,a1⟩ ⟨G,H,ay⟩;cases e;intro cq Q _ bB;obtain⟨m,hm⟩:=o2 B ad aR (x6 aC);obtain⟨bC,bD⟩:=Gu B ah bj aC hm;obtain⟨⟨bE,bF⟩,bG⟩:=h1 tl (x6 aC);have bb:∀{S:x4}{g:Nat}{e:r8}{cs:List x1},Ext aA S->w.heap.size<=g->g<y.heap.size->ai y g e cs->ai S g e cs:=λJ Y bH aF=>(aF.aa H Ω).W J;have bJ:=(x5.1 ah).1;have a2:(eH s j f (eo tup ((bV s f.sc pos v).take k) f.am f.cs)).d8[j]?=σ {f with cs:=eo tup ((bV s f.sc pos v).take k) f.am f.cs}:=Y2 bJ;obtain⟨Y,P⟩:=GG a2 bi hm;obtain⟨A9,t9,aG,a6,aH⟩:=G.open;rw[aD Ψ ((bb Q Ω C a).cell rfl),aD Ψ ((bb Q Ω aW q).cell rfl)];refine(vH (aG.W Q) (a1.W Q)).Y ?_;rintro _ cr bK ⟨rfl,bL⟩;rw[lw Y,P,bx,bz];intro bM bN _ bO;have z:=(Q.F bL).F bN;rw[aD Ψ ((bb z Ω C a).cell rfl),aD Ψ ((bb z Ω aW q).cell rfl),
   aO r0.p 0 (bb z Ω aU N) rfl,aD Ψ ((bb z Ω C a).cell rfl),aD Ψ ((bb z Ω aX O).cell rfl)]
  show aq x7 F1 [Γ af,Δ (bt f.am (eo tup ((bV s f.sc pos v).take k) f.am f.cs) tl),Δ c] bM _;rw[bC];refine(bG (aG.W z)).Y ?_;rintro _ ct bP ⟨rfl,a7⟩;have V:=z.F a7;refine⟨.inl a7,(RQ (aG.W V) a6.room (a1.W V)).Y ?_⟩;rintro r a8 bQ ⟨_,_,aI⟩;obtain⟨_,Z,aP,bR,bS,aJ,K⟩:=aI Y ⟨bE,bF⟩ _ m a2 hm;rw[bD]at K;have cu:=V.size;have cw:=Z.size;obtain⟨ba,aK,bT⟩:=aH (D':=λr=>D r\/aA.heap.size<=r/\r<a8.heap.size) (iS V Z) ((Grow.W V).F aJ) K a6.set (by grind) Ω;refine⟨⟨λr=>D r\/aA.heap.size<=r/\r<a8.heap.size,λr h=>h,by grind,?_,ba,H.F (aK.Y (by grind)),Ω⟩,bB.F ((((bK.F bO).F bP).F bQ).kH),aK.Y (by grind)⟩;refine bu.put aK bq (λr L=>?_) ba.2.1.1 K (λ_=>rfl) λr L=>?_
  .grind
  .rcases L with L|L
   .exact (bT r L).imp Ω id
   .exact .inl (by have:=h.lt (.inr L);omega)
 .rintro D k bU rfl ⟨G,H,ay⟩;rw[j4 (p9 _)]at G;have bc:=qq B J ac;obtain⟨cz,cA,aL,bd,aH⟩:=G.open;have bb:∀{S:x4}{g:Nat}{e:r8}{cs:List x1},Ext bU S->w.heap.size<=g->g<y.heap.size->ai y g e cs->ai S g e cs:=λJ Y bH aF=>(aF.aa H Ω).W J;rw[aD Ψ ((bb (Ext.refl _) Ω C a).cell rfl)];refine(qb aL).Y ?_;rintro _ cB _ ⟨rfl,bX⟩;have bY:fx (eH s j f (eo tup (bV s f.sc pos v) f.am f.cs)) (u:Int).toNat v.toNat=x.un.getD v.toNat 0:=by
   grind [fx,u5,eH]
  rw[lw bc,bY,bx,bz];intro bZ b0 _ _;have M:=bX.F b0;rw[aD Ψ ((bb M Ω C a).cell rfl),aO r0.p 1 (bb M Ω aU N) rfl,aD Ψ ((bb M Ω C a).cell rfl),aD Ψ ((bb M Ω aX O).cell rfl)];show aq x7 F2 [Γ af,Δ (x.un.getD v.toNat 0),Δ c] bZ _;refine(aQ.2 (aL.W M)).Y ?_;rintro _ cC _ ⟨rfl,be⟩;have aM:=M.F be;refine⟨.inl be,(FQ (aL.W aM) bd.room).Y ?_⟩;rintro r cD _ ⟨_,_,aI⟩;obtain⟨_,Z,aP,bR,bS,aJ,K⟩:=aI bc aQ.1;have e:mi (eH s j f (eo tup (bV s f.sc pos v) f.am f.cs)) (u:Int).toNat v.toNat (un (x.un.getD v.toNat 0))=fy s j f pos u x v tup un:=by
   unfold mi fy e7;rw[u5,show(eH s j f (eo tup (bV s f.sc pos v) f.am f.cs)).d7[u]?=σ x from J]
  rw[e]at K;intro cE b1 _;exact(aH (iS aM Z) ((Grow.W aM).F aJ) K bd.set (by grind) λ_ _ _=>trivial).1.done b1
end
theorem tt(h e:Nat){l a:Nat}(f:l<256)(hm:a<256):(256*h+l) &&& (256*e+a)=256*(h &&& e)+(l &&& a):=by
 have j:l &&& a<2 ^ 8:=Nat.and_lt_two_pow _ hm;apply Nat.eq_of_testBit_eq;intro i;rw[Nat.testBit_and,show 256=2 ^ 8 from rfl,Nat.testBit_two_pow_mul_add _ f,Nat.testBit_two_pow_mul_add _ hm,Nat.testBit_two_pow_mul_add _ j]
 grind
def i7(m x:Nat):Nat:=(x / 2 &&& m)+(x &&& m)
def jL(m x:Nat):Nat:=(x / 4 &&& m)+(x &&& m)
def lK(m x:Nat):Nat:=(x / 16+x) &&& m
def dc(a:Nat):Nat:=lK 15 (jL 51 (i7 85 a))
theorem Tt:∀e<2,∀l<256,(128*e+l / 2) &&& 85=l / 2 &&& 85:=by decide+kernel
theorem Tu:∀e<4,∀l<256,(64*e+l / 4) &&& 51=l / 4 &&& 51:=by decide+kernel
theorem Tv:∀e<5,∀l<69,(16*e+l / 16+l) &&& 15=(l / 16+l) &&& 15:=by decide+kernel
theorem pc:∀l<256,i7 85 l<256/\jL 51 (i7 85 l)<69/\jL 51 (i7 85 l) % 16<5/\dc l<=8/\(dc l=0->l=0):=by decide+kernel
theorem wk(h a:Nat){l:Nat}(e:l<256):i7 (256*a+85) (256*h+l)=256*i7 a h+i7 85 l:=by
 unfold i7;rw[show(256*h+l) / 2=256*(h / 2)+(128*(h % 2)+l / 2) by omega,tt _ _ Ω Ω,tt _ _ e Ω,Tt _ Ω _ e];omega
theorem wm(h a:Nat){l:Nat}(e:l<256):jL (256*a+51) (256*h+l)=256*jL a h+jL 51 l:=by
 unfold jL;rw[show(256*h+l) / 4=256*(h / 4)+(64*(h % 4)+l / 4) by omega,tt _ _ Ω Ω,tt _ _ e Ω,Tu _ Ω _ e];omega
theorem wn(h a:Nat){l:Nat}(e:l<69)(he:h % 16<5):lK (256*a+15) (256*h+l)=256*lK a h+lK 15 l:=by
 unfold lK;rw[show(256*h+l) / 16+(256*h+l)=256*(h / 16+h)+(16*(h % 16)+l / 16+l) by omega,tt _ _ Ω Ω,Tv _ he _ e]
def four(a b c d:Nat):Nat:=256*(256*(256*d+c)+b)+a
theorem Tw{a b c d:Nat}(e:a<256)(f:b<256)(h:c<256)(j:d<256):i7 6148914691236517205 (four a b c d)=four (i7 85 a) (i7 85 b) (i7 85 c) (i7 85 d):=by
 unfold four;rw[show 6148914691236517205=256*(256*(256*(256*1431655765+85)+85)+85)+85 from rfl,wk _ _ e,wk _ _ f,wk _ _ h];have:=wk 0 1431655765 j
 grind [i7]
theorem Tx{a b c d:Nat}(e:a<256)(f:b<256)(h:c<256)(j:d<256):jL 3689348814741910323 (four a b c d)=four (jL 51 a) (jL 51 b) (jL 51 c) (jL 51 d):=by
 unfold four;rw[show 3689348814741910323=256*(256*(256*(256*858993459+51)+51)+51)+51 from rfl,wm _ _ e,wm _ _ f,wm _ _ h];have:=wm 0 858993459 j
 grind [jL]
theorem Ty{a b c d:Nat}(e:a<69)(f:b<69/\b % 16<5)(h:c<69/\c % 16<5)(j:d<69/\d % 16<5):lK 1085102592571150095 (four a b c d)=four (lK 15 a) (lK 15 b) (lK 15 c) (lK 15 d):=by
 unfold four;rw[show 1085102592571150095=256*(256*(256*(256*252645135+15)+15)+15)+15 from rfl,wn _ _ e Ω,wn _ _ f.1 Ω,wn _ _ h.1 Ω];have:=wn 0 252645135 j.1 Ω
 grind [lK]
def rz(x:Nat):Nat:=dc (x % 256)+dc (x / 256 % 256)+dc (x / 65536 % 256)+dc (x / 16777216)
theorem Tz{x:Nat}(h:x<4294967296):rz x=0↔x=0:=by
 constructor
 .intro a;unfold rz at a;have h1:=(pc (x % 256) Ω).2.2.2.2 Ω;have e:=(pc (x / 256 % 256) Ω).2.2.2.2 Ω;have f:=(pc (x / 65536 % 256) Ω).2.2.2.2 Ω;have j:=(pc (x / 16777216) Ω).2.2.2.2 Ω;omega
 .rintro rfl;decide
theorem GK{x:Nat}(J:x<4294967296):aq x7 Jm [.int .u64 (x:Int)] w λv I=>v=Δ (rz x:Int)/\Ext w I:=by
 obtain⟨a,b,c,d,E,G,H,L,e,ag,ah,ai,aj⟩:∃a b c d,a<256/\b<256/\c<256/\d<256/\x=four a b c d/\a=x % 256/\b=x / 256 % 256/\c=x / 65536 % 256/\d=x / 16777216:=
  ⟨x % 256,x / 256 % 256,x / 65536 % 256,x / 16777216,Ω,Ω,Ω,Ω,by grind [four],rfl,rfl,rfl,rfl⟩
 obtain⟨O,P,a3,a4,_⟩:=pc a E;obtain⟨Q,R,S,ak,_⟩:=pc b G;obtain⟨U,V,W,am,_⟩:=pc c H;obtain⟨d1,d2,d3,d4,_⟩:=pc d L;have g1:=Tw E G H L;have X:=Tx O Q U d1;have Y:=Ty P ⟨R,S⟩ ⟨V,W⟩ ⟨d2,d3⟩;have Z:rz x=dc a+dc b+dc c+dc d:=by grind [rz]
 rw[<-e]at g1;have aa:i7 6148914691236517205 x<4294967296:=by grind [four]
 have M:jL 3689348814741910323 (i7 6148914691236517205 x)<4294967296:=by grind [four]
 have A:lK 1085102592571150095 (jL 3689348814741910323 (i7 6148914691236517205 x))=four (dc a) (dc b) (dc c) (dc d):=by rw[g1,X,Y];rfl
 have ab:four (dc a) (dc b) (dc c) (dc d)<4294967296:=by grind [four]
 refine aF func69 ?_;have s:∀{t:r8}{cx cy:Bool}{K:x1->Prop}(p q:Nat),p+q<18446744073709551616->ad x7 (aU .add t cx cy (.int .u64 (p:Int)) (.int .u64 (q:Int))) w K=K (.int .u64 ((p+q:Nat):Int)):=λp q h=>by
  rw[aR,lc Ω Ω];rfl
 have small:∀(p m:Nat),p &&& m<=p:=λp m=>Nat.and_le_left;rw[show(1:Int)=((1:Nat):Int)from rfl,mO Ω,show(6148914691236517205:Int)=((6148914691236517205:Nat):Int)from rfl,u64_and Ω Ω,u64_and Ω Ω,s (x / 2 ^ 1 &&& 6148914691236517205) (x &&& 6148914691236517205) (by grind)];obtain⟨y,B⟩:∃y,(x / 2 ^ 1 &&& 6148914691236517205)+(x &&& 6148914691236517205)=y:=⟨_,rfl⟩;rw[B];have B:i7 6148914691236517205 x=y:=B;rw[B]at aa M A;rw[show(2:Int)=((2:Nat):Int)from rfl,mO Ω,show(3689348814741910323:Int)=((3689348814741910323:Nat):Int)from rfl,u64_and Ω Ω,u64_and Ω Ω,s (y / 2 ^ 2 &&& 3689348814741910323) (y &&& 3689348814741910323) (by grind)];obtain⟨z,C⟩:∃z,(y / 2 ^ 2 &&& 3689348814741910323)+(y &&& 3689348814741910323)=z:=⟨_,rfl⟩;rw[C];have C:jL 3689348814741910323 y=z:=C;rw[C]at M A;rw[show(4:Int)=((4:Nat):Int)from rfl,mO Ω,s (z / 2 ^ 4) z Ω,show(1085102592571150095:Int)=((1085102592571150095:Nat):Int)from rfl,u64_and Ω Ω];have A:z / 2 ^ 4+z &&& 1085102592571150095=four (dc a) (dc b) (dc c) (dc d):=A;rw[A];obtain⟨j,N⟩:∃j,four (dc a) (dc b) (dc c) (dc d)=j:=⟨_,rfl⟩;rw[N]at ab ⊢;unfold four at N;rw[show(8:Int)=((8:Nat):Int)from rfl,mO Ω,s j (j / 2 ^ 8) Ω];obtain⟨r,ac⟩:∃r,j+j / 2 ^ 8=r:=⟨_,rfl⟩;rw[ac];rw[show(16:Int)=((16:Nat):Int)from rfl,mO Ω,s r (r / 2 ^ 16) Ω];obtain⟨f,ae⟩:∃f,r+r / 2 ^ 16=f:=⟨_,rfl⟩;rw[ae];rw[show(32:Int)=((32:Nat):Int)from rfl,mO Ω,s f (f / 2 ^ 32) Ω,fN fL.u al.u,hx Ω Ω,show(127:Int)=((127:Nat):Int)from rfl,FE Ω Ω];refine⟨?_,Ext.refl _⟩;rw[Z,show 127=2 ^ 7-1 from rfl,Nat.and_two_pow_sub_one_eq_mod];have an:j / 2 ^ 8=65536*dc d+256*dc c+dc b:=Ω
 have ao:r / 2 ^ 16=256*dc d+(dc c+dc d):=Ω
 have ap:f / 2 ^ 32=0:=Ω
 have au:f=128*(131072*dc d+512*(dc c+dc d)+2*(dc b+dc c+dc d))+(dc a+dc b+dc c+dc d):=Ω
 have af:(f+f / 2 ^ 32) % 2 ^ 7=dc a+dc b+dc c+dc d:=Ω
 rw[af]
theorem jA{b n:Nat}(a:mP b n):aq x7 Bc [ks b n] w λr I=>(∃q:Int,r=Δ q/\(q=0↔b=0))/\Ext w I:=by
 have e:b<4294967296:=by
  have:=a.2;have:(2:Nat) ^ n<=2 ^ 32:=T3 Ω a.1;omega
 refine aF func26 ?_;refine bo λg U s f h=>?_;rw[aO b9.p 0 h rfl];refine(GK e).Y ?_;rintro _ ab _ ⟨rfl,j⟩;refine⟨⟨_,rfl,?_⟩,f.F j⟩
 grind [Tz]
def qs(aw:List az)(w:x4)(af ag:Nat)(A R:ak)(n:aI)(s:an)(a:fF)(r:x1)(I:x4):Prop:=r=Δ (bi n.k s a).2/\cp aw w af ag A R n (bi n.k s a).1 I
section
variable{aw:List az}{w:x4}{af ag:Nat}{A R:ak}{n:aI}{s:an}{t:az}{a:fF}
theorem cp.same(h:bw w af ag A R n s t)(a:Laid w)(e:¬A 0)(aE:dJ aw t)(J:Ext w I):cp aw w af ag A R n s I:=(dC.start (m:=w.heap.size) (D:=λ_=>False) h a e aE J (p9 _)).done (Ext.refl _)
theorem cp.before{s':an}(J:Ext w U)(h:cp aw U af ag A R n s' I):cp aw w af ag A R n s' I:=by
 obtain⟨h1,a,aP,bu,e,f⟩:=h;exact⟨iS J h1,a,aP,bu,(Grow.W J).F e,f⟩
theorem zD{j pos u:Int}{f:bI}{x:bA}(h:du s j pos v=σ (f,u,x)):∃q e u':Nat,j=q/\pos=e/\u=u'/\s.d8[q]?=σ f/\f.live≠0/\f.sc[e]?=σ (u':Int)/\s.d7[u']?=σ x/\v∈aB x/\∀r,f.sc[e]?=σ r->v∈aT s r:=by
 obtain⟨h1,A,B,C,a,E⟩:=nj h;obtain⟨F,w,G,y⟩:=ke E;obtain⟨j,rfl⟩:=Y6 h1;obtain⟨pos,rfl⟩:=Y6 A;obtain⟨u,rfl⟩:=Y6 F;refine⟨j,pos,u,rfl,rfl,rfl,B,C,a,w,y,λu' z=>?_⟩;have a:f.sc[pos]?=σ (u:Int):=a;rw[a]at z;cases z;unfold aT;rw[w];exact y
theorem zE(hk:a.kind=0)(h:bw w af ag A R n s t)(z:Laid w)(E:¬A 0)(aE:dJ aw t):aq x7 Jp [Γ af,Δ a.i,Δ a.pos,Δ a.v,Δ a.c] w (qs aw w af ag A R n s a):=by
 have H:=h.2.2.2.1;refine aF func74 ?_;refine(zy h).Y ?_;rintro _ U _ ⟨y,u,e,rfl,ae⟩;rw[bx,bz];have q:bi n.k s a=match du s a.i a.pos a.v with
  |none=>(s,1)
  |some (f,u,x)=>if dG n.k a.c (eN n.k s f a.pos.toNat a.v)≠0 then(s,dG n.k a.c (eN n.k s f a.pos.toNat a.v))else(fy s a.i.toNat f a.pos.toNat u.toNat x a.v (λg=>cG n.k g a.c) λg=>b4 n.k g a.c,0):=by unfold bi;rw[lw hk]<;>cases du s a.i a.pos a.v<;>rfl
 rcases ae with⟨rfl,f,x,ae⟩|⟨rfl,ae⟩
 rotate_left
 .rw[ae]at q;rw[bG,ao];exact⟨λ_=>⟨by rw[q],by rw[q];exact cp.same h z E aE y⟩,λh=>m2 Φ h⟩
 rw[ae]at q;rw[bG,ao];refine⟨λh=>m2 rfl h,λ_=>?_⟩;obtain⟨j,pos,u,S,T,V,ah,K,hu,J,ac,W⟩:=zD ae;have X:=x6 ah;simp only[S,T,V,u5]at q ⊢;refine(GH (j:=j) (pos:=pos) (h.W y) (z.W y) ah K W).Y ?_;rintro _ ab _ ⟨rfl,L⟩;refine(wa (h.W (y.F L))).Y ?_;rintro _ ai _ ⟨Y,rfl⟩;have B:=(y.F L).F Y;refine cZ (λI=>cp aw w af ag A R n (bi n.k s a).1 I) ?_ λaA M=>?_
 .intro I Z;refine⟨?_,Z⟩;rw[q];split
  .rfl
  .rename_i r;rw[X0.1 r]
 rw[bl,ao];refine⟨λr=>?_,λr=>M _ ?_⟩
 .obtain⟨C,hm⟩:=ni (λh=>h r);rw[dk (cs:=#[.func (.func pv) #[] #[],.func (.func pw) #[] #[]]) Ψ];have N:∀t∈bV s f.sc pos a.v,a.c<=bt f.am f.cs t:=λt aa=>((ql _ _ _).1 hm).2 _ (o9.2 ⟨t,aa,rfl⟩);have O:=ij (v:=a.v.toNat) H J;refine(GJ (t:=t) (F1:=pv) (F2:=pw) (tup:=λg=>cG n.k g a.c) (un:=λg=>b4 n.k g a.c) (h.W B) (z.W B) E aE ah K hu J ac (λtl P=>?_) ⟨o1 O C.1,λ{w A s t}G=>tp G O C⟩).Y ?_
  .have Q:=nk (t:=tl) H X;exact⟨o0 Q ⟨C.1,N tl P⟩,λ{w A s t}G=>wb G Q C (.inr (N tl P))⟩
  .rintro _ aj _ ad;refine M _ ?_;rw[q,m1 (λh=>h r)];exact ad.before B
 .rw[q,lw r];exact cp.same h z E aE B
theorem GL(hk:a.kind=1)(h:bw w af ag A R n s t)(C:Laid w)(E:¬A 0)(aE:dJ aw t):aq x7 Jq [Γ af,Δ a.i,Δ a.pos,Δ a.v,Δ a.c] w (qs aw w af ag A R n s a):=by
 have G:=h.2.2.2.1;refine aF func75 ?_;refine(zy h).Y ?_;rintro _ U _ ⟨y,u,e,rfl,ae⟩;rw[bx,bz];have q:bi n.k s a=match du s a.i a.pos a.v with
  |none=>(s,1)
  |some (f,u,x)=>if dG n.k a.c (x.un.getD a.v.toNat 0)≠0 then(s,dG n.k a.c (x.un.getD a.v.toNat 0))else(fy s a.i.toNat f a.pos.toNat u.toNat x a.v (λg=>b4 n.k g a.c) λg=>cG n.k g a.c,0):=by unfold bi;rw[m1 Ω,lw hk]<;>cases du s a.i a.pos a.v<;>rfl
 rcases ae with⟨rfl,f,x,ae⟩|⟨rfl,ae⟩
 rotate_left
 .rw[ae]at q;rw[bG,ao];exact⟨λ_=>⟨by rw[q],by rw[q];exact cp.same h C E aE y⟩,λh=>m2 Φ h⟩
 rw[ae]at q;rw[bG,ao];refine⟨λh=>m2 rfl h,λ_=>?_⟩;obtain⟨j,pos,u,O,P,Q,ah,S,hu,J,ac,Z⟩:=zD ae;have T:=x6 ah;simp only[O,P,Q,u5]at q ⊢;refine(qb (i:=(u:Int)) (v:=a.v) (h.W y)).Y ?_;rintro _ ab _ ⟨rfl,K⟩;have V:fx s (u:Int).toNat a.v.toNat=x.un.getD a.v.toNat 0:=by
  unfold fx;rw[u5,J]
 rw[lw (qq G J ac),V,bx,bz];refine(wa (h.W (y.F K))).Y ?_;rintro _ aa _ ⟨W,rfl⟩;have z:=(y.F K).F W;refine cZ (λI=>cp aw w af ag A R n (bi n.k s a).1 I) ?_ λaA L=>?_
 .intro I X;refine⟨?_,X⟩;rw[q];split
  .rfl
  .rename_i r;rw[X0.1 r]
 rw[bl,ao];refine⟨λr=>?_,λr=>L _ ?_⟩
 .obtain⟨B,hm⟩:=ni (λh=>h r);rw[dk (cs:=#[.func (.func pw) #[] #[],.func (.func pv) #[] #[]]) Ψ];have M:=ij (v:=a.v.toNat) G J;refine(GJ (t:=t) (F1:=pw) (F2:=pv) (tup:=λg=>b4 n.k g a.c) (un:=λg=>cG n.k g a.c) (h.W z) (C.W z) E aE ah S hu J ac (λtl ad=>?_) ⟨o0 M ⟨B.1,hm⟩,λ{w A s t}H=>wb H M B (.inr hm)⟩).Y ?_
  .have N:=nk (t:=tl) G T;exact⟨o1 N B.1,λ{w A s t}H=>tp H N B⟩
  .rintro _ ai _ Y;refine L _ ?_;rw[q,m1 (λh=>h r)];exact Y.before z
 .rw[q,lw r];exact cp.same h C E aE z
end
def jM(s:an)(i:Int):Option bA:=match(if 0<=i then s.d7[i.toNat]? else ν)with
 |some x=>if x.gone=0 then σ x else ν
 |none=>ν
theorem zF{s:an}{i:Int}{x:bA}(h:jM s i=σ x):0<=i/\s.d7[i.toNat]?=σ x/\x.gone=0:=by
 grind [jM]
theorem GM{g:Int->Int}{un L:Λ}(h:L[j]?=σ v):eD g un (L.take (j+1))=(eD g un (L.take j)).set v.toNat (g ((eD g un (L.take j)).getD v.toNat 0)):=by
 grind [eD,u7]
theorem TA{i:Nat}:∀(L M:Λ)(s:an),ii s i v (L++M)=ii (ii s i v L) i v M
 :=by
 intro a;induction a<;>grind [ii]
theorem TB{s:an}{i:Nat}{w:Int}{L:Λ}(h:L[j]?=σ w):ii s i v (L.take (j+1))=if w≠v then dZ (ii s i v (L.take j)) i w.toNat else ii s i v (L.take j):=by
 rw[u7,h,o8,TA];rfl
def mq(m u:Int):Int:=if m<0\/u<m then u else m
theorem TC:∀(l:Λ)(m:Int),0<=m->(∀c∈l,0<=c)->l.foldl mq m=l.foldl min m
 :=by
 intro a;induction a<;>grind [mq]
theorem TD{x:bA}(h:∀v∈aB x,0<=x.un.getD v.toNat 0):((aB x).map λv=>x.un.getD v.toNat 0).foldl mq (-1)=jt x:=by
 unfold jt;have a:∀c∈(aB x).map (λv=>x.un.getD v.toNat 0),0<=c:=by grind
 generalize (aB x).map (λv=>x.un.getD v.toNat 0)=l at a;cases l with
 |nil=>rfl
 |cons c l=>exact TC l c (a c (.head _)) λc h=>a c (.tail _ h)
section
variable{aw:List az}{w:x4}{af ag:Nat}{A R:ak}{n:aI}{s:an}{t:az}{a:fF}
theorem GN{i:Int}(h:bw w af ag A R n s t):aq x7 Kb [Γ af,Δ i] w λr I=>Ext w I/\r=Δ (if(jM s i).isSome=ms then 0 else 1):=by
 have a:=h.2.2.2.1;have G:=a.d7;refine aF func149 ?_;rw[cT dx.u];simp only[l9,a6];refine a1 (λr U=>r= .bool (!(jM s i).isSome)/\Ext w U) ?_ ?_
 .rintro _ U ⟨rfl,H⟩;rw[b1]
  grind
 intro aA f;refine(tc h).Y ?_;rintro _ ab _ ⟨rfl,e⟩;rw[b1];refine⟨λB=>f _ _ ⟨?_,e⟩,λB=>?_⟩
 .grind [jM,dp]
 refine(iW (i:=i) (h.W e)).Y ?_;rintro _ K _ ⟨⟨b,m,rfl,j⟩,C⟩;refine(xH).Y ?_;rintro _ L _ ⟨rfl,E⟩;rw[bl];refine f _ _ ⟨?_,(e.F C).F E⟩;congr 1;by_cases q:0<=i/\i<n.d6.length
 .obtain⟨x,J⟩:=aK (l:=s.d7) (i:=i.toNat) Ω;obtain⟨z,y⟩:=aK (l:=n.d6) (i:=i.toNat) Ω;have M:=a.fg.2.2 z (x6 y);have N:=(a.var _ x z J y).1;have hm:=(j.2.2 x q.1 J).1
  grind [dp,jM]
 .obtain⟨rfl,rfl⟩:=j.2.1 q
  grind [jM]
theorem GO{u:Nat}{x:bA}{F1 F2:S9}{g z:Int->Int}(h:bw w af ag A R n s t)(aC:Laid w)(aY:¬A 0)(aE:dJ aw t)(J:s.d7[u]?=σ x)(h1:∀v∈aB x,(0<=g (x.un.getD v.toNat 0)/\g (x.un.getD v.toNat 0)<=n.k)/\∀{w:x4}{A:ak}{s:an}{t:az},bw w af ag A R n s t->aq x7 F1 [Γ af,Δ (x.un.getD v.toNat 0),Δ c] w λr I=>r=Δ (g (x.un.getD v.toNat 0))/\Ext w I)(aF:(0<=z s.zero/\z s.zero<=n.k)/\∀{w:x4}{A:ak}{s':an}{t:az},bw w af ag A R n s' t->aq x7 F2 [Γ af,Δ s.zero,Δ c] w λr I=>r=Δ (z s.zero)/\Ext w I):
  aq x7 Kc [Γ af,Δ (u:Int),Δ c,.func (.func F1) #[] #[],.func (.func F2) #[] #[]] w λ_ I=>cp aw w af ag A R n (iX s u x g z) I:=by
 have aZ:=h.2.2.2.1;have aG:=(x5.1 J).1;refine iM func150 ?_;refine bo λg1 U bs aH a=>?_;refine bo λa1 ab bt W q=>?_;refine bo λbu bB bC K C=>?_;refine bo λbD B bE L M=>?_;have a:ai B g1 dx [Γ af]:=((ai.W a W).W K).W L;have q:ai B a1 al [Δ (u:Int)]:=(ai.W q K).W L;have C:=ai.W C L;have M:=M;have N:=((aH.F W).F K).F L;have bF:=aH.size;have bG:=W.size;have z3:=K.size;have bH:=N.size;have O:=a.lt;have aI:=q.lt;have aJ:=C.lt;have a2:=M.lt;rw[aD Ψ (a.cell rfl),aD Ψ (q.cell rfl)];refine(iW (i:=(u:Int)) (h.W N)).Y ?_;rintro _ bI _ ⟨⟨b,bJ,rfl,aK⟩,aL⟩;refine(l3).Y ?_;rintro _ X _ ⟨a6,aM,rfl,bK,aN⟩;have bL:=kC aK Ω (show s.d7[(u:Int).toNat]?=σ x by grind);have E:=aL.F a6;have z5:=aL.size;have z46:=E.size;have bM:=aN.lt;have a7:=qh x;have a8:e7 s u x (eD g x.un ((aB x).take 0))=s:=by
  unfold e7;show{s with d7:=s.d7.set u x}=s;have:s.d7.set u x=s.d7:=by
   apply Y5
   grind
  rw[this]
 refine ki.old ⟨_,ne,jy,#[Γ aM],_,_,_,_,λj I=>dC aw w af ag A R n w.heap.size (λr=>X.heap.size<=r) (e7 s u x (eD g x.un ((aB x).take j))) I/\aj (λr=>r<w.heap.size\/X.heap.size<=r) X I,λ_ _ _=>False,rfl,(l2 (g:=aM) aK.1).s,?_,
  λ_ _ J h=>⟨h.1.W J,h.2.W J⟩,λ_ _ _ J h=>⟨h.1.W J,h.2.F (J.aa _)⟩,by grind,⟨aN,aC.W (N.F E)⟩,?_,?_,?_,by grind,by grind⟩
 .grind
 .refine⟨?_,aj.refl _ _⟩;rw[a8];exact dC.start h aC aY aE (N.F E) (p9 _)
 .rintro _ j _ ba ⟨bc,bN⟩ ⟨bO,rfl,v,ac,bd⟩ ⟨P,G⟩;cases bd;intro bP Q _ _;have Y:(aB x)[j]?=σ (v:Int):=by grind
  have aO:=x6 Y;have bb:∀{H:x4}{g:Nat}{e:r8}{cs:List x1},Ext ba H->w.heap.size<=g->g<B.heap.size->ai B g e cs->ai H g e cs:=λJ be bf Z=>((Z.W E).aa G Ω).W J;obtain⟨bQ,bR,ad,aQ,ae⟩:=P.open;have aR:eC n (u:Int) (v:Int):=qq aZ J aO;have bS:∀y∈aB x,0<=y/\y<x.un.length:=by grind [e1]
  have ah:=vS (g:=g) ((aB x).take j) x.un (v:Int) (by grind) (by grind) Ω;rw[m1 (zw a7 Y)]at ah;have bg:fx (e7 s u x (eD g x.un ((aB x).take j))) (u:Int).toNat (v:Int).toNat=x.un.getD (v:Int).toNat 0:=by
   unfold fx e7;rw[u5,Y2 aG];exact ah
  rw[aD Ψ ((bb Q Ω O a).cell rfl),aD Ψ ((bb Q Ω aI q).cell rfl)];refine(qb (ad.W Q)).Y ?_;rintro _ bT _ ⟨rfl,bh⟩;rw[lw aR,bg,bx,bz];intro bi bj _ _;have f:=(Q.F bh).F bj;rw[aD Ψ ((bb f Ω O a).cell rfl),aD Ψ ((bb f Ω aI q).cell rfl),
   aD Ψ ((bb f Ω a2 M).cell rfl),aD Ψ ((bb f Ω O a).cell rfl),aD Ψ ((bb f Ω aJ C).cell rfl)]
  show aq x7 F1 [Γ af,Δ (x.un.getD (v:Int).toNat 0),Δ c] bi _;obtain⟨bk,bl⟩:=h1 v aO;refine(bl (ad.W f)).Y ?_;rintro _ bU _ ⟨rfl,aS⟩;have am:=f.F aS;refine⟨.inl aS,(FQ (ad.W am) aQ.room).Y ?_⟩;rintro r bV _ ⟨_,_,ao⟩;obtain⟨_,ap,aP,bm,bn,au,S⟩:=ao aR bk;have e:mi (e7 s u x (eD g x.un ((aB x).take j))) (u:Int).toNat (v:Int).toNat (g (x.un.getD (v:Int).toNat 0))=e7 s u x (eD g x.un ((aB x).take (j+1))):=by
   rw[GM Y,ah];unfold mi e7;rw[u5,Y2 aG]
   grind [List.set_set]
  rw[e]at S;have bW:=G.size;obtain⟨aT,aU,bX⟩:=ae (iS am ap) ((Grow.W am).F au) S aQ.set (λr h=>h) Ω;exact⟨⟨bc.aa aU Ω,aT.2.1.1⟩,⟨aT,G.F aU⟩,by grind⟩
 .rintro k bp rfl ⟨P,G⟩;rw[j4 (by grind)]at P;obtain⟨bY,bZ,av,aV,ae⟩:=P.open;have bb:∀{H:x4}{g:Nat}{e:r8}{cs:List x1},Ext bp H->w.heap.size<=g->g<B.heap.size->ai B g e cs->ai H g e cs:=λJ be bf Z=>((Z.W E).aa G Ω).W J;intro b0 V _ _;have ax:=bb V Ω O a;rw[aD Ψ (ax.cell rfl),aD Ψ (ax.cell rfl),aD Ψ (ax.cell rfl),aD Ψ ((bb V Ω aJ C).cell rfl)];refine(tb (av.W V)).Y ?_;rintro _ bq _ ⟨rfl,ay⟩;have aW:=V.F ay;refine⟨.inl ay,?_⟩;show aq x7 F2 [Γ af,Δ s.zero,Δ c] bq _;refine(aF.2 (av.W aW)).Y ?_;rintro _ b1 _ ⟨rfl,aX⟩;have aA:=aW.F aX;refine⟨.inl (ay.F aX),(RP (av.W aA) aV.room).Y ?_⟩;rintro r b2 _ ⟨_,ao⟩;obtain⟨_,ap,aP,bm,bn,au,S⟩:=ao aF.1;intro b3 br _;exact(ae (iS aA ap) ((Grow.W aA).F au) S aV.set (by grind) λ_ _ _=>trivial).1.done br
end
section
variable{w:x4}{af ag au:Nat}{A R:ak}{A9:Nat->ak}{aJ:ak}{n:aI}{s u:an}{t:az}{h:List az}{cs:List x1}{a:fF}
theorem TE(hk:a.kind<2):bi n.k u a=match du u a.i a.pos a.v with
  |none=>(u,1)
  |some (f,v,x)=>if dG n.k a.c (if a.kind=1 then x.un.getD a.v.toNat 0 else eN n.k u f a.pos.toNat a.v)≠0 then(u,dG n.k a.c (if a.kind=1 then x.un.getD a.v.toNat 0 else eN n.k u f a.pos.toNat a.v))
   else(fy u a.i.toNat f a.pos.toNat v.toNat x a.v (λg=>if a.kind=0 then cG n.k g a.c else b4 n.k g a.c) λg=>if a.kind=0 then b4 n.k g a.c else cG n.k g a.c,0):=by
 unfold bi;by_cases e:a.kind=0
 .rw[lw e];simp only[e];cases du u a.i a.pos a.v<;>rfl
 .have h1:a.kind=1:=Ω
  rw[m1 e,lw h1];simp only[h1];cases du u a.i a.pos a.v<;>rfl
theorem getD_some{i:Nat}(h:i<l.length):l[i]?=σ (l.getD i 0):=by
 rw[p8,x8 h];rfl
theorem TF(p:cm w af ag au A R A9 aJ n s u t h cs)(G:ba n.k n.d6 u)(bQ:b2 u)(hk:a.kind<2):aq x7 w8 [Γ au,Δ (a.kind:Int),Δ a.i,Δ a.pos,Δ a.v,Δ a.c] w λr I=>r=Δ (bi n.k u a).2/\dH w af ag au A R A9 aJ n s t h (bi n.k u a).1 I:=by
 have C:=TE (n:=n) (u:=u) hk;have c3:=G.d7;have bS:=G.eA;refine aF func73 ?_;have bT:cs[0]?=σ (Δ n.k):=by obtain⟨_,_,_,_,_,_,rfl,_⟩:=p.qj;rfl
 rw[aL a8.p 0 p.box bT,aW,ao];refine⟨λ_=>?_,λh=>Ω⟩;rw[bR];refine p.look.load λdr bW=>?_;refine(Tg bW G bQ).Y ?_;rintro _ U _ ⟨aB,rfl⟩;cases ae:du u a.i a.pos a.v with
 |none=>
  rw[ae]at C;simp only;rw[bx,bz,bE,X4,bK];exact⟨by rw[C],by rw[C];exact dH.same p aB⟩
 |some q=>
 obtain⟨f,P,x⟩:=q;rw[ae]at C;simp only;rw[bx,bz,bE,Y1,a6];obtain⟨j,pos,P,bX,bY,bZ,ah,c4,hu,J,ac,aS⟩:=zD ae;have aE:=x6 ah;simp only[bX,bY,bZ,u5]at C ⊢;have b3:=(x5.1 ah).1;have bo:=(x5.1 J).1;have b5:=(x5.1 hu).1;obtain⟨b7,c5⟩:=kD G aE;have b8:=Gt G aE aS;have b9:=(e1.1 ac).1;obtain⟨v,Q⟩:=Y6 b9.1;have bp:=ij (v:=a.v.toNat) G J;have aG:=p.W aB;have bq:∀{ab:x4}{fu:an}{br:List x1}{bs:Nat->ak}{f2:bI},cm ab af ag au A R bs aJ n s fu t h br->fu.d8[j]?=σ f2->∃S cap W aT y,br[6]?=σ (.slice (σ ⟨S,0,ν⟩) fu.d8.length cap)/\j<fu.d8.length/\ab.cell? ⟨S,0+j*4+0+0,ν⟩=σ W/\ab.cell? ⟨S,0+j*4+0+2,ν⟩=σ y/\aQ .i64 ab W f2.sc/\aQ .i64 ab y f2.cs/\
   ∀{I:x4}{m:Nat}{c:Int}{K:Unit->x4->Prop},Ext ab I->m<f2.cs.length->(∀bu,dH ab af ag au A R bs aJ n s t h (eH fu j f2 (f2.cs.set m c)) bu->K () bu)->ad x7 (n9 aC y (Δ (m:Int))) I λa=>aM x7 (o7 ax a (Δ c)) I K:=λca aH=>by
  obtain⟨S,cap,W,aT,y,cb,bw,cd,ce,V⟩:=Ti ca aH;exact⟨S,cap,W,aT,y,cb,(x5.1 aH).1,by rw[V7];exact bw 0 _ rfl,by rw[V7];exact bw 2 _ rfl,cd,ce,V⟩
 obtain⟨S,c6,W,aT,c7,cf,cg,ch,_,ci,_,_⟩:=bq aG ah;rw[aL a8.p 6 aG.box cf,fq fa.u dI.i cg λ_=>rfl,aY dI.p rfl,aY be.p rfl,aD Ψ ch,bm av.u al.i Ψ ci hu];generalize bA:(if a.kind=1 then x.un.getD a.v.toNat 0 else eN n.k u f pos a.v)=most at C;refine a1 (λr ab=>r=Δ most/\Ext w ab) ?_ λaA bB=>?_
 rotate_left
 .rw[bl,ao];refine⟨λh1=>?_,λh1=>bB _ _ ⟨by rw[<-bA,m1 Ω],aB⟩⟩;have h1:a.kind=1:=Ω
  obtain⟨aU,bC,y,aX,aZ,aI,_⟩:=zC aG J;rw[aL a8.p 5 aG.box aX,fq et.u aC.i bo λ_=>rfl,aD Ψ (by rw[V7,T1];exact aZ),Q,bm aC.u ax.i Ψ aI (getD_some Ω)];refine bB _ _ ⟨?_,aB⟩;rw[<-bA,lw h1,Q,u5]
 rintro _ ab ⟨rfl,ck⟩;refine B6.Y ?_;rintro _ c8 _ ⟨rfl,cl⟩;have X:=ck.F cl;have bD:cA a.c n.k↔0<=a.c/\a.c<=n.k:=⟨λh=>h.2,λaH=>⟨bS,aH⟩⟩;rw[bE,b1];refine⟨λY=>?_,λY=>?_⟩
 .have cn:¬cA a.c n.k:=by simpa using Y
  have E:dG n.k a.c most=3:=by unfold dG;rw[lw λh=>cn (bD.2 h)]
  rw[lw (by rw[E];decide),E]at C;exact⟨by rw[C],by rw[C];exact dH.same p X⟩
 have bF:=bD.1 (show cA a.c n.k by simpa using Y);rw[bU,ao];refine⟨λcp=>?_,λcq=>?_⟩
 .have E:dG n.k a.c most=7:=by unfold dG;rw[m1 (λh=>h bF),lw cp]
  rw[lw (by rw[E];decide),E]at C;exact⟨by rw[C],by rw[C];exact dH.same p X⟩
 have E:dG n.k a.c most=0:=by unfold dG;rw[m1 (λh=>h bF),m1 cq]
 rw[m1 (λh=>h E)]at C;have cr:=p.W X;rw[bR];refine cr.look.load λc9 ct=>?_;refine(zB ct G ah b5 aS).Y ?_;rintro aV a2 _ ⟨cu,bb,cw⟩;have bG:=X.F cu;rw[a7 av.u bb];have bH:(kF u f pos a.v).length=(bV u f.sc pos a.v).length:=by unfold kF;rw[u9]
 rw[bH];obtain⟨tup,bc⟩:∃tup:Int->Int,tup=λg=>if a.kind=0 then cG n.k g a.c else b4 n.k g a.c:=⟨_,rfl⟩;obtain⟨un,bd⟩:∃un:Int->Int,un=λg=>if a.kind=0 then b4 n.k g a.c else cG n.k g a.c:=⟨_,rfl⟩;rw[<-bc,<-bd]at C;have cz:=p.olds.W bG;have da:=p.box.lt;have db:=X.size;have cB:∀{I:x4},aj (λr=>(∃q,A9 q r/\r<w.heap.size)\/r=au) a2 I->aQ .i64 I aV (kF u f pos a.v):=λcC=>jC bb cC λr E b n c e Y=>by
  have:=cw r ⟨b,n,c,e,Y⟩;rcases E with⟨q,E⟩|E
  .have:=E.2;omega
  .omega
 refine b6.range (bV u f.sc pos a.v).length (λq I=>dH a2 af ag au A R (λq r=>A9 q r/\r<w.heap.size) aJ n s t h (eH u j f (eo tup ((bV u f.sc pos a.v).take q) f.am f.cs)) I) (by rw[<-bH];exact bb.le) ?_ ?_ ?_
 .rw[List.take_zero,GI G ah];exact dH.same cz (Ext.refl _)
 .rintro q Z cD cE aN cF;obtain⟨tl,bf⟩:=aK (l:=bV u f.sc pos a.v) cE;obtain⟨m,hm⟩:=o2 G aE aS (x6 bf);have cH:(kF u f pos a.v)[q]?=σ (m:Int):=by
   unfold kF;rw[v8,bf];unfold oa;rw[Y9,hm];rfl
  obtain⟨bJ,bL⟩:=Gu G ah b8 bf hm;have cI:=(x5.1 (l4 b7 hm)).1;have dc:m<f.cs.length:=by rw[u5]at cI;omega
  obtain⟨V,cJ,bN,O,bg⟩:=id aN;obtain⟨cj,bO⟩:∃cj,cj=eo tup ((bV u f.sc pos a.v).take q) f.am f.cs:=⟨_,rfl⟩;have dd:cj.length=f.cs.length:=by rw[bO,rq _ _ _ _ Ω]
  rw[<-bO]at O bJ bL;have bP:(eH u j f cj).d8[j]?=σ {f with cs:=cj}:=Y2 b3;obtain⟨aO,cK,de,df,cL,cM,cN,_,bh,_,cO,cP⟩:=bq O bP;have cQ:cj[m]?=σ (bt f.am f.cs tl):=by
   rw[getD_some Ω,<-bJ];unfold bt;rw[hm];simp
  have dg:=nk (t:=tl) G aE;have dh:bN[0]?=σ (Δ n.k):=by obtain⟨_,_,_,_,_,_,rfl,_⟩:=O.qj;rfl
  have cR:=cB V;refine bM Ω ?_;refine cZ (λH=>dH a2 af ag au A R (λq r=>A9 q r/\r<w.heap.size) aJ n s t h (eH u j f (eo tup ((bV u f.sc pos a.v).take (q+1)) f.am f.cs)) H) (λH N=>by rw[aR];exact cF _ N) λcS cT=>?_;have ai:∀{L:x4},Ext Z L->ad x7 (n9 aC cL (Δ (m:Int))) L λa'=>aM x7 (o7 ax a' (Δ (tup (bt f.am f.cs tl)))) L λ(_:Unit)H=>cS H:=λbj=>by
   refine cP bj (by show m<cj.length;omega) λH N=>cT _ (dH.comp V bg ?_);have cU:eH (eH u j f cj) j {f with cs:=cj} (cj.set m (tup (bt f.am f.cs tl)))=mj (eH u j f cj) j m (tup (bt f.am f.cs tl)):=by unfold mj;rw[bP];rfl
   rw[cU,bL]at N;exact N
  have row:∀{z:x4}{K:x1->x1->x1->x1->x1->x1->Prop},Ext Z z->K (Γ au) (.pointer (σ ⟨au,0+6,ν⟩)) (.slice (σ ⟨aO,0,ν⟩) (eH u j f cj).d8.length cK) (.pointer (σ ⟨aO,0+j*4,ν⟩)) (.pointer (σ ⟨aO,0+j*4+0,ν⟩)) (.pointer (σ ⟨aO,0+j*4+0+2,ν⟩))->
    ad x7 (b0 (Γ au)) z λap=>ad x7 (u6 a8 ap 6) z λaw=>ad x7 (u4 fa aw) z λay=>ad x7 (n9 fa ay (Δ (j:Int))) z λaz=>ad x7 (u6 dI az 0) z λaP=>ad x7 (u6 be aP 2) z λcV=>K ap aw ay az aP cV:=λJ bk=>by
   rw[aL a8.p 6 (O.box.W J) cM,fq fa.u dI.i cN λ_=>rfl,aY dI.p rfl,aY be.p rfl];exact bk
  rw[bm av.u al.i Ψ cR cH];refine row (Ext.refl _) ?_;rw[aD Ψ bh,bm aC.u ax.i Ψ cO cQ,bl,ao];refine⟨λbn=>?_,λbn=>?_⟩
  .intro z B _ _;refine row B ?_;rw[aD Ψ (km B bh)];refine(wg Ω Ω).Y ?_;rintro _ L _ ⟨rfl,M⟩;refine⟨.inl M,?_⟩;have:=ai (B.F M);rw[bc]at this;simp only[lw (show a.kind=0 by omega)]at this;exact this
  .intro z B _ _;refine row B ?_;rw[aD Ψ (km B bh)];refine(oJ Ω Ω).Y ?_;rintro _ L _ ⟨rfl,M⟩;refine⟨.inl M,?_⟩;have:=ai (B.F M);rw[bc]at this;simp only[m1 (show¬a.kind=0 by omega)]at this;exact this
 .rintro Z cD aN;rw[o6]at aN;refine cc Ω ?_;obtain⟨V,cJ,bN,O,bg⟩:=id aN;have cW:(eH u j f (eo tup (bV u f.sc pos a.v) f.am f.cs)).d7[P]?=σ x:=J;obtain⟨aU,bC,y,aX,aZ,aI,cX⟩:=zC O cW;refine cZ (λH=>dH w af ag au A R A9 aJ n s t h (fy u j f pos P x a.v tup un) H) (λH N=>⟨by rw[C],by rw[C];exact N⟩) λcY c0=>?_;have c1:P<(eH u j f (eo tup (bV u f.sc pos a.v) f.am f.cs)).d7.length:=bo;have row:∀{z:x4}{K:x1->x1->x1->x1->x1->Prop},Ext Z z->K (Γ au) (.pointer (σ ⟨au,0+5,ν⟩)) (.slice (σ ⟨aU,0,ν⟩) (eH u j f (eo tup (bV u f.sc pos a.v) f.am f.cs)).d7.length bC) (.pointer (σ ⟨aU,0+P*1,ν⟩)) y->
    ad x7 (b0 (Γ au)) z λap=>ad x7 (u6 a8 ap 5) z λaw=>ad x7 (u4 et aw) z λay=>ad x7 (n9 et ay (Δ (P:Int))) z λaz=>ad x7 (u4 aC az) z λaP=>K ap aw ay az aP:=λJ bk=>by
   rw[aL a8.p 5 (O.box.W J) aX,fq et.u aC.i c1 λ_=>rfl,aD Ψ (by rw[V7,T1];exact km J aZ)];exact bk
  have ai:∀{L:x4},Ext Z L->ad x7 (n9 aC y (Δ (v:Int))) L λa'=>aM x7 (o7 ax a' (Δ (un (x.un.getD v 0)))) L λ(_:Unit)H=>cY H:=λbj=>by
   refine cX bj Ω λH N=>c0 _ ?_;have c2:=dH.comp V bg N.GB;have:=dH.comp (bG.aa _) (λq r E=>.inl ⟨q,E.1⟩) c2;unfold fy;rw[show a.v.toNat=v by omega];exact this
  rw[bl,ao];refine⟨λbn=>?_,λbn=>?_⟩
  .intro z B _ _;refine row B (row B ?_);rw[Q,bm aC.u ax.i Ψ (aI.W B) (getD_some Ω)];rw[Q,u5]at bp;refine(oJ Ω Ω).Y ?_;rintro _ L _ ⟨rfl,M⟩;refine⟨.inl M,?_⟩;have:=ai (B.F M);rw[bd]at this;simp only[lw (show a.kind=0 by omega)]at this;exact this
  .intro z B _ _;refine row B (row B ?_);rw[Q,bm aC.u ax.i Ψ (aI.W B) (getD_some Ω)];rw[Q,u5]at bp;refine(wg Ω Ω).Y ?_;rintro _ L _ ⟨rfl,M⟩;refine⟨.inl M,?_⟩;have:=ai (B.F M);rw[bd]at this;simp only[m1 (show¬a.kind=0 by omega)]at this;exact this
end
section
variable{aw:List az}{w:x4}{af ag:Nat}{A R:ak}{n:aI}{s:an}{t:az}{a:fF}
theorem cp.step{aP:ak}{s':an}{bu:az}(h:bw w af ag A R n s t)(f:Laid w)(e:¬A 0)(J:Ext w U)(j:aj (eB U) U ab)(a:Grow A U aP ab)(q:bw ab af ag aP R n s' bu)(aE:dJ aw bu):cp aw w af ag A R n s' ab:=by
 refine⟨iS J j,iu a.1 e (f.W J),aP,bu,(Grow.W J).F a,q,aE,λr=>(a.2.1 0 r).elim e λx=>?_⟩;obtain⟨y,z,B,C,⟨h1,_⟩,_⟩:=h.1;have:=h.lt (.inl h1);have:=J.size;omega
theorem zG(hk:a.kind=2):bi n.k s a=match jM s a.i with
  |none=>(s,1)
  |some x=>if dG n.k a.c (jt x)≠0 then(s,dG n.k a.c (jt x))else(iX s a.i.toNat x (λg=>cG n.k g a.c) λg=>b4 n.k g a.c,0):=by
 unfold bi jM;rw[m1 Ω,m1 Ω,lw hk];cases (if 0<=a.i then s.d7[a.i.toNat]? else ν)with
 |none=>rfl
 |some x=>
  simp only;by_cases e:x.gone=0
  .rw[m1 Ω,lw e]
  .rw[lw e,m1 e]
theorem zH(hk:a.kind=3):bi n.k s a=match jM s a.i with
  |none=>(s,1)
  |some x=>if dG n.k a.c (if aB x=[]then-1 else s.zero)≠0 then(s,dG n.k a.c (if aB x=[]then-1 else s.zero))else(iX s a.i.toNat x (λg=>b4 n.k g a.c) λg=>cG n.k g a.c,0):=by
 unfold bi jM;rw[m1 Ω,m1 Ω,m1 Ω,lw hk];cases (if 0<=a.i then s.d7[a.i.toNat]? else ν)with
 |none=>rfl
 |some x=>
  simp only;by_cases e:x.gone=0
  .rw[m1 Ω,lw e]
  .rw[lw e,m1 e]
theorem GP(hk:a.kind=2)(h:bw w af ag A R n s t)(M:Laid w)(X:¬A 0)(aE:dJ aw t):aq x7 Jr [Γ af,Δ a.i,Δ a.c] w (qs aw w af ag A R n s a):=by
 have C:=h.2.2.2.1;have e:=zG (n:=n) (s:=s) hk;refine iM func76 ?_;refine bo λg1 U bE ay E=>?_;refine bo λaz ab bF Y G=>?_;have E:=ai.W E Y;have G:=G;have Z:=ay.F Y;have bH:=ay.size;have bI:=Y.size;have bJ:=E.lt;have bK:=G.lt;rw[aD Ψ (E.cell rfl),aD Ψ (G.cell rfl)];refine(GN (h.W Z)).Y ?_;rintro _ bL _ ⟨ad,rfl⟩;have a2:=Z.F ad;have z3:=ad.size;cases ac:jM s a.i with
 |none=>
  rw[ac]at e;rw[m1 Ξ,bG,ao];refine⟨λ_=>?_,λh=>m2 Φ h⟩;intro a6 a7 _;exact⟨by rw[e],by rw[e];exact cp.same h M X aE (a2.F a7)⟩
 |some x=>
 rw[ac]at e;simp only at e;obtain⟨aC,J,bM⟩:=zF ac;obtain⟨u,hu⟩:=Y6 aC;rw[hu,u5]at J;rw[hu,u5]at e;rw[lw (by rfl),bG,ao];refine⟨λh=>m2 rfl h,λ_=>?_⟩;refine bC ax.i λaF bN bO aG aH=>?_;refine bs ax.i rfl rfl aH (by simp[x1.cells]) λaI ae bP N=>?_;have N:=N;have z5:=aG.size;have bQ:=aH.lt;have ah:=ad.F aG;have ak:ai aI g1 dx [Γ af]:=(E.W ah).aa ae Ω;have am:ai aI az al [Δ a.i]:=(G.W ah).aa ae Ω;have O:=(Z.F ah).then ae (by rintro r aJ rfl;omega);rw[aD Ψ (ak.cell rfl),aD Ψ (am.cell rfl)];refine(iW (i:=a.i) (h.W O)).Y ?_;rintro _ bR _ ⟨⟨b,bS,rfl,aK⟩,aL⟩;refine(l3).Y ?_;rintro _ a8 _ ⟨ba,aM,rfl,bT,aN⟩;have aO:=kC aK aC (show s.d7[a.i.toNat]?=σ x by rw[hu,u5];exact J);have f:=aL.F ba;have bU:=aL.size;have bV:=aN.lt;have bW:=N.lt;have aQ:∀j (v:Nat),(aB x)[j]?=σ (v:Int)->(((aB x).take (j+1)).map λv=>x.un.getD v.toNat 0).foldl mq (-1)=mq ((((aB x).take j).map λv=>x.un.getD v.toNat 0).foldl mq (-1)) (x.un.getD v 0):=λj v aR=>by
  rw[u7,aR,o8,Z2,List.foldl_append];rfl
 refine ki.old ⟨_,ne,jy,#[Γ aM],_,_,_,_,λj I=>aj (λr=>r=aF) a8 I/\ai I aF ax [Δ ((((aB x).take j).map λv=>x.un.getD v.toNat 0).foldl mq (-1))],λ_ _ _=>False,rfl,(l2 (g:=aM) aK.1).s,?_,
  λ_ _ J h=>⟨h.1.W J,h.2.W J⟩,λ_ _ _ J h=>⟨h.1.F (J.aa _),h.2.W J⟩,λ_ _ _ _ _ h=>h,⟨aN,M.W (O.F f)⟩,⟨aj.refl _ _,N.W f⟩,?_,?_,λ_ _ h=>h.elim,λ_ _ _ h=>h.elim⟩
 .rintro _ _ _ _ ⟨_,_,_,_,rfl⟩;rfl
 .rintro _ j _ bX ⟨aS,aT⟩ ⟨aR,rfl,v,bb,bc⟩ ⟨y,P⟩;cases bc;intro bY aU _ _;have an:(aB x)[j]?=σ (v:Int):=by rw[<-aO,v8,bb];rfl
  have bd:=qq C J (x6 an);have ap:=y.F (aU.aa _);have be:=(O.F f).then ap (by rintro r aJ rfl;omega);rw[aD Ψ (((ak.W f).aa ap Ω).cell rfl),aD Ψ (((am.W f).aa ap Ω).cell rfl)];refine(qb (h.W be)).Y ?_;rintro _ bf _ ⟨rfl,bg⟩;have bh:fx s a.i.toNat (v:Int).toNat=x.un.getD v 0:=by
   unfold fx;rw[hu,u5,J];rfl
  rw[lw (by rw[hu];exact bd),bh,bx,bz];have H:=aU.F bg;have K:=P.W H;refine a1 (λr bj=>(r= .bool (decide ((((aB x).take j).map λv=>x.un.getD v.toNat 0).foldl mq (-1)<0\/x.un.getD v 0<(((aB x).take j).map λv=>x.un.getD v.toNat 0).foldl mq (-1))))/\bj=bf) ?_ λaA L=>?_
  .rintro _ _ ⟨rfl,rfl⟩;rw[ao];refine⟨λQ=>?_,λS=>?_⟩
   .refine bs ax.i rfl rfl K Ξ λbZ bk b0 bm=>?_;have q:=(H.aa _).F bk;refine⟨⟨aS.aa q Ω,iu q Ω aT⟩,⟨y.F q,?_⟩,λh=>by cases h⟩;rw[aQ j v an];unfold mq at Q ⊢;rw[lw Q];exact bm
   .refine⟨⟨aS.W H,aT.W H⟩,⟨y.F (H.aa _),?_⟩,λh=>by cases h⟩;rw[aQ j v an];unfold mq at S K ⊢;rw[m1 S];exact K
  rw[aD Ψ (K.cell rfl),aW,ao];refine⟨λQ=>L _ _ ⟨by rw[m3 (Or.inl Q)],rfl⟩,λS=>?_⟩;rw[aD Ψ (K.cell rfl),aW];refine L _ _ ⟨?_,rfl⟩;congr 1;exact decide_eq_decide.2 ⟨.inr,λh=>h.resolve_left S⟩
 .rintro k aV rfl ⟨y,P⟩;rw[j4 (by rw[<-aO,u9];exact p9 _),TD λv _=>(ij C J).1]at P;have aX:=(O.F f).then y (by rintro r aJ rfl;omega);have aY:ai aV g1 dx [Γ af]:=(ak.W f).aa y Ω;have bn:ai aV az al [Δ a.i]:=(am.W f).aa y Ω;rw[aD Ψ (aY.cell rfl),aD Ψ (P.cell rfl)];refine(wa (h.W aX)).Y ?_;rintro _ b1 _ ⟨au,rfl⟩;have V:=aX.F au;refine cZ (λI=>cp aw w af ag A R n (bi n.k s a).1 I) ?_ λaA L=>?_
  .intro I bp b2 W _;obtain⟨bq,br,aP,bu,bt,bA,bB⟩:=bp;refine⟨?_,bq.F (W.aa _),br.W W,aP,bu,bt.F (Grow.W W),bA.W W,bB⟩;rw[e];split
   .rfl
   .rename_i B;rw[X0.1 B]
  rw[bl,ao];refine⟨λB=>?_,λB=>L _ ?_⟩
  .obtain⟨q,hm⟩:=ni (λh=>h B);rw[aD Ψ ((aY.W au).cell rfl),aD Ψ ((bn.W au).Qz rfl),hu];refine(GO (t:=t) (u:=u) (F1:=pv) (F2:=pw) (g:=λg=>cG n.k g a.c) (z:=λg=>b4 n.k g a.c) (h.W V) (M.W V) X aE J (λv ac=>?_) ⟨o1 C.zero q.1,λ{w A s' t}av=>tp av C.zero q⟩).Y ?_
   .have aZ:=ij (v:=v.toNat) C J;exact⟨o0 aZ ⟨q.1,zn ac hm⟩,λ{w A s t}av=>wb av aZ q (.inr (zn ac hm))⟩
   .rintro _ a6 _ bD;refine L _ ?_;rw[e,m1 (λh=>h B)];exact bD.before V
  .rw[e,lw B];exact cp.same h M X aE V
theorem TG{b m:Nat}{i:Int}{x:bA}(f:vG s n i b m)(hi:0<=i)(J:s.d7[i.toNat]?=σ x):b=0↔aB x=[]:=by
 have a:=kC f hi J;constructor
 .rintro rfl;rw[<-a];have:gD 0 m=[]:=List.eq_nil_iff_forall_not_mem.2 λv ac=>by
   have:=(xF.1 ac).2;simp at this
  rw[this];rfl
 .intro he;rw[he]at a;have ac:=List.map_eq_nil_iff.1 a;refine Nat.eq_of_testBit_eq λj=>?_;rw[Nat.zero_testBit];cases e:b.testBit j with
  |false=>rfl
  |true=>
   have q:j<m:=by
    rcases Nat.lt_or_ge j m with h|h
    .exact h
    .have:=Nat.testBit_lt_two_pow (Nat.lt_of_lt_of_le f.1.2 (T3 Ω h));rw[this]at e;cases e
   have:j∈gD b m:=xF.2 ⟨q,e⟩;rw[ac]at this;cases this
theorem TH(hk:a.kind=3)(h:bw w af ag A R n s t)(E:Laid w)(G:¬A 0)(aE:dJ aw t):aq x7 Js [Γ af,Δ a.i,Δ a.c] w (qs aw w af ag A R n s a):=by
 have H:=h.2.2.2.1;have f:=zH (n:=n) (s:=s) hk;refine aF func77 ?_;refine(GN h).Y ?_;rintro _ U _ ⟨K,rfl⟩;cases ac:jM s a.i with
 |none=>
  rw[ac]at f;rw[m1 Ξ,bG,ao];exact⟨λ_=>⟨by rw[f],by rw[f];exact cp.same h E G aE K⟩,λh=>m2 Φ h⟩
 |some x=>
 rw[ac]at f;simp only at f;obtain⟨M,J,ah⟩:=zF ac;rw[lw (by rfl),bG,ao];refine⟨λh=>m2 rfl h,λ_=>?_⟩;refine(tb (h.W K)).Y ?_;rintro _ ab _ ⟨rfl,X⟩;have N:=K.F X;refine a1 (λr I=>r=Δ (if aB x=[]then-1 else s.zero)/\Ext w I) ?_ λaA y=>?_
 .rintro _ ai ⟨rfl,O⟩;refine(wa (h.W O)).Y ?_;rintro _ aj _ ⟨Y,rfl⟩;have B:=O.F Y;refine cZ (λI=>cp aw w af ag A R n (bi n.k s a).1 I) ?_ λaA y=>?_
  .intro I Z;refine⟨?_,Z⟩;rw[f];generalize (if aB x=[]then(-1:Int)else s.zero)=ak;split
   .rfl
   .rename_i j;rw[X0.1 j]
  rw[bl,ao];refine⟨λj=>?_,λj=>y _ ?_⟩
  .obtain⟨C,hm⟩:=ni (λh=>h j);have P:a.c<=s.zero:=by
    split at hm
    .omega
    .exact hm
   obtain⟨u,hu⟩:=Y6 M;rw[hu,u5]at J;rw[hu];refine(GO (t:=t) (u:=u) (F1:=pw) (F2:=pv) (g:=λg=>b4 n.k g a.c) (z:=λg=>cG n.k g a.c) (h.W B) (E.W B) G aE J (λv ac=>?_) ⟨o0 H.zero ⟨C.1,P⟩,λ{w A s' t}L=>wb L H.zero C (.inr P)⟩).Y ?_
   .have Q:=ij (v:=v.toNat) H J;exact⟨o1 Q C.1,λ{w A s t}L=>tp L Q C⟩
   .rintro _ al _ aa;refine y _ ?_;rw[f,m1 (λh=>h j),hu,u5];exact aa.before B
  .rw[f,lw j];exact cp.same h E G aE B
 refine(iW (i:=a.i) (h.W N)).Y ?_;rintro _ am _ ⟨⟨b,an,rfl,S⟩,ad⟩;refine(jA S.1).Y ?_;rintro _ ap _ ⟨⟨q,rfl,T⟩,ae⟩;have V:=(N.F ad).F ae;have W:=TG S M J;rw[bl,ao];refine⟨λh=>y _ _ ⟨by rw[lw (W.1 (T.1 h))],V⟩,λh=>y _ _ ⟨by rw[m1 λe=>h (T.2 (W.2 e))],V⟩⟩
theorem GQ(hk:a.kind=4)(h:bw w af ag A R n s t)(f:Laid w)(j:¬A 0)(aE:dJ aw t):aq x7 Jt [Γ af,Δ a.i,Δ a.v] w (qs aw w af ag A R n s a):=by
 have q:=h.2.2.2.1;have e:bi n.k s a=match dF s a.i a.v with
  |none=>(s,1)
  |some x=>if b4 n.k s.zero (x.un.getD a.v.toNat 0)<n.k then(s,7)else(dZ s a.i.toNat a.v.toNat,0):=by
  unfold bi;rw[m1 Ω,m1 Ω,m1 Ω,m1 Ω,lw hk]<;>cases dF s a.i a.v<;>rfl
 refine aF func78 ?_;refine(zx h).Y ?_;rintro _ U _ ⟨z,rfl⟩;cases ac:dF s a.i a.v with
 |none=>
  rw[ac]at e;rw[m1 Ξ,bG,ao];exact⟨λ_=>⟨by rw[e],by rw[e];exact cp.same h f j aE z⟩,λh=>m2 Φ h⟩
 |some x=>
 rw[ac]at e;simp only at e;obtain⟨X,J,Y,I⟩:=ke ac;rw[lw (by rfl),bG,ao];refine⟨λh=>m2 rfl h,λ_=>?_⟩;have C:eC n a.i a.v:=by
  have:=qq q J I;rwa [show((a.i.toNat:Nat):Int)=a.i by omega]at this
 refine(qb (h.W z)).Y ?_;rintro _ ab _ ⟨rfl,K⟩;have L:fx s a.i.toNat a.v.toNat=x.un.getD a.v.toNat 0:=by
  unfold fx;rw[J]
 rw[lw C,L,bx,bz];have E:=z.F K;refine(tb (h.W E)).Y ?_;rintro _ Z _ ⟨rfl,M⟩;have G:=E.F M;refine(tp (h.W G) q.zero (ij q J)).Y ?_;rintro _ aa _ ⟨rfl,N⟩;have H:=G.F N;refine(n2 (h.W H)).Y ?_;rintro _ ad _ ⟨rfl,O⟩;have B:=H.F O;rw[aW,ao];refine⟨λP=>?_,λQ=>?_⟩
 .rw[lw P]at e;exact⟨by rw[e],by rw[e];exact cp.same h f j aE B⟩
 .rw[m1 Q]at e;refine(y3 (h.W B) aE.room).Y ?_;rintro r ae _ ⟨_,S⟩;obtain⟨rfl,T,aP,y,V,W⟩:=S C;refine⟨by rw[e],?_⟩;rw[e];exact cp.step h f j B T V W aE.set
theorem TI(hk:5<=a.kind)(h:bw w af ag A R n s t)(O:Laid w)(V:¬A 0)(aE:dJ aw t):aq x7 Ju [Γ af,Δ a.i,Δ a.v] w (qs aw w af ag A R n s a):=by
 have av:=h.2.2.2.1;have q:bi n.k s a=match dF s a.i a.v with
  |none=>(s,1)
  |some x=>(ii s a.i.toNat a.v (aB x),0):=by
  unfold bi;rw[m1 Ω,m1 Ω,m1 Ω,m1 Ω,m1 Ω]<;>cases dF s a.i a.v<;>rfl
 refine iM func79 ?_;refine bo λg1 U aX W z=>?_;refine bo λaY ab aZ P B=>?_;refine bo λa1 Q a2 K C=>?_;have z:ai Q g1 dx [Γ af]:=(ai.W z P).W K;have B:=ai.W B K;have C:=C;have L:=(W.F P).F K;have a6:=W.size;have a7:=P.size;have z3:=K.size;have ax:=z.lt;have ay:=B.lt;have az:=C.lt;rw[aD Ψ (z.cell rfl),aD Ψ (B.cell rfl),aD Ψ (C.cell rfl)];refine(zx (h.W L)).Y ?_;rintro _ a8 _ ⟨E,rfl⟩;have X:=L.F E;have z4:=E.size;cases ac:dF s a.i a.v with
 |none=>
  rw[ac]at q;rw[m1 Ξ,bG,ao];refine⟨λ_=>?_,λh=>m2 Φ h⟩;intro ba aA _;exact⟨by rw[q],by rw[q];exact cp.same h O V aE (X.F aA)⟩
 |some x=>
 rw[ac]at q;simp only at q;obtain⟨aC,J,bc,bd⟩:=ke ac;rw[lw (by rfl),bG,ao];refine⟨λh=>m2 rfl h,λ_=>?_⟩;rw[aD Ψ ((z.W E).cell rfl),aD Ψ ((B.W E).Qz rfl)];refine(iW (i:=a.i) (h.W X)).Y ?_;rintro _ be _ ⟨⟨b,aF,rfl,Y⟩,Z⟩;refine(l3 (b:=b) (n:=aF)).Y ?_;rintro _ S _ ⟨aG,ad,rfl,bf,ae⟩;have ah:=kC Y aC J;have M:=(E.F Z).F aG;have bg:=Z.size;have bh:=M.size;have bj:=ae.lt;refine ki.old ⟨_,ne,jy,#[Γ ad],_,_,_,_,λj I=>dC aw w af ag A R n w.heap.size (λr=>S.heap.size<=r) (ii s a.i.toNat a.v ((aB x).take j)) I/\aj (λr=>r<w.heap.size\/S.heap.size<=r) S I,λ_ _ _=>False,rfl,(l2 (g:=ad) Y.1).s,?_,
  λ_ _ J h=>⟨h.1.W J,h.2.W J⟩,λ_ _ _ J h=>⟨h.1.W J,h.2.F (J.aa _)⟩,λ_ _ _ _ _ h=>h,⟨ae,O.W (L.F M)⟩,⟨dC.start h O V aE (L.F M) (p9 _),aj.refl _ _⟩,?_,?_,λ_ _ h=>h.elim,λ_ _ _ h=>h.elim⟩
 .rintro _ _ _ _ ⟨_,_,_,_,rfl⟩;rfl
 .rintro _ j _ bk ⟨ak,aH⟩ ⟨bl,rfl,v,aI,aJ⟩ ⟨G,H⟩;cases aJ;intro aK f _ _;have al:(aB x)[j]?=σ (v:Int):=by rw[<-ah,v8,aI];rfl
  have aL:eC n a.i (v:Int):=by
   have:=qq av J (x6 al);rwa [show((a.i.toNat:Nat):Int)=a.i by omega]at this
  have bb:∀{g:Nat}{e:r8}{cs:List x1},w.heap.size<=g->g<Q.heap.size->ai Q g e cs->ai aK g e cs:=λaM aN aO=>((aO.W M).aa H Ω).W f;have N:=TB (s:=s) (i:=a.i.toNat) (v:=a.v) al;obtain⟨bm,bn,aQ,am,aR⟩:=G.open;rw[aD Ψ ((bb Ω az C).cell rfl),bG,ao];refine⟨λaS=>?_,λhe=>?_⟩
  .rw[lw aS]at N;rw[aD Ψ ((bb Ω ax z).cell rfl),aD Ψ ((bb Ω ay B).cell rfl)];refine(y3 (aQ.W f) am.room).Y ?_;rintro r bp _ ⟨_,aT⟩;obtain⟨rfl,aU,aP,y,aV,an⟩:=aT aL;rw[<-N]at an;have bq:=H.size;obtain⟨ap,au,br⟩:=aR (iS f aU) ((Grow.W f).F aV) an am.set (λr h=>h) λr aM aN=>Ω
   exact⟨⟨ak.aa au Ω,ap.2.1.1⟩,⟨ap,H.F au⟩,λh=>by cases h⟩
  .rw[m1 he]at N;exact⟨⟨ak.W f,aH.W f⟩,⟨by rw[N];exact G.W f,H.F (f.aa _)⟩,λh=>by cases h⟩
 .rintro k bs rfl ⟨G,H⟩;rw[j4 (by rw[<-ah,u9];exact p9 _)]at G;intro bt aW _;exact⟨by rw[q],by rw[q];exact G.done aW⟩
end
theorem TJ{cQ:x1}(h:aQ .i64 w cQ l)(E:l.length<=1000000):aq x7 J6 [cQ,Δ v] w λr I=>Ext w I/\(∃g,aH .i64 al I g r (l.filter λy=>!decide (y=v)))/\∀q,hv r q->w.heap.size<=q:=by
 refine aF func142 ?_;rw[a7 av.u h];refine cb.range l.length (λi out a=>Ext w a/\(∃g,aH .i64 al a g out ((l.take i).filter λy=>!decide (y=v)))/\∀r,hv out r->w.heap.size<=r) h.le ⟨Ext.refl _,⟨0,aH.nil _ _ _ _⟩,λr z=>by obtain⟨_,_,_,e,_⟩:=z;cases e⟩ ?_ ?_
 .rintro q out a A B ⟨f,⟨g,hm⟩,j⟩ G;obtain⟨y,C⟩:=aK (l:=l) B;have H:(l.take (q+1)).filter (λy=>!decide (y=v))=(l.take q).filter (λy=>!decide (y=v))++(if y≠v then[y]else[]):=by
   grind [u7]
  refine bM Ω ?_;refine a1 (λs x=>Ext w x/\(∃g,aH .i64 al x g s ((l.take (q+1)).filter λy=>!decide (y=v)))/\∀r,hv s r->w.heap.size<=r) (λ_ _ J=>by rw[aR];grind) λaA K=>?_;rw[bm av.u al.i Ψ (h.W f) C,bG,ao];refine⟨λL=>?_,by grind⟩;refine Gx f hm j ?_ (by grind)
  grind
 .rintro out a A ⟨f,hm,j⟩;rw[o6]at hm;refine cc Ω ?_
  grind
theorem zI{i:Nat}{v:Int}:∀(L:Λ)(s:an)(x:bA),s.d7[i]?=σ x->(∀y∈L,0<=y)->∃m,ii s i v L={s with d7:=s.d7.set i {x with mask:=m}}/\aB {x with mask:=m}=(aB x).filter λy=>!(decide (y∈L)&& !decide (y=v))
 |[],s,x,J,_=>by
  refine⟨x.mask,?_,(List.filter_eq_self.2 λy _=>Ξ).symm⟩;have:s.d7.set i x=s.d7:=by
   apply Y5
   grind
  show s={s with d7:=s.d7.set i x};rw[this]
 |w::L,s,x,J,h=>by
  have hw:=h w (.head _);have j:=(x5.1 J).1;rw[ii];by_cases e:w≠v
  .rw[lw e];have a:dZ s i w.toNat={s with d7:=s.d7.set i {x with mask:=((x.mask.toNat ||| 2 ^ w.toNat:Nat):Int)}}:=by grind [dZ]
   obtain⟨m,h1,f⟩:=zI L (dZ s i w.toNat) {x with mask:=((x.mask.toNat ||| 2 ^ w.toNat:Nat):Int)} (by rw[a];exact Y2 j) (by grind);refine⟨m,?_,?_⟩
   .rw[h1,a]
    grind [List.set_set]
   .rw[f,zl hw,List.filter_filter]
    grind
  .rw[m1 e];obtain⟨m,h1,f⟩:=zI L s x J (by grind);refine⟨m,h1,?_⟩
   grind
theorem filter_one(a:l.Nodup)(ac:v∈l):l.filter (λy=>decide (y=v))=[v]:=by
 induction l<;>grind [List.filter_eq_nil_iff]
def k4(u:an)(a:fF):Option bA:=if 3<a.kind then dF u a.i a.v else jM u a.i
section
variable{w:x4}{af ag au:Nat}{A R:ak}{A9:Nat->ak}{aJ:ak}{n:aI}{s u:an}{t:az}{h:List az}{cs:List x1}{a:fF}
theorem GR{x:bA}(h:k4 u a=σ x):0<=a.i/\u.d7[a.i.toNat]?=σ x/\x.gone=0/\(3<a.kind->a.v∈aB x):=by
 unfold k4 at h;split at h
 .obtain⟨h1,e,f,j⟩:=ke h
  grind
 .rename_i hk;obtain⟨h1,e,f⟩:=zF h
  grind
theorem TK(h:¬(0<=a.i/\a.i<u.d7.length)):k4 u a=ν:=by
 cases he:k4 u a with
 |none=>rfl
 |some x=>
  obtain⟨h1,e,_⟩:=GR he
  grind
theorem TL{x:bA}(e:0<=a.i)(J:u.d7[a.i.toNat]?=σ x):k4 u a=if x.gone=0/\(3<a.kind->a.v∈aB x)then σ x else ν:=by
 grind [k4,dF,jM]
theorem TM(hk:2<=a.kind/\a.kind<=5)(h:k4 u a=ν):bi n.k u a=(u,1):=by
 grind [k4,bi,zG,zH]
theorem GS{x:bA}(f:0<=c):jt x<c↔aB x=[]\/∃v∈aB x,x.un.getD v.toNat 0<c:=by
 unfold jt;constructor
 .intro h;cases a:aB x with
  |nil=>grind
  |cons b l=>
   refine .inr ?_;rw[a]at h;simp only[List.map_cons]at h;by_cases j:∀v∈b::l,c<=x.un.getD v.toNat 0
   .have:=(ql (l.map λv=>x.un.getD v.toNat 0) (x.un.getD b.toNat 0) c).2 (by grind);omega
   grind
 .rintro (h|⟨v,ac,q⟩)
  .grind
  .cases a:aB x with
   |nil=>grind
   |cons b l=>
    rw[a]at ac;simp only[List.map_cons];rcases Int.lt_or_le ((l.map λv=>x.un.getD v.toNat 0).foldl min (x.un.getD b.toNat 0)) c with aw|aw
    .exact aw
    .obtain⟨r,e⟩:=(ql _ _ _).1 aw;rcases List.mem_cons.1 ac with rfl|ac
     .omega
     .have:=e _ (o9.2 ⟨v,ac,rfl⟩);omega
def zJ(n:aI)(u:an)(x:bA)(a:fF):Prop:=aB x=[]\/(a.kind=3/\u.zero<a.c)\/(a.kind=2/\∃v∈aB x,x.un.getD v.toNat 0<a.c)
theorem TN{x:bA}(hk:a.kind=2\/a.kind=3)(h:k4 u a=σ x):(¬(0<=a.c/\a.c<=n.k)->bi n.k u a=(u,3))/\((0<=a.c/\a.c<=n.k)->zJ n u x a->bi n.k u a=(u,7))/\
  ((0<=a.c/\a.c<=n.k)->¬zJ n u x a->bi n.k u a=(iX u a.i.toNat x (λg=>if a.kind=2 then cG n.k g a.c else b4 n.k g a.c) (λg=>if a.kind=2 then b4 n.k g a.c else cG n.k g a.c),0)/\(a.kind=2->∀v∈aB x,a.c<=x.un.getD v.toNat 0)/\(a.kind=3->a.c<=u.zero)):=by
 have ac:jM u a.i=σ x:=by grind [k4]
 rcases hk with hk|hk
 .have f:=zG (n:=n) (s:=u) hk;rw[ac]at f;simp only at f;simp only[hk];refine⟨λe=>?_,λe hi=>?_,λe hi=>?_⟩
  .grind [dG]
  .have j:=(GS e.1).2 (hi.elim .inl (by grind))
   grind [dG]
  .have j:¬jt x<a.c:=λh=>hi (((GS e.1).1 h).elim .inl λh=>.inr (.inr ⟨hk,h⟩));have r:dG n.k a.c (jt x)=0:=by grind [dG]
   rw[r,m1 Φ]at f;refine⟨by grind,λ_ v ac=>?_,Ω⟩;rcases Int.lt_or_le (x.un.getD v.toNat 0) a.c with aw|aw
   .exact m2 (.inr (.inr ⟨hk,v,ac,aw⟩)) hi
   .exact aw
 .have f:=zH (n:=n) (s:=u) hk;rw[ac]at f;simp only at f;simp only[hk];refine⟨λe=>?_,λe hi=>?_,λe hi=>?_⟩
  .grind [dG]
  .have j:(if aB x=[]then-1 else u.zero)<a.c:=by
    by_cases q:aB x=[]
    .grind
    .rw[m1 q];rcases hi with hi|hi|hi
     all_goals grind
   grind [dG]
  .have q:¬aB x=[]:=λh=>hi (.inl h);have w:¬u.zero<a.c:=λh=>hi (.inr (.inl ⟨hk,h⟩))
   grind [dG]
end
section
variable{w:x4}{af ag au:Nat}{A R:ak}{A9:Nat->ak}{aJ:ak}{n:aI}{s u:an}{t:az}{h:List az}{cs:List x1}{a:fF}
theorem TO(p:cm w af ag au A R A9 aJ n s u t h cs)(am:ba n.k n.d6 u)(hk:2<=a.kind/\a.kind<=5):aq x7 w8 [Γ au,Δ (a.kind:Int),Δ a.i,Δ a.pos,Δ a.v,Δ a.c] w λr I=>r=Δ (bi n.k u a).2/\dH w af ag au A R A9 aJ n s t h (bi n.k u a).1 I:=by
 have cr:=am.d7;have ct:=am.eA;refine aF func73 ?_;have bO:cs[0]?=σ (Δ n.k):=by obtain⟨_,_,_,_,_,_,rfl,_⟩:=p.qj;rfl
 rw[aL a8.p 0 p.box bO,aW,ao];refine⟨λh=>Ω,λ_=>?_⟩;refine a1 (λr I=>r= .bool (!(k4 u a).isSome)/\Ext w I) ?_ λaA bb=>?_
 rotate_left
 .rw[bR];refine p.look.load λdr cu=>?_;refine(Sj cu).Y ?_;rintro _ U _ ⟨rfl,W⟩;rw[bE,b1];refine⟨λO=>bb _ _ ⟨by rw[TK (λh=>by rw[cr]at h;rw[m3 h]at O;cases O)];rfl,W⟩,λO=>?_⟩;have bc:0<=a.i/\a.i<n.d6.length:=by simpa using O
  obtain⟨x,J⟩:=aK (l:=u.d7) (i:=a.i.toNat) Ω;have bq:=TL bc.1 J;obtain⟨ho,cw,dj,aT,dk,br,bP,_,_,cz,cB,dl,dm,dn⟩:=(p.look).W W;rw[aL a8.p 4 bP rfl];refine iN (i:=a.i.toNat) rfl Ω lb.u eE.i Ψ cB (by rw[v8,J];rfl) λbQ bs=>?_;have bs:[bQ]=[x1.bool (decide (x.gone≠0))]:=bs;obtain rfl:bQ=x1.bool (decide (x.gone≠0)):=by simpa using bs
  rw[ao];refine⟨λP=>bb _ _ ⟨by rw[bq,m1 λh=>P h.1];rfl,W⟩,λP=>?_⟩;have P:=X0.1 P;rw[bU,ao];refine⟨λbt=>?_,λbt=>bb _ _ ⟨by rw[bq,lw ⟨P,λh=>m2 h Ω⟩];rfl,W⟩⟩;rw[aL a8.p 3 bP rfl];refine iN (a:=aB x) (i:=a.i.toNat) rfl Ω df.u av.i Ψ cz (by rw[v8,J];rfl) λdp cC=>?_;refine(y4 (dy cC)).Y ?_;rintro _ ab _ ⟨rfl,H⟩;rw[bE];refine bb _ _ ⟨?_,W.F H⟩;rw[bq];by_cases ac:a.v∈aB x
  .rw[lw ⟨P,λ_=>ac⟩,m3 ac];rfl
  .rw[m1 λh=>ac (h.2 Ω),m5 ac];rfl
 rintro _ U ⟨rfl,W⟩;cases hm:k4 u a with
 |none=>
  have f:=TM (n:=n) hk hm;rw[S6,X4,bK];exact⟨by rw[f],by rw[f];exact dH.same p W⟩
 |some x=>
 rw[T8,Y1,a6];obtain⟨cD,J,dq,cE⟩:=GR hm;obtain⟨C,aH⟩:=Y6 cD;rw[aH,u5]at J;have bu:=(x5.1 J).1;have E:∀y∈aB x,0<=y/\y<x.un.length:=λy N=>(e1.1 N).1;simp only[aH];have bS:∀v:Nat,0<=x.un.getD v 0/\x.un.getD v 0<=n.k:=λv=>ij am J;have M:=p.W W;have ds:=bO;have bw:∀{ab:x4}{fu:an}{bT:List x1}{bx:Nat->ak}{aI:bA},cm ab af ag au A R bx aJ n s fu t h bT->fu.d7[C]?=σ aI->∃aT ap y,aQ .i64 ab y aI.un/\(∀{j:x4}{K:x1->x1->x1->x1->x1->Prop},Ext ab j->K (Γ au) (.pointer (σ ⟨au,0+5,ν⟩)) aT (.pointer (σ ⟨ap,0+C*1,ν⟩)) y->
    ad x7 (b0 (Γ au)) j λay=>ad x7 (u6 a8 ay 5) j λaz=>ad x7 (u4 et az) j λaN=>ad x7 (n9 et aN (Δ (C:Int))) j λbd=>ad x7 (u4 aC bd) j λcF=>K ay az aN bd cF)/\
   ∀{I:x4}{v:Nat}{c:Int}{K:Unit->x4->Prop},Ext ab I->v<aI.un.length->(∀bV,k3 ab af ag au A R bx aJ n s t h (e7 fu C aI (aI.un.set v c)) bV->K () bV)->ad x7 (n9 aC y (Δ (v:Int))) I λa=>aM x7 (o7 ax a (Δ c)) I K:=λ{ab fu bT bx aI}bW B=>by
  obtain⟨ap,cH,y,cI,cJ,Z,bz⟩:=zC bW B;have cK:=(x5.1 B).1;refine⟨.slice (σ ⟨ap,0,ν⟩) fu.d7.length cH,ap,y,Z,λ{j K}aE aU=>?_,bz⟩;rw[aL a8.p 5 (bW.box.W aE) cI,fq et.u aC.i cK λ_=>rfl,aD Ψ (by rw[V7,T1];exact km aE cJ)];exact aU
 obtain⟨cL,cM,bB,bX,cN,ae,cO,bY⟩:=Tk M J;have bZ:∀{j:x4}{K:x1->x1->x1->Prop},Ext U j->K (Γ au) (.pointer (σ ⟨au,0+3,ν⟩)) (.slice (σ ⟨cL,0,ν⟩) u.d7.length cM)->
   ad x7 (b0 (Γ au)) j λay=>ad x7 (u6 a8 ay 3) j λaz=>ad x7 (u4 df az) j λaN=>K ay az aN:=λaE aU=>by
  rw[aL a8.p 3 (M.box.W aE) bX];exact aU
 have qk:∀{j:x4}{K:x1->Prop},Ext U j->K bB->
   ad x7 (b0 (Γ au)) j λay=>ad x7 (u6 a8 ay 3) j λaz=>ad x7 (u4 df az) j λaN=>ad x7 (n9 df aN (Δ (C:Int))) j λbd=>ad x7 (u4 av bd) j K:=λaE aU=>by
  rw[aL a8.p 3 (M.box.W aE) bX,fq df.u av.i bu λ_=>rfl,aD Ψ (by rw[V7,T1];exact km aE cN)];exact aU
 have low:∀{u':an}{I:x4},dH U af ag au A R A9 aJ n s t h u' I->dH w af ag au A R A9 aJ n s t h u' I:=λbe=>dH.comp (W.aa _) (λq r E=>.inl ⟨q,E⟩) be;refine a1 (λ_ I=>dH w af ag au A R A9 aJ n s t h (bi n.k u a).1 I/\(bi n.k u a).2=0) (λ_ I be=>⟨by rw[be.2],be.1⟩) λcP bC=>?_;refine a1 (λr I=>r= .bool (decide (a.kind=2\/a.kind=3))/\U=I) ?_ λdt b2=>?_
 rotate_left
 .rw[bl,ao];refine⟨λB=>b2 _ _ ⟨?_,rfl⟩,λB=>?_⟩
  .congr 1;exact decide_eq_decide.2 ⟨λ_=>.inl Ω,λ_=>B⟩
  .rw[bl];refine b2 _ _ ⟨?_,rfl⟩;congr 1;exact decide_eq_decide.2 ⟨λh=>.inr Ω,λh=>Ω⟩
 rintro _ _ ⟨rfl,rfl⟩;rw[ao];refine⟨λcQ=>?_,λdu=>?_⟩
 .
  obtain⟨cR,bf,bD⟩:=TN cQ hm;refine B6.Y ?_;rintro _ ab _ ⟨rfl,H⟩;have dv:=H;have b3:cA a.c n.k↔0<=a.c/\a.c<=n.k:=⟨λh=>h.2,λB=>⟨ct,B⟩⟩;rw[bE,b1];refine⟨λO=>?_,λO=>?_⟩
  .have f:=cR λh=>m2 (b3.2 h) (by simpa using O);exact⟨by rw[f],by rw[f];exact low (dH.same M H)⟩
  have bc:=b3.1 (show cA a.c n.k by simpa using O);have bf:=bf bc;have bD:=bD bc;refine a1 (λr I=>Ext U I/\∃b,r= .bool b/\(b=ms↔aB x=[]\/(a.kind=3/\u.zero<a.c))) ?_ λdw bF=>?_
  rotate_left
  .refine qk H ?_;rw[a7 av.u (ae.W H),bl,ao];refine⟨λhe=>bF _ _ ⟨H,ms,rfl,⟨λ_=>.inl (j6 Ω),λ_=>rfl⟩⟩,λbg=>?_⟩;have bg:aB x≠[]:=λh=>bg (by rw[h];rfl);rw[bl,ao];refine⟨λbt=>?_,λbt=>bF _ _ ⟨H,ne,rfl,⟨(λh=>by cases h),λh=>h.elim (λh=>m2 h bg) λh=>Ω⟩⟩⟩;have bG:cs[2]?=σ (Δ u.zero):=by obtain⟨_,_,_,_,_,_,rfl,_⟩:=p.qj;rfl
   rw[aL a8.p 2 (M.box.W H) bG,bU];exact bF _ _ ⟨H,_,rfl,by rw[m6];exact⟨λh=>.inr ⟨Ω,h⟩,λh=>h.elim (λh=>m2 h bg) λh=>h.2⟩⟩
  rintro _ cS ⟨aO,b,rfl,b7⟩;rw[b1];refine⟨λcT=>?_,λah=>?_⟩
  .have f:=bf ((b7.1 cT).elim .inl λh=>.inr (.inl h));exact⟨by rw[f],by rw[f];exact low (dH.same M aO)⟩
  have b8:¬(aB x=[]\/(a.kind=3/\u.zero<a.c)):=λh=>by rw[b7.2 h]at ah;cases ah
  refine qk aO ?_;rw[a7 av.u (ae.W aO)];refine cb.range (aB x).length (λq _ I=>Ext U I/\(a.kind=2->∀v∈(aB x).take q,a.c<=x.un.getD v.toNat 0)) ae.le ⟨aO,λ_ v ac=>by simp at ac⟩ ?_ ?_
  .rintro q b9 aG cU bH ⟨L,bh⟩ cV;obtain⟨v,ac⟩:=aK (l:=aB x) bH;have ai:=x6 ac;have bj:=E v ai;obtain⟨G,rfl⟩:=Y6 bj.1;refine bM Ω ?_;rw[bm av.u al.i Ψ (ae.W L) ac];refine a1 (λr I=>aG=I/\r= .bool (decide (a.kind=2/\x.un.getD G 0<a.c))) ?_ λdx ca=>?_
   .rintro _ _ ⟨rfl,rfl⟩;rw[ao];refine⟨λaV=>?_,λbI=>?_⟩
    .have f:=bf (.inr (.inr ⟨aV.1,_,ai,aV.2⟩));exact⟨by rw[f],by rw[f];exact low (dH.same M L)⟩
    .rw[aR];refine cV _ _ ⟨L,λB y N=>?_⟩;rw[u7,ac,o8,j5,Z7]at N;rcases N with N|rfl
     .exact bh B y N
     .rcases Int.lt_or_le (x.un.getD G 0) a.c with aw|aw
      .exact m2 ⟨B,aw⟩ bI
      .exact aw
   rw[bl,ao];refine⟨λB=>?_,λB=>ca _ _ ⟨rfl,by rw[m5 λh=>B Ω]⟩⟩;obtain⟨aT,ap,y,Z,look,_⟩:=bw (M.W L) J;refine look (Ext.refl _) ?_;rw[bm aC.u ax.i Ψ Z (getD_some (i:=G) Ω),bU];refine ca _ _ ⟨rfl,?_⟩;congr 1;exact decide_eq_decide.2 ⟨λh=>⟨Ω,h⟩,λh=>h.2⟩
  rintro b9 aG cU ⟨L,bh⟩;rw[o6]at bh;have cW:¬zJ n u x a:=λhi=>hi.elim (λh=>b8 (.inl h)) λh=>h.elim (λh=>b8 (.inr h)) λ⟨B,v,ac,aV⟩=>by have:=bh B v ac;omega
  obtain⟨f,dz,dA⟩:=bD cW;rw[aH,u5]at f;refine cc Ω ?_;refine qk L ?_;rw[a7 av.u (ae.W L)];obtain⟨g,P⟩:∃g:Int->Int,g=λg=>if a.kind=2 then cG n.k g a.c else b4 n.k g a.c:=⟨_,rfl⟩;obtain⟨z,bJ⟩:∃z:Int->Int,z=λg=>if a.kind=2 then b4 n.k g a.c else cG n.k g a.c:=⟨_,rfl⟩;rw[<-P,<-bJ]at f;have cX:=M.W L;have cY:=ae.W L;have cd:=qh x;obtain⟨ce,dC⟩:∃ce,bB=ce:=⟨_,rfl⟩;have c0:e7 u C x (eD g x.un ((aB x).take 0))=u:=by
   unfold e7;show{u with d7:=u.d7.set C x}=u;have:u.d7.set C x=u.d7:=by
    apply Y5;intro i;by_cases e:C=i
    .subst e;rw[Y2 bu,J]
    .rw[W0 e]
   rw[this]
  have c1:∀{I:x4},aj (A9 2) aG I->aQ .i64 I bB (aB x):=λc2=>jC cY c2 λr E b n c e O=>M.iw.1 0 2 r Φ (cO r ⟨b,n,c,e,O⟩) E;refine b6.range (aB x).length (λq I=>k3 aG af ag au A R A9 aJ n s t h (e7 u C x (eD g x.un ((aB x).take q))) I) ae.le (by rw[c0];exact k3.same cX (Ext.refl _)) ?_ ?_
  .rintro q bk c3 bH aP c4;obtain⟨bn,c5,cf,aS,bL,c6⟩:=id aP;obtain⟨v,ac⟩:=aK (l:=aB x) bH;have ai:=x6 ac;have bj:=E v ai;obtain⟨G,rfl⟩:=Y6 bj.1;have bo:(e7 u C x (eD g x.un ((aB x).take q))).d7[C]?=σ {x with un:=eD g x.un ((aB x).take q)}:=Y2 bu;have dD:(eD g x.un ((aB x).take q)).length=x.un.length:=vR _ _;have bN:=vS (g:=g) ((aB x).take q) x.un (G:Int) (cd.sublist (List.take_sublist _ _)) (λy N=>E y (S4 N)) Ω;rw[m1 (zw cd ac),u5]at bN;have c7:=bS G;obtain⟨aT,ap,y,Z,look,bz⟩:=bw aS bo;refine bM Ω ?_;refine cZ (λQ=>k3 aG af ag au A R A9 aJ n s t h (e7 u C x (eD g x.un ((aB x).take (q+1)))) Q) (λQ S=>by rw[aR];exact c4 _ S) λc8 c9=>?_;have aX:∀{V:x4},Ext bk V->ad x7 (n9 aC y (Δ (G:Int))) V λa'=>aM x7 (o7 ax a' (Δ (g (x.un.getD G 0)))) V λ(_:Unit)Q=>c8 Q:=λbp=>by
    refine bz bp (by show G<(eD g x.un ((aB x).take q)).length;omega) λQ S=>c9 _ (k3.comp bn bL c6 ?_);have e:e7 (e7 u C x (eD g x.un ((aB x).take q))) C {x with un:=eD g x.un ((aB x).take q)} ((eD g x.un ((aB x).take q)).set G (g (x.un.getD G 0)))=e7 u C x (eD g x.un ((aB x).take (q+1))):=by
     rw[GM ac,u5,bN];unfold e7;simp only[List.set_set]
    rw[e]at S;exact S
   have cg:(eD g x.un ((aB x).take q))[G]?=σ (x.un.getD G 0):=by rw[getD_some Ω,bN]
   rw[bm av.u al.i Ψ (c1 bn) ac,bl,ao];refine⟨λB=>?_,λB=>?_⟩
   .intro j X _ _;refine look X (look X ?_);rw[bm aC.u ax.i Ψ (Z.W X) cg];refine(wg Ω Ω).Y ?_;rintro _ V _ ⟨rfl,Y⟩;refine⟨.inl Y,?_⟩;have:=aX (X.F Y);rw[P]at this;simp only[lw (show a.kind=2 by omega)]at this;exact this
   .intro j X _ _;refine look X (look X ?_);rw[bm aC.u ax.i Ψ (Z.W X) cg];refine(oJ Ω Ω).Y ?_;rintro _ V _ ⟨rfl,Y⟩;refine⟨.inl Y,?_⟩;have:=aX (X.F Y);rw[P]at this;simp only[m1 (show¬a.kind=2 by omega)]at this;exact this
  .rintro bk c3 aP;rw[o6]at aP;refine cc Ω ?_;have aP:=aP.GB;obtain⟨bn,c5,cf,aS,bL⟩:=id aP;have ch:cf[2]?=σ (Δ u.zero):=by obtain⟨_,_,_,_,_,_,rfl,_⟩:=aS.qj;rfl
   have da:=am.zero;have aX:∀{V:x4},Ext bk V->aM x7 (o7 ax (.pointer (σ ⟨au,0+2,ν⟩)) (Δ (z u.zero))) V λ(_:Unit)Q=>cP b9 Q:=λbp=>by
    refine Tj (aS.W bp) λQ S=>bC _ _ ⟨?_,by rw[f]⟩;rw[f];have ci:=dH.comp (bp.aa _) (λq r E=>.inl ⟨q,E⟩) S;have aZ:=dH.comp bn bL ci;exact low (dH.comp (L.aa _) (λq r E=>.inl ⟨q,E⟩) aZ)
   rw[bl,ao];refine⟨λB=>?_,λB=>?_⟩
   .rw[aL a8.p 2 aS.box ch];refine(oJ Ω Ω).Y ?_;rintro _ V _ ⟨rfl,Y⟩;rw[bR,aY a8.p rfl];have:=aX Y;rw[bJ]at this;simp only[lw (show a.kind=2 by omega)]at this;exact this
   .rw[aL a8.p 2 aS.box ch];refine(wg Ω Ω).Y ?_;rintro _ V _ ⟨rfl,Y⟩;rw[bR,aY a8.p rfl];have:=aX Y;rw[bJ]at this;simp only[m1 (show¬a.kind=2 by omega)]at this;exact this
 .
  have cj:3<a.kind:=Ω
  have ai:=cE cj;obtain⟨G,br⟩:=Y6 (E _ ai).1;have bj:=(E _ ai).2;have ck:dF u a.i a.v=σ x:=by unfold k4 at hm;rwa [lw cj]at hm
  rw[bl,ao];refine⟨λaZ=>?_,λaZ=>?_⟩
  .have aZ:a.kind=4:=Ω
   have f:bi n.k u a=if b4 n.k u.zero (x.un.getD a.v.toNat 0)<n.k then(u,7)else(dZ u a.i.toNat a.v.toNat,0):=by
    unfold bi;rw[m1 Ω,m1 Ω,m1 Ω,m1 Ω,lw aZ,ck]
   have da:=am.zero;have c7:=bS G;intro ab H _ _;have bG:cs[2]?=σ (Δ u.zero):=by obtain⟨_,_,_,_,_,_,rfl,_⟩:=p.qj;rfl
   obtain⟨aT,ap,y,Z,look,_⟩:=bw (M.W H) J;rw[aL a8.p 2 (M.box.W H) bG];refine look (Ext.refl _) ?_;rw[br,bm aC.u ax.i Ψ Z (getD_some Ω)];refine(oJ Ω Ω).Y ?_;rintro _ cS _ ⟨rfl,aO⟩;have cl:=H.F aO;rw[br,u5]at f;unfold b4 at f;rw[aW,ao];refine⟨λaV=>?_,λbI=>?_⟩
   .rw[lw aV]at f;exact⟨by rw[f],by rw[f];exact low (dH.same M cl)⟩
   .rw[m1 bI]at f;intro aG L _ _;have a2:=cl.F L;refine bZ a2 ?_;refine qk a2 ?_;have dE:=qm x;have db:=am.fg.2.2;refine(TJ (ae.W a2) (by
     obtain⟨cn,cp⟩:=aK (l:=n.d6) (i:=C) Ω;have h1:=(am.var C x cn J cp).1;have B:=db cn (x6 cp);omega)).Y ?_
    rintro cw bk _ ⟨bo,⟨gz,dc⟩,dd⟩;refine⟨.inl bo,?_⟩;have de:=a2.F bo;have dG:=a2.size;refine bY (m:=((x.mask.toNat ||| 2 ^ G:Nat):Int)) de (gz:=gz) (by rw[show G=(G:Int).toNat from rfl,zl Ω];exact dc) (λr E=>by have:=dd r E;omega) λQ S=>bC _ _ ⟨?_,by rw[f]⟩;rw[f,aH,u5];unfold dZ;rw[J];exact low S
  .have ci:a.kind=5:=Ω
   obtain⟨m,dg,dh⟩:=zI (i:=a.i.toNat) (v:=a.v) (aB x) u x (by rw[aH,u5];exact J) λy N=>(E y N).1;have f:bi n.k u a=(ii u a.i.toNat a.v (aB x),0):=by
    unfold bi;rw[m1 Ω,m1 Ω,m1 Ω,m1 Ω,m1 Ω,ck]
   have di:aB {x with mask:=m}=[a.v]:=by
    rw[dh,<-filter_one (qh x) ai];refine List.filter_congr λy N=>?_;rw[m3 N,T0,Bool.not_not]
   rw[bl,ao];refine⟨λ_=>?_,λh=>Ω⟩;refine bZ (Ext.refl _) ?_;refine eI av.u al.i rfl λv4 dI aG dJ L cq=>?_;refine bY L (by rw[di];exact cq) (λr E=>by have:=b5 cq E;omega) λQ S=>bC _ _ ⟨?_,by rw[f]⟩;rw[f,dg,aH,u5];exact low S
end
def iJ(A R:ak)(A9:Nat->ak)(aJ:ak)(au:Nat)(r:Nat):Prop:=A r\/R r\/(∃q,A9 q r)\/aJ r\/r=au
section
variable{P:ak}{gB w I:x4}{af ag au Wx Wy Wz:Nat}{A R aP R':ak}{A9 cz:Nat->ak}{aJ zm:ak}{n:aI}{s s':an}{t bu:az}{h bg:List az}{cs cj:List x1}{m bX:Nat}
variable{Z i9:ak}
end
theorem tu(h:Laid w):0<w.heap.size:=by
 rcases Nat.eq_zero_or_pos w.heap.size with a|a
 .have e:=h 0 _ rfl
  grind [x4.cell?]
 .exact a
def fA(Z aJ:ak)(w:x4)(af ag au:Nat)(n:aI)(s:an):Prop:=∃A R A9 t cs,cm w af ag au A R A9 aJ n s s t [] cs/\(Laid w/\¬Z 0)/\(b2 s/\dv (dB n) s/\n.d8.length<=256)/\(∀r,Z r↔iJ A R A9 aJ au r)/\∀q r,A9 q r->r<w.heap.size
section
variable{Z aJ S:ak}{w I U:x4}{af ag au:Nat}{A R:ak}{A9:Nat->ak}{n:aI}{s u:an}{t:az}{cs:List x1}
theorem fA.W(h:fA Z aJ w af ag au n s)(J:Ext w I):fA Z aJ I af ag au n s:=by
 obtain⟨A,R,A9,t,cs,p,⟨a,e⟩,f,j,x⟩:=h;exact⟨A,R,A9,t,cs,p.W J,⟨a.W J,e⟩,f,j,λq r y=>by have:=x q r y;have:=J.size;omega⟩
theorem fA.side(h:fA Z aJ w af ag au n s)(a:aj S w I)(C:∀r,Z r->¬S r)(f:¬S 0):fA Z aJ I af ag au n s:=by
 obtain⟨A,R,A9,t,cs,p,⟨j,x⟩,y,z,B⟩:=h;refine⟨A,R,A9,t,cs,p.side a λr _ e=>?_,⟨iu a f j,x⟩,y,z,λq r e=>by have:=B q r e;have:=a.size;omega⟩
 grind [iJ]
theorem fA.ok(h:fA Z aJ w af ag au n s):ba n.k n.d6 s/\b2 s/\dv (dB n) s/\n.d8.length<=256:=by
 obtain⟨A,R,A9,t,cs,p,_,a,_⟩:=h;exact⟨p.eK.2.2.2.1,a⟩
theorem fA.look(h:fA Z aJ w af ag au n s):n4 w au n.k n.d6 s:=by
 obtain⟨A,R,A9,t,cs,p,_⟩:=h;exact p.look
theorem fA.step{U:x4}(p:cm w af ag au A R A9 aJ n s u t [] cs)(y:∀r,Z r↔iJ A R A9 aJ au r){u':an}(B:b2 u'/\dv (dB n) u'/\n.d8.length<=256)(M:¬Z 0)(C:dH w af ag au A R A9 aJ n s t [] u' U)(J:Ext U I)(hm:cp [] I af ag A R n u' ab):aj (λr=>Z r/\¬aJ r) w ab/\∃i9,(∀r,i9 r->Z r\/w.heap.size<=r)/\fA i9 aJ ab af ag au n u':=by
 obtain⟨z,cz,cj,E,F⟩:=C;obtain⟨f,N,aP,bu,j,G,aE,O⟩:=hm;have P:=z.size;have Q:=J.size;have z3:=f.size;have x:=E.W J;have H:=x.prog f j G aE.1 (by grind) Ω x.box.lt;have S:=p.Gw;have K:aj (λr=>Z r/\¬aJ r) w ab:=(((z.Y (T:=λr=>Z r/\¬aJ r) λr _ h=>⟨(y r).2 (h.elim (λh=>.inr (.inr (.inl h))) λh=>.inr (.inr (.inr (.inr h)))),h.elim (by grind) λh bg=>(p.read r bg).2.2 h⟩)).F (J.aa _)).F
  ((th j.1 f).Y λr _ h=>⟨(y r).2 (.inl h.1),λbg=>(x.read r bg).1 h.2⟩)
 have V:=p.box.lt;have e:∀{r:Nat}{X:Prop},(X->iJ A R A9 aJ au r)->X->Z r\/w.heap.size<=r:=by grind
 have L:∀r,iJ aP R (λq r=>cz q r/\r<I.heap.size) aJ au r->Z r\/w.heap.size<=r:=by
  intro r a;rcases a with a|a|⟨q,a,_⟩|a|a
  .exact (j.2.1 r a).elim (e .inl) Ω
  .exact e (λh=>.inr (.inl h)) a
  .exact (F q r a).elim (e λh=>.inr (.inr (.inl h))) .inr
  .exact e (λh=>.inr (.inr (.inr (.inl h)))) a
  .exact e (λh=>.inr (.inr (.inr (.inr h)))) a
 exact⟨K,λr=>iJ aP R (λq r=>cz q r/\r<I.heap.size) aJ au r,L,aP,R,_,bu,cj,H,by grind,B,λr=>Iff.rfl,Ω⟩
theorem TP(h:b2 s/\dv (dB n) s/\n.d8.length<=256)(a:ba n.k n.d6 s)(m:fF):b2 (bi n.k s m).1/\dv (dB n) (bi n.k s m).1/\n.d8.length<=256:=
 ⟨(vX a h.1).2.1,h.2.1.F (vZ a),h.2.2⟩
theorem TQ{m:fF}(p:cm w af ag au A R A9 aJ n s u t [] cs)(a:ba n.k n.d6 u)(e:b2 u)(hk:m.kind<=5):aq x7 w8 [Γ au,Δ (m.kind:Int),Δ m.i,Δ m.pos,Δ m.v,Δ m.c] w λr I=>r=Δ (bi n.k u m).2/\dH w af ag au A R A9 aJ n s t [] (bi n.k u m).1 I:=by
 by_cases h:m.kind<2
 .exact TF p a e h
 .exact TO p a Ω
theorem TR{e:x4}{au:Nat}{j:x1}{cs:List x1}{f:cd}(w:v7 B ab j cs f)(J:Ext ab e)(x:ai e au a8 cs)(y:ab.heap.size<=au)(F:B<=ab.heap.size)(G:0<B)(z:Laid e):
  ∃af ag Z aJ,j=Γ af/\fA Z aJ e af ag au (c7 f) (dB (c7 f))/\∀r,Z r->B<=r:=by
 obtain⟨af,ag,A,R,A9,aJ,t,rfl,p,_,H,I,_,_,C,_,K,L⟩:=SM w J x y;have E:=p.olds;have s:∀r,iJ A R (λq r=>A9 q r/\r<e.heap.size) aJ au r->B<=r:=by
  intro r a;rcases a with a|a|⟨q,a,_⟩|a|a
  all_goals grind
 exact⟨af,ag,_,aJ,rfl,⟨A,R,_,t,cs,E,⟨z,λh=>by have:=s 0 h;omega⟩,⟨Gv _,dv.rfl,C⟩,λr=>Iff.rfl,λq r a=>a.2⟩,s⟩
end
section
variable{aw:List az}{w U ab:x4}{af ag au:Nat}{A R S Z aJ:ak}{n:aI}{s s0 s1:an}{cs:List x1}
theorem cp.open(h:cp aw w af ag A R n s1 U):∃a e,bw U af ag a R n s1 e/\Laid U/\¬a 0/\dJ aw e/\∀{f:an}{ab:x4},cp aw U af ag a R n f ab->cp aw w af ag A R n f ab:=by
 obtain⟨h1,j,a,e,q,r,s,x⟩:=h;refine⟨a,e,r,j,x,s,λ{f ab}k=>?_⟩;obtain⟨y,z,B,C,E,F,G,H⟩:=k;exact⟨vC h1 y,z,B,C,q.F E,F,G,H⟩
theorem cp.W(h:cp aw w af ag A R n s1 U)(J:Ext U ab):cp aw w af ag A R n s1 ab:=by
 obtain⟨j,q,h1,a,e,f,k⟩:=h.open;exact k (.same h1 a e f J)
def fI(aw:List az)(Z aJ:ak)(w:x4)(af ag au:Nat)(n:aI)(s s0:an)(cs:List x1):Prop:=∃A R A9 t,cm w af ag au A R A9 aJ n s s0 t aw cs/\(Laid w/\¬Z 0/\ry t)/\(∀r,Z r↔iJ A R A9 aJ au r)/\∀q r,A9 q r->r<w.heap.size
theorem fI.lt(h:fI aw Z aJ w af ag au n s s0 cs):∀r,Z r->r<w.heap.size:=by
 obtain⟨A,R,A9,t,p,_,e,f⟩:=h;intro r a;rcases(e r).1 a with a|a|⟨q,a⟩|a|a
 .exact ti p.eK r (.inl a)
 .exact ti p.eK r (.inr a)
 .grind
 .exact (p.read r a).2.1
 .subst a;exact p.box.lt
theorem fI.W(h:fI aw Z aJ w af ag au n s s0 cs)(J:Ext w U):fI aw Z aJ U af ag au n s s0 cs:=by
 obtain⟨A,R,A9,t,p,⟨a,e⟩,f,j⟩:=h;exact⟨A,R,A9,t,p.W J,⟨a.W J,e⟩,f,λq r x=>by have:=j q r x;have:=J.size;omega⟩
theorem fI.side(h:fI aw Z aJ w af ag au n s s0 cs)(a:aj S w U)(B:∀r,Z r->¬S r)(f:¬S 0):fI aw Z aJ U af ag au n s s0 cs:=by
 obtain⟨A,R,A9,t,p,⟨j,x⟩,y,z⟩:=h;refine⟨A,R,A9,t,p.side a λr _ e=>?_,⟨iu a f j,x⟩,y,λq r e=>by have:=z q r e;have:=a.size;omega⟩
 grind [iJ]
theorem fI.ok(h:fI aw Z aJ w af ag au n s s0 cs):ba n.k n.d6 s/\iI w (.agg cs.toArray) n.k n.d6 s0:=by
 obtain⟨A,R,A9,t,p,_⟩:=h;exact⟨p.eK.2.2.2.1,p.doc.zh⟩
theorem fI.go(h:fI aw Z aJ w af ag au n s s0 cs):∃A R t,bw w af ag A R n s t/\Laid w/\¬A 0/\dJ aw t/\∀{U ab:x4}{s1:an},Ext w U->cp aw U af ag A R n s1 ab->aj (λr=>Z r/\¬aJ r) w ab/\∃i9,(∀r,i9 r->Z r\/w.heap.size<=r)/\fI aw i9 aJ ab af ag au n s1 s0 cs:=by
 obtain⟨A,R,A9,t,p,⟨C,y,a⟩,z,H⟩:=h;refine⟨A,R,t,p.eK,C,λh=>y ((z 0).2 (.inl h)),⟨p.fX,a⟩,λ{U ab s1}J hm=>?_⟩;obtain⟨f,E,aP,bu,j,F,aE,I⟩:=hm;have K:=J.size;have z3:=f.size;have x:=p.W J;have G:=x.prog f j F aE.1 (by grind) Ω x.box.lt;have e:∀{r:Nat}{X:Prop},(X->iJ A R A9 aJ au r)->X->Z r\/w.heap.size<=r:=by grind
 have B:∀r,iJ aP R (λq r=>A9 q r/\r<U.heap.size) aJ au r->Z r\/w.heap.size<=r:=by
  intro r a;rcases a with a|a|⟨q,a,_⟩|a|a
  .exact (j.2.1 r a).elim (e .inl) Ω
  .exact e (λh=>.inr (.inl h)) a
  .exact e (λh=>.inr (.inr (.inl ⟨q,h⟩))) a
  .exact e (λh=>.inr (.inr (.inr (.inl h)))) a
  .exact e (λh=>.inr (.inr (.inr (.inr h)))) a
 exact⟨(J.aa _).F ((th j.1 f).Y λr _ h=>⟨(z r).2 (.inl h.1),λbg=>(x.read r bg).1 h.2⟩),λr=>iJ aP R (λq r=>A9 q r/\r<U.heap.size) aJ au r,B,aP,R,_,bu,G,⟨E,λh=>(B 0 h).elim y λh=>by have:=p.box.lt;omega,aE.2⟩,λr=>Iff.rfl,Ω⟩
theorem fA.cQ(h:fA Z aJ w af ag au n s):∃cs,fI [] Z aJ w af ag au n s s cs/\ai w au a8 cs:=by
 obtain⟨A,R,A9,t,cs,p,⟨a,e⟩,q,f,j⟩:=h;exact⟨cs,⟨A,R,A9,t,p,⟨a,e,p.fX.m.2⟩,f,j⟩,p.box⟩
end
theorem GU{f g:Int->Int}:∀{l:Λ},(∀v∈l,f v=g v)->cF k l f=cF k l g:=by
 intro l;unfold cF;generalize (k,(-1:Int))=p;induction l generalizing p with
 |nil=>intro _;rfl
 |cons v l a=>
  intro h;rw[List.foldl_cons,List.foldl_cons,show fh f p v=fh g p v by unfold fh;rw[h v (.head _)]];exact a _ λu hu=>h u (.tail _ hu)
theorem TS{f:Int->Int}:∀(l:Λ)(p:Int×Int),(∀v∈l,0<=v)->(p.2= -1\/0<=p.2)->((l.foldl (fh f) p).2= -1\/0<=(l.foldl (fh f) p).2)/\(k=k):=by
 intro l;induction l with
 |nil=>intro p _ h;exact⟨h,rfl⟩
 |cons v l e=>
  intro p a h;refine e _ (λu hu=>a u (.tail _ hu)) ?_;unfold fh;split
  .exact .inr (a v (.head _))
  .exact h
section
variable{w:x4}{dr:x1}{k:Int}{d6:Λ}{s:an}
theorem GV{f:Int->Int}{q:Nat}(ac:l[q]?=σ v):cF k (l.take (q+1)) f=fh f (cF k (l.take q) f) v:=by
 unfold cF;rw[u7,ac,o8,List.foldl_append];rfl
theorem GW{f:Int->Int}(a:∀v∈l,0<=v):(cF k l f).2= -1\/0<=(cF k l f).2:=(TS (k:=k) l (k,-1) a (.inl rfl)).1
theorem TT{i:Nat}{x:bA}(h:iI w dr k d6 s)(ak:ba k d6 s)(J:s.d7[i]?=σ x):
  aq x7 IP [dr,Δ (i:Int)] w λr I=>Ext w I/\r= .tuple #[Δ (cF k (aB x) λv=>x.un.getD v.toNat 0).1,Δ (cF k (aB x) λv=>x.un.getD v.toNat 0).2]:=by
 have am:=qm x;refine aF func12 ?_;refine bo λg1 U an E N=>?_;obtain⟨ho,ap,au,aw,ay,az,B,aD,_,O,aE,P,aG,aH⟩:=h.box E N;rw[aO a8.p 0 B rfl,aO a8.p 3 B rfl];refine iN (α:=Λ) (a:=aB x) (i:=i) rfl rfl df.u av.i Ψ O (by rw[v8,J];rfl) λaI Q=>?_;have C:=dy Q;rw[a7 av.u C];obtain⟨f,ah⟩:∃f:Int->Int,f=λv=>x.un.getD v.toNat 0:=⟨_,rfl⟩;rw[<-ah];refine k9.range (aB x).length (λq b a ab=>Ext U ab/\b=Δ (cF k ((aB x).take q) f).1/\a=Δ (cF k ((aB x).take q) f).2) C.le ⟨Ext.refl _,rfl,rfl⟩ ?_ ?_
 .rintro q _ _ ab R S ⟨j,rfl,rfl⟩ V;obtain⟨v,ac⟩:=aK (l:=aB x) S;have W:=(e1.1 (x6 ac)).1;obtain⟨y,rfl⟩:=Y6 W.1;have z:=GV (k:=k) (f:=f) ac;have aJ:=GW (k:=k) (f:=f) (l:=(aB x).take q) λv ac=>(e1.1 (S4 ac)).1.1;have X:f (y:Int)=x.un.getD y 0:=by rw[ah];rfl
  refine bM Ω ?_;refine jw (λb a I=>Ext U I/\b=Δ (cF k ((aB x).take (q+1)) f).1/\a=Δ (cF k ((aB x).take (q+1)) f).2) (λb a I Y=>by rw[aR];exact V _ _ _ Y) λaA G=>?_;rw[bm av.u al.i Ψ (C.W j) ac];have H:∀{K:x1->Prop}{e:x4},Ext U e->K (Δ (f (y:Int)))->ad x7 (u6 a8 (Γ g1) 5) e λZ=>ad x7 (u4 et Z) e λaa=>ad x7 (n9 et aa (Δ (i:Int))) e λt39=>ad x7 (u4 aC t39) e λae=>ad x7 (n9 aC ae (Δ (y:Int))) e λaf=>ad x7 (u4 ax af) e K:=λ{K e}L ag=>by
   rw[aO a8.p 5 (B.W L) rfl];refine iN (a:=x.un) (i:=i) rfl rfl et.u aC.i Ψ (bP P L) (by rw[v8,J];rfl) λaL ai=>?_;rw[bm aC.u ax.i Ψ (dy ai) (getD_some (i:=y) Ω),<-X];exact ag
  refine a1 (λr I=>ab=I/\r= .bool (decide ((cF k ((aB x).take q) f).2= -1\/f (y:Int)<(cF k ((aB x).take q) f).1))) ?_ λaM M=>?_
  .rintro _ _ ⟨rfl,rfl⟩;unfold fh at z;rw[ao];refine⟨λA=>H j (G _ _ _ ⟨j,?_,?_⟩),λA=>G _ _ _ ⟨j,?_,?_⟩⟩
   .rw[z,lw A]
   .rw[z,lw A]
   .rw[z,m1 A]
   .rw[z,m1 A]
  .rw[aW,ao];refine⟨λaj=>M _ _ ⟨rfl,by rw[m3 (.inl Ω)]⟩,λaj=>?_⟩;refine H j ?_;rw[aW];refine M _ _ ⟨rfl,?_⟩;congr 1;exact decide_eq_decide.2 ⟨.inr,λh=>h.resolve_left λh=>Ω⟩
 .rintro _ _ ab R ⟨j,rfl,rfl⟩;rw[o6];exact cc Ω ⟨E.F j,rfl⟩
theorem GX{y:x1}{f:bI}{K:x1->x4->Prop}(C:Seen e3 w [y] (s.d8.map kE))(ah:s.d8[j]?=σ f)(E:∀g e h v3 I,Ext w I->ai I g be [e,h,v3]->aQ .i64 I e f.sc->aQ .i64 I h f.am->aQ .i64 I v3 f.cs->K (Γ g) I):
  ad x7 (n9 fa y (Δ (j:Int))) w λF=>ad x7 (u6 dI F 0) w λG=>ad x7 (u4 be G) w λH=>aM x7 (R4 be ms (.tuple #[])) w λf ab=>aM x7 (o7 be f H) ab λ(_:Unit)z=>K f z:=by
 refine lY (i:=j) rfl fa.u dI.i C (by rw[v8,ah];rfl) λb o cs x J=>?_;obtain⟨e,h,v3,rfl,h1,A,B⟩:=n5 J;rw[aY dI.p rfl,bF (cs:=[e,h,v3]) be.p be.i rfl (λq u a=>by
  have:q<3:=(x5.1 a).1
  match q,this,a with
  |0,_,a=>cases a;exact x 0 _ rfl
  |1,_,a=>cases a;exact x 1 _ rfl
  |2,_,a=>cases a;exact x 2 _ rfl)]
 refine bC be.i λQ ab R L M=>?_;have N:∀u∈[e,h,v3],u.oneCell'=ms:=λu hu=>by
  simp only[List.mem_cons,List.not_mem_nil,or_false]at hu;rcases hu with rfl|rfl|rfl
  .exact jS h1
  .exact jS A
  .exact jS B
 refine b8 (vs:=[e,h,v3]) be.i rfl rfl N M λz O S P=>?_;have r:=L.put O Ω;exact E _ _ _ _ _ r P ((dy h1).W r) ((dy A).W r) ((dy B).W r)
theorem TU{of:Λ->Int}{l:List (Λ)}{q:Nat}(a:l[q]?=σ t):gb k of (l.take (q+1))=simpStep of (gb k of (l.take q)) t:=by
 unfold gb;rw[u7,a,o8,List.foldl_append];rfl
def rA(w:x4)(v:x1)(o:Option (Λ)):Prop:=match o with
 |none=>v= .slice ν 0 0
 |some tl=>tl≠[]/\aQ .i64 w v tl
theorem rA.nil{v:x1}{o:Option (Λ)}(h:rA w v o):∃a n c,v= .slice a n c/\a.isNone=decide (o=ν):=by
 cases o with
 |none=>exact⟨ν,0,0,h,Ξ⟩
 |some tl=>
  obtain⟨h1,_,b,o,base,cap,rfl,_,_,e,_⟩:=h;exact⟨_,_,_,rfl,by rw[e (List.length_pos_iff.2 h1)];simp⟩
end
theorem TV{f g:Λ->Int}:∀{l:List (Λ)},(∀t∈l,f t=g t)->gb k f l=gb k g l:=by
 intro l;unfold gb;generalize (k,(ν:Option (Λ)))=p;induction l generalizing p with
 |nil=>intro _;rfl
 |cons v l a=>
  intro h;rw[List.foldl_cons,List.foldl_cons,show simpStep f p v=simpStep g p v by unfold simpStep;rw[h v (.head _)]];exact a _ λu hu=>h u (.tail _ hu)
theorem zK{cs:Λ}{m:Nat}(hi:ct am t 0=σ (m:Int)):bt am cs t=cs.getD m 0:=by
 unfold bt;rw[hi];rfl
theorem TW{m:Nat}(hi:ct am t 0=σ (m:Int)):oa am t=m:=by
 unfold oa;rw[hi];rfl
section
variable{w:x4}{dr:x1}{k:Int}{d6:Λ}{s:an}
theorem TX{f:bI}(h:iI w dr k d6 s)(B:ba k d6 s)(ah:s.d8[j]?=σ f)(au:pos<f.sc.length)(ac:∀u,f.sc[pos]?=σ u->v∈aT s u):
  aq x7 JB [dr,Δ (j:Int),Δ (pos:Int),Δ v] w λr I=>Ext w I/\∃E,r= .tuple #[Δ (gb k (bt f.am f.cs) (bV s f.sc pos v)).1,E]/\rA I E (gb k (bt f.am f.cs) (bV s f.sc pos v)).2:=by
 have G:=x6 ah;obtain⟨P,Q,_⟩:=B.d8 f G;have H:=(kD B G).1;have R:f.am.length=f.sc.length:=by rw[Q];simp[ci]
 have aU:=jg H;have aV:f.cs.length=(aX f.am).toNat:=by rw[Q];exact P.len
 refine aF func89 ?_;refine bo λg1 U aY S aw=>?_;have V:=h.box S aw;obtain⟨ho,aZ,a2,a6,E,bb,W,bc,_,bd,bf,bg,ay,bh⟩:=id V;rw[aO a8.p 6 W rfl];refine GX ay ah λbi bj bk v3 bl J X s1 az aB=>?_;rw[aO a8.p 0 (W.W J) rfl,aO be.p 1 X rfl];refine(uD f.am az ⟨by rw[R];exact P.scope.2,H⟩).Y ?_;rintro bn bp _ ⟨Y,aD⟩;have aE:=J.F Y;refine(V.W aE).load λbq aG=>?_;refine(zB aG B ah au ac).Y ?_;rintro cQ Z _ ⟨aa,K,_⟩;have L:=Y.F aa;have aH:=J.F L;have ab:(kF s f pos v).length=(bV s f.sc pos v).length:=by unfold kF;rw[u9]
 rw[a7 av.u K,ab];obtain⟨of,ad⟩:∃of,of=bt f.am f.cs:=⟨_,rfl⟩;rw[<-ad];refine k9.range (bV s f.sc pos v).length (λq b a x=>Ext Z x/\b=Δ (gb k of ((bV s f.sc pos v).take q)).1/\rA x a (gb k of ((bV s f.sc pos v).take q)).2) (by rw[<-ab];exact K.le) ⟨Ext.refl _,rfl,rfl⟩ ?_ ?_
 .rintro q _ ae x aI aJ ⟨e,rfl,y⟩ aL;obtain⟨tl,M⟩:=aK (l:=bV s f.sc pos v) aJ;have aM:=x6 M;obtain⟨m,hm⟩:=o2 B G ac aM;have z:=TU (k:=k) (of:=of) M;have C:=l4 H hm;rw[u5]at C;have af:m<f.cs.length:=by have:=(x5.1 C).1;omega
  have ag:of tl=f.cs.getD m 0:=by rw[ad];exact zK hm
  have aN:tl≠[]:=λhe=>by
   have:=ut C;rw[he,R,List.length_nil]at this;omega
  have aP:(kF s f pos v)[q]?=σ (m:Int):=by unfold kF;rw[v8,M,Y9,TW hm]
  refine bM Ω ?_;refine jw (λb a I=>Ext Z I/\b=Δ (gb k of ((bV s f.sc pos v).take (q+1))).1/\rA I a (gb k of ((bV s f.sc pos v).take (q+1))).2) (λb a I aQ=>by rw[aR];exact aL _ _ _ aQ) λaA ai=>?_;rw[bm av.u al.i Ψ (K.W e) aP];have aj:=X.W (L.F e);have ak:=aB.W (L.F e);refine a1 (λr I=>x=I/\r= .bool (decide ((gb k of ((bV s f.sc pos v).take q)).2=ν\/of tl<(gb k of ((bV s f.sc pos v).take q)).1))) ?_ λbr an=>?_
  .rintro _ _ ⟨rfl,rfl⟩;unfold simpStep at z;rw[ao];refine⟨λA=>?_,λA=>ai _ _ _ ⟨e,by rw[z,m1 A],by rw[z,m1 A];exact y⟩⟩;intro bs N _ _;have ap:=e.F N;rw[aO be.p 2 (aj.W N) rfl,bm aC.u ax.i Ψ (ak.W N) (getD_some af),<-ag];refine iN rfl rfl df.u av.i Ψ (bP aD (aa.F ap)) C λu hu=>?_;exact ai _ _ _ ⟨ap,by rw[z,lw A],by rw[z,lw A];exact⟨aN,dy (kO hu)⟩⟩
  .obtain⟨bu,fn,bw,rfl,aS⟩:=y.nil;rw[qP av.u,aS,ao];refine⟨λO=>an _ _ ⟨rfl,by rw[m3 (.inl O)]⟩,λO=>?_⟩;rw[aO be.p 2 aj rfl,bm aC.u ax.i Ψ ak (getD_some af),<-ag,aW];refine an _ _ ⟨rfl,?_⟩;congr 1;exact decide_eq_decide.2 ⟨.inr,λh=>h.resolve_left O⟩
 .rintro _ ae x aI ⟨e,rfl,y⟩;rw[o6]at y ⊢;exact cc Ω ⟨(S.F aH).F e,ae,rfl,y⟩
theorem GY{f:bI}{b:Int}{u:Int}(h:ba k d6 s)(ah:f∈s.d8)(e:f.sc=[a,b])(ae:pos=0\/pos=1)(ac:v∈aT s (if pos=1 then b else a))(hu:u∈aT s (if pos=1 then a else b)):∃m:Nat,ct f.am (if pos=1 then[u,v]else[v,u]) 0=σ (m:Int):=by
 refine o2 (pos:=pos) (v:=v) h ah (λx J=>?_) ?_
 .rw[e]at J;rcases ae with rfl|rfl
  .cases J;exact ac
  .cases J;exact ac
 .rw[e];rcases ae with rfl|rfl
  .simp only[show¬((0:Nat)=1) by decide,if_false]at hu ⊢;simp[bV,jK,ih,hu]
  .simp only[if_true]at hu ⊢;simp[bV,jK,ih,hu]
theorem TY{b:Int}{f:bI}{y:bA}(h:iI w dr k d6 s)(x:ba k d6 s)(ah:s.d8[j]?=σ f)(G:f.sc=[a,b])(ae:pos=0\/pos=1)(ac:v∈aT s (if pos=1 then b else a))(z:s.d7[(if pos=1 then a else b).toNat]?=σ y):
  aq x7 JC [dr,Δ (j:Int),Δ (pos:Int),Δ v] w λr I=>Ext w I/\r= .tuple #[Δ (cF k (aB y) λu=>min (bt f.am f.cs (if pos=1 then[u,v]else[v,u])+y.un.getD u.toNat 0) k).1,Δ (cF k (aB y) λu=>min (bt f.am f.cs (if pos=1 then[u,v]else[v,u])+y.un.getD u.toNat 0) k).2]:=by
 have H:=x6 ah;have br:=x.eA;obtain⟨J,S,_⟩:=x.d8 f H;have K:=(kD x H).1;have au:f.am.length=f.sc.length:=by rw[S];simp[ci]
 have bs:=jg K;have bu:f.cs.length=(aX f.am).toNat:=by rw[S];exact J.len
 have V:0<=(if pos=1 then a else b):=by
  have h1:=(J.scope.1 a (by rw[G];exact .head _)).1;have bw:=(J.scope.1 b (by rw[G];exact .tail _ (.head _))).1;split<;>omega
 obtain⟨o,aE⟩:∃o,o=(if pos=1 then a else b):=⟨_,rfl⟩;rw[<-aE]at z V;obtain⟨on,rfl⟩:=Y6 V;rw[u5]at z;have aw:aT s (on:Int)=aB y:=by unfold aT;rw[u5,z]
 refine aF func90 ?_;refine bo λg1 U bx W ay=>?_;have az:=h.box W ay;obtain⟨ho,bz,bB,bC,bD,bE,B,bF,_,aG,bG,aH,aI,bH⟩:=id az;rw[aO a8.p 6 B rfl];refine GX aI ah λbJ bK bL v3 M C N s1 aJ aL=>?_;have aM:f.sc[1-pos]?=σ (on:Int):=by rw[aE,G];rcases ae with rfl|rfl<;>rfl
 rw[aO be.p 0 N rfl,c5,hx Ω Ω,show(1:Int)-(pos:Int)=((1-pos:Nat):Int) by omega,bm av.u al.i Ψ s1 aM,aO a8.p 0 (B.W C) rfl,aO a8.p 3 (B.W C) rfl];refine iN rfl rfl df.u av.i Ψ (bP aG C) (by rw[v8,z];rfl) λbN X=>?_;have Y:=dy X;have bO:=qm y;rw[a7 av.u Y];obtain⟨of,Z⟩:∃of:Int->Int,of=λu=>min (bt f.am f.cs (if pos=1 then[u,v]else[v,u])+y.un.getD u.toNat 0) k:=⟨_,rfl⟩;rw[<-Z];refine k9.range (aB y).length (λq b a ab=>Ext M ab/\b=Δ (cF k ((aB y).take q) of).1/\a=Δ (cF k ((aB y).take q) of).2) Y.le ⟨Ext.refl _,rfl,rfl⟩ ?_ ?_
 .rintro q _ _ bQ aN aP ⟨O,rfl,rfl⟩ aS;obtain⟨u,hu⟩:=aK (l:=aB y) aP;have aa:=x6 hu;have aU:=(e1.1 aa).1;obtain⟨un,rfl⟩:=Y6 aU.1;have E:=GV (k:=k) (f:=of) hu;have bR:=GW (k:=k) (f:=of) (l:=(aB y).take q) λv ac=>(e1.1 (S4 ac)).1.1;obtain⟨tl,L⟩:∃tl:Λ,tl=(if pos=1 then[(un:Int),v]else[v,(un:Int)]):=⟨_,rfl⟩;obtain⟨m,hm⟩:=GY x H G ae ac (by rw[<-aE,aw];exact aa);rw[<-L]at hm;have ad:=l4 K hm;rw[u5]at ad;have aY:m<f.cs.length:=by have:=(x5.1 ad).1;omega
  have aZ:=nk (t:=tl) x H;have bS:=ij (v:=un) x z;have a2:of (un:Int)=min (f.cs.getD m 0+y.un.getD un 0) k:=by
   rw[Z];simp only;rw[<-L,zK hm,u5]
  rw[zK hm]at aZ;refine bM Ω ?_;refine jw (λb a I=>Ext M I/\b=Δ (cF k ((aB y).take (q+1)) of).1/\a=Δ (cF k ((aB y).take (q+1)) of).2) (λb a I a6=>by rw[aR];exact aS _ _ _ a6) λaA af=>?_;rw[bm av.u al.i Ψ (dy (bP X O)) hu];refine nR (l:=[v,(un:Int)]) av.u al.i Ω rfl Ψ λbT bU bV bW ag bb=>?_;refine a1 (λr I=>Ext M I/\aQ .i64 I r tl) ?_ λbX ai=>?_
  rotate_left
  .rw[bl,ao];refine⟨λh1=>?_,λh1=>ai _ _ ⟨O.F ag,by rw[L,m1 Ω];exact bb.ls⟩⟩;refine nR (l:=[(un:Int),v]) av.u al.i Ω rfl Ψ λbY bZ bc b0 P bd=>?_;exact ai _ _ ⟨(O.F ag).F P,by rw[L,lw Ω];exact bd.ls⟩
  rintro aV bc ⟨P,bf⟩;intro b1 aj _ _;have A:=P.F aj;have Q:=C.F A;rw[aO be.p 2 (N.W A) rfl,aO be.p 1 (N.W A) rfl,aO a8.p 5 (B.W Q) rfl];refine lY (a:=y.un) (i:=on) rfl et.u aC.i (bP aH Q) (by rw[v8,z];rfl) λb o cs bg e=>?_;obtain⟨bh,rfl⟩:∃u,cs=[u]:=by obtain⟨u,hu,_⟩:=e;exact⟨u,hu⟩
  have bi:=dy e;have ak:=bg 0 _ rfl;rw[Nat.add_zero]at ak;rw[aD (v:=bh) Ψ ak];refine mN rfl aC.u ax.i bi (getD_some (i:=un) Ω) λb2 b3 bj=>?_;rw[aD Ψ bj,aO a8.p 0 (B.W Q) rfl];refine(MZ (aJ.W A) ⟨by rw[au];exact J.scope.2,K⟩ (bf.W aj)).Y ?_;rintro _ b4 _ ⟨rfl,R⟩;refine⟨.inl R,?_⟩;rw[NC K,hm];simp only;rw[bm aC.u ax.i Ψ (aL.W (A.F R)) (getD_some aY)];refine(oJ Ω Ω).Y ?_;rintro _ bk _ ⟨rfl,bn⟩;have an:=(A.F R).F bn;rw[<-a2];refine a1 (λr I=>bk=I/\r= .bool (decide ((cF k ((aB y).take q) of).2= -1\/of (un:Int)<(cF k ((aB y).take q) of).1))) ?_ λb5 ap=>?_
  .rintro _ _ ⟨rfl,rfl⟩;unfold fh at E;rw[ao];exact⟨λe=>af _ _ _ ⟨an,by rw[E,lw e],by rw[E,lw e]⟩,λe=>af _ _ _ ⟨an,by rw[E,m1 e],by rw[E,m1 e]⟩⟩
  .rw[aW,ao];refine⟨λbp=>ap _ _ ⟨rfl,by rw[m3 (.inl Ω)]⟩,λbp=>?_⟩;rw[aW];refine ap _ _ ⟨rfl,?_⟩;congr 1;exact decide_eq_decide.2 ⟨.inr,λh=>h.resolve_left λh=>Ω⟩
 .rintro _ _ ab aN ⟨bq,rfl,rfl⟩;rw[o6];exact cc Ω ⟨(W.F C).F bq,rfl⟩
end
abbrev nn:Type:=nO .u8×Int×Int×Int×Int
structure gd where
 d:Int
 i:Int
 pos:Int
 v:Int
 c:Int
def gd.ok(a:gd):Prop:=0<=a.d/\a.d<256
def gd.kind(a:gd):Nat:=(a.d % 7).toNat
def gd.bT(a:gd):List x1:=[.int .u8 a.d,Δ a.i,Δ a.pos,Δ a.v,Δ a.c]
def pd(x:nn):gd:=⟨x.1.val,x.2.1,x.2.2.1,x.2.2.2.1,x.2.2.2.2⟩
theorem TZ{R:ak}{x:nn}(h:Seen R w cs x):cs=(pd x).bT:=by
 obtain⟨r,_,_,_,rfl,_,_,_,a,s,_,_,_,rfl,_,_,_,e,y,_,_,_,rfl,_,_,_,f,z,A,_,_,rfl,_,_,_,j,q⟩:=h;have a:=a;have e:=e;have f:=f;have j:=j;have q:=q;subst a e f j q;rfl
theorem Ua{x:nn}(h:(o5.u8.min<=x.1.val/\x.1.val<=o5.u8.max)/\(X3.min<=x.2.1/\x.2.1<=X3.max)/\(X3.min<=x.2.2.1/\x.2.2.1<=X3.max)/\(X3.min<=x.2.2.2.1/\x.2.2.2.1<=X3.max)/\(X3.min<=x.2.2.2.2/\x.2.2.2.2<=X3.max)):(pd x).ok:=by
 have a:o5.u8.min=0:=Φ
 have e:o5.u8.max=255:=Φ
 rw[a,e]at h;exact⟨h.1.1,by have:=h.1.2;show x.1.val<256;omega⟩
theorem gd.one(a:gd):∀u∈a.bT,u.oneCell'=ms:=by
 intro u hu;unfold gd.bT at hu;simp only[List.mem_cons,List.not_mem_nil,or_false]at hu;rcases hu with rfl|rfl|rfl|rfl|rfl<;>rfl
theorem gd.Ub(a:gd):a.kind<7:=by
 grind [gd.kind]
def GZ(k:Int)(a:gd):Int:=a.c.emod 18446744073709551616 % (k+1)
def mr(k:Int)(a:gd):fF:=⟨a.kind,a.i,a.pos,a.v,GZ k a⟩
def np(n:aI)(s:an)(a:gd):an:=if a.kind=6 then(if eC n a.i a.v then dZ s a.i.toNat a.v.toNat else s)else(bi n.k s (mr n.k a)).1
theorem zL{d:Int}(h:0<=d):ad x7 (aU .rem cS ne ms (.int .u8 d) (.int .u8 7)) w K=K (.int .u8 (((d % 7).toNat:Nat):Int)):=by
 rw[uj Φ,Int.tmod_eq_emod_of_nonneg h]
 grind
section
variable{w:x4}{af ag au:Nat}{A R:ak}{A9:Nat->ak}{aJ:ak}{n:aI}{s u:an}{t:az}{h:List az}{cs:List x1}{a:gd}
theorem G0(a:ba n.k n.d6 s){i:Int}(h:eC n i v):0<=i/\∃x,s.d7[i.toNat]?=σ x/\0<=v/\v<x.un.length:=by
 obtain⟨x,J,h1,_,e⟩:=h.var a;exact⟨h.1,x,J,h.2.2.1,Ω⟩
theorem Uc(f:b2 s/\dv (dB n) s/\n.d8.length<=256)(j:ba n.k n.d6 s):b2 (np n s a)/\dv (dB n) (np n s a)/\n.d8.length<=256:=by
 unfold np;split
 .split
  .rename_i h;obtain⟨r,x,J,ac,_⟩:=G0 j h;have e:=kZ (v:=a.v) J;have q:dv s (dZ s a.i.toNat a.v.toNat):=zt (v:=a.v);exact⟨by grind [b2.d7],f.2.1.F q,f.2.2⟩
  .exact f
 grind [TP]
theorem Ud(p:cm w af ag au A R A9 aJ n s u t h cs){i:Nat}{x:bA}(J:u.d7[i]?=σ x):∃g cap y gy e,cs[3]?=σ (.slice (σ ⟨g,0,ν⟩) u.d7.length cap)/\w.cell? ⟨g,0+i*1,ν⟩=σ y/\aH .i64 e w gy y (aB x)/\(∀r,hv y r->A9 0 r)/\
  ∀{U ab:x4}{m:Int}{z:x1}{K:Unit->x4->Prop},Ext w U->aj (λr=>hv y r) U ab->aH .i64 e ab gy z (aB {x with mask:=m})->(∀r,hv z r->hv y r)->(∀F,dH w af ag au A R A9 aJ n s t h {u with d7:=u.d7.set i {x with mask:=m}} F->K () F)->
   aM x7 (o7 av (.pointer (σ ⟨g,0+i*1,ν⟩)) z) ab K:=by
 have G:=p.olds;have aq:=(x5.1 J).1;obtain⟨ho,V,aw,ax,az,aA,W,_,X,_,_,_,_,aC⟩:=id G.doc;obtain⟨g,cap,full,Y,c,Z,e,f,aD,j,H,I,aE,aF,ac⟩:=Gg X (by rw[v8,J];rfl) (by grind);obtain⟨y,rfl⟩:=W6.1 (ay.len I);rw[u9]at e;have ad:full[i]?=σ y:=by have:=H 0 y rfl;simpa[show ay.n (Λ)=1 from rfl]using this
 obtain⟨gy,ae,ah,ak⟩:=B4 I;have aG:∀r,hv y r->Z r:=λr a=>by
  rcases ak with rfl|aI
  .obtain⟨_,_,_,e,_⟩:=a;cases e
  grind [b5]
 refine⟨g,cap,y,gy,ae,by grind,by have:=f.cell ad;grind,ah,by grind,λ{U ab m L K}B C M al am=>?_⟩;have aK:=B.size;have aL:=C.size;have j:i*1+1<=full.length:=j;obtain⟨_,_,_,N⟩:=dA M.ls;have O:¬hv y g:=by grind
 refine bs (o:=0+i*1) av.i (by rw[N];rfl) (by rw[N];rfl) ((f.W B).aa C O) Ω λP Q aN S=>?_;have S:ai P g Y (over full (i*1) [L]):=by
  have e:=Gh (o:=i*1) (q:=0) (x:=L) H j Ξ
  grind
 have aO:g<w.heap.size:=f.lt;have E:aj (λr=>hv y r\/r=g) w P:=((B.aa _).F (C.Y (by grind))).F (Q.Y Ω);have an:=bB M Q λr a he=>by have he:r=g:=he;exact O (he▸al r a)
 have aP:=ac E (by grind) S (oZ an) (by grind);have ao:∀r,r<w.heap.size->(hv y r\/r=g)->A9 0 r/\r<w.heap.size:=by grind
 obtain⟨cz,ap,aQ⟩:=G.qk (u':={u with d7:=u.d7.set i {x with mask:=m}}) Ω (v:=V) (by rw[W];rfl) E ao (by grind [U4]) rfl (rt J rfl) (rt J rfl) rfl rfl;refine am _ ⟨E.Y (by grind),cz,cs,ap,λq r a=>?_⟩
 grind
end
end Go.Proofs.YtlcdcbgoaljiiaaGreatDoor
