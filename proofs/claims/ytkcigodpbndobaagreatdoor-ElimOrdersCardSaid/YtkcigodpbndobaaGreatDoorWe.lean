/- own texts, made small by a tool (wip/ holds them as they were written): no statement of the seat. -/
import Derived.Test.YtkcigodpbndobaaGreatDoorWd
set_option linter.unusedVariables false
set_option linter.unusedSimpArgs false
set_option linter.unnecessarySimpa false
open Array renaming getElem?_eq_some_iff→Z5
open Bool renaming false→rs,true→ro,not_true→Y6,not_false→X4,true_and→V8,and_eq_true→V9,eq_iff_iff→T1
open Decidable renaming not_not→Z6
open Go renaming Value→x1,World→x3,TypeId→r9,IntKind→o5,Builtin→j9,Program→X5,Addr→Q0,FuncId→Q2
open Go.Addr renaming add_mid→W5
open Go.Builtin renaming append_→j6,zeroCells→S8
open Go.Instr renaming loadAt→u4,storeAt→o7,indexAt→j4,extract→c8,buildSlice→Y1
open Go.Proofs.Tryz renaming prog→x7
open Go.Value renaming int→X2,cells→T9
open Int renaming toNat_natCast→u9,mul_le_mul_of_nonneg_right→V6,eq_ofNat_of_zero_le→T0,le_refl→R6
open List renaming getElem?_eq_some_iff→x4,mem_of_getElem?→x5,getElem?_eq_getElem→x6,getElem?_map→x8,getD_eq_getElem?_getD→u5,take_add_one→u7,replicate→r8,length_append→p8,length_map→o4,take_length→o6,mem_map→o8,mem_append→o9,take_of_length_le→n9,map_append→l7,ext_getElem?→j5,length_take→c7,mem_iff_getElem?→c9,mem_singleton→b8,eq_nil_of_length_eq_zero→Z0,range→Z2,getElem?_set_self→Z3,getElem?_eq_none→Z9,length_cons→Y3,getElem?_set→Y4,getElem?_take_of_lt→Y5,getElem?_append_right→Y9,append_assoc→X0,drop_eq_getElem_cons→X1,getElem?_set_ne→X3,length_eq_one_iff→X6,pairwise_iff_getElem→X9,getElem?_append_left→W8,append_nil→V1,map_congr_left→V2,map_set→V3,mem_range→V7,mem_of_mem_take→U1,map_cons→U3,length_set→U4,flatMap_cons→U7,mem_filter→U8,getElem?_zip_eq_some→T3,length_singleton→T4,mem_cons→T5,mem_or_eq_of_mem_set→T8,map_map→S4,map_take→S7,getElem_mem→Q4
open Nat renaming le_refl→p9,le_trans→Y2,zero_add→W7,mul_one→V0,mul_le_mul_right→V5,sub_self→U5,add_mul→T7
open Option renaming toList_some→l9,isNone_some→j0,some→b9,map_some→Z4,map_eq_some_iff→Y0,map→W6,isSome_some→S9,isSome_none→R3
open Option.some renaming inj→Z7
set_option maxHeartbeats 16000000
open Option renaming some→σ,none→ν
variable{I w:x3}{a c k most v:Int}{l sc co szs t tl:Λ}{e:r9}{B ac ga gt gtb gy j pos:Nat}{cs:List x1}{aJ sv:x1}{K:x1->x3->Prop}{D:Nat->Prop}
namespace Go.Proofs.YtkcigodpbndobaaGreatDoor
open Go Go.Vc Go.RowKit Go.Proofs Go.Proofs.Tryz
set_option maxRecDepth 100000
theorem pb{R:ah}{v:x1}{g:Nat}(h:ao .i64 e w g v l):bM (λr=>li v r) R w [v] l:=by
 have h1:=pN (R:=R) h;by_cases f:v= .slice ν 0 0
 .subst f;have:l=[]:=by
   obtain⟨j,⟨_,a⟩|⟨_,_,a,_⟩⟩:=h
   all_goals grind
  grind [iQ]
 .obtain⟨j,⟨a,_⟩|⟨cap,cs,a,_⟩⟩:=id h
  .grind
  .refine aq.X h1 (λr _ p=>?_) λ_ _ h=>h;rw[a];exact⟨_,_,_,rfl,p.symm⟩
theorem zB{R:ah}{v:x1}{g:Nat}(e:∀r c,B<=r->ag w r ae c->R r)(h:ao .i64 ae w g v l)(f:∀r,li v r->B<=r):Seen R w [v] l:=ss (pb (R:=λ_=>False) h) λr j a=>by
 rcases a with a|a
 .obtain⟨c,p⟩:=rK h r a
  grind
 grind
theorem RW{R:ah}{zero:Int}{d9:x1}(h:Seen R w [d9] co):cg ro (λ_ _=>False) R w [Δ k,d9,Δ zero,.slice ν 0 0,.slice ν 0 0,.slice ν 0 0,.slice ν 0 0,.slice ν 0 0] k co zero [] [] [] [] []:=
 ⟨_,_,_,_,_,_,rfl,h,iQ,iQ,iQ,iQ,iQ,by grind⟩
theorem cg.at{m:Bool}{A:Nat->ah}{R:ah}{zero:Int}{D:List (Λ)}{G:List Bool}{aW:List (Λ)}{H:List kT}{E:List qs}(h:cg m A R w cs k co zero D G aW H E)(c:Nat)(a:c<8):∃v,cs[c]?=σ v:=⟨_,x6 (by rw[h.len.1];exact a)⟩
def RX(R:ah)(w:x3)(e gt gs:Nat)(n:aD)(f:List x1)(i j:Nat)(a:x3):Prop:=Ext w a/\ag a e dY f/\ag a gt a6 z12/\∃A cs,ag a gs a6 cs/\(∀q r,A q r->gs<r)/\
 cg ro A R a cs n.k n.co n.zero ((n.unary.take i).map λu=>aL (newVar u)) (r8 i rs) (n.unary.take i) ((n.d7.take j).map λg=>kU (na n.co g)) []
theorem Gr{bs:x1}{n:aD}{R:ah}(dJ:∀r,R r->r<w.heap.size)(aR:∀r c,B<=r->ag w r ae c->R r)(ce:zh w B bs n)(Y:kM n)(dK:n.d7.length<=256):aj x7 JC [bs] w λv I=>Ext w I/\∃A cs,v= .agg cs.toArray/\kl ro A R I cs n.k n.co (di n)/\∀q r,A q r->w.heap.size<=r:=by
 have dM:=Y.co.2.1;have cf:=Y.l4;refine az func115 ?_;refine bm λg1 J dN aT ch=>?_;obtain⟨d9,gz,cj,dO,bt,ck,dP,aU,an,aq,cl,dQ,aV,cn,dR,cp,bu⟩:=Rm ce ch;refine bx a6.i λgt V dS au av=>?_;have av:ag V gt a6 z12:=av;have aW:=an.W au;rw[aQ dY.p 0 aW rfl,aQ dY.p 1 aW rfl,aQ dY.p 2 aW rfl,
  dw (cs:=#[Δ n.k,d9,Δ n.zero,.slice ν 0 0,.slice ν 0 0,.slice ν 0 0,.slice ν 0 0,.slice ν 0 0]) (by obtain⟨_,_,_,e⟩:=cP aq.ls;rw[e];kernel_rfl)]
 refine bx a6.i λgs dT dV ay cq=>?_;have cr:Seen R w [d9] n.co:=zB aR aq cp;have dW:=aT.size;have dX:=au.size;have z3:=ay.size;have ct:=(aT.F au).F ay;have bw:=RW (k:=n.k) (zero:=n.zero) (b6 cr ct);refine cb (vs:=[Δ n.k,d9,Δ n.zero,.slice ν 0 0,.slice ν 0 0,.slice ν 0 0,.slice ν 0 0,.slice ν 0 0]) a6.i rfl rfl bw.len.2 cq λdZ aX ea cu=>?_;have eb:=av.lt;have ec:=an.lt;have cw:gt≠gs:=Ω
 have aY:=(au.F ay).put aX Ω;have bz:=aT.F aY;have cz:=(av.W ay).aa aX λhe=>cw he;have ed:w.heap.size<gs:=Ω
 rw[aQ dY.p 1 (an.W aY) rfl,aS al.u (aq.W bz).ls];have cA:=bw.aa aX (by grind);refine cm.range n.co.length (λi N=>RX R w g1 gt gs n [Δ n.k,d9,Δ n.zero,cj,ck] i 0 N) Ω ⟨bz,an.W aY,cz,_,_,cu,by grind,cA⟩ ?_ ?_
 .rintro i N cB hi ⟨Z,aZ,bA,A,cs,aA,cC,a1⟩ cD;obtain⟨z,a2⟩:=aF (l:=n.co) hi;obtain⟨u,bD⟩:=aF (l:=n.unary) (i:=i) Ω;have ee:=Y.co.2.2 z (x5 a2);obtain⟨eg,_⟩:=Y.unary i z u a2 bD;refine bC Ω ?_;rw[be al.u ae.i Ψ (aq.W Z).ls a2];obtain⟨bF,rfl⟩:∃m:Nat,z=m:=⟨z.toNat,Ω⟩;refine b2.range bF (λj ab aB=>Ext N aB/\∃g,ao .i64 ae aB g ab ((Z2 j).map λv:Nat=>(v:Int))/\∀r,li ab r->N.heap.size<=r) Ω
   ⟨Ext.refl _,0,ao.nil _ _ _ _,λr f=>by obtain⟨a,n,c,G,O⟩:=f;cases G⟩ ?_ ?_
  .rintro j ab aB a8 ba ⟨H,cE,P,cF⟩ bb;refine bC Ω ?_;refine dr al.u ae.i rfl λeh ei cG ej C cH=>?_;refine fU al.u ae.i rfl (P.W C) cH.ls Θ Θ λek cI cJ em en Q=>?_;rw[aM];have cK:=H.size;have cL:=C.size;refine bb _ _ ⟨(H.F C).then Q (by grind),cI,?_,by grind⟩
   grind [List.range_succ]
  rintro ab aB a8 ⟨H,cE,P,cF⟩;refine ci Ω ?_;have cM:(Z2 bF).map (λv:Nat=>(v:Int))=aL (newVar u):=by grind [Rn]
  rw[cM]at P;have cK:=H.size;have eo:=Z.size;have ep:=aA.lt;have ac:∀r,R r->r<gs:=by grind
  have low:∀{bq cU:x3}{b:Nat}{e:r9}{c:List x1},af (λr=>gs<=r) bq cU->b<gs->ag bq b e c->ag cU b e c:=λK cN h=>h.aa K Ω;have ad:∀{bq cU:x3},Ext w bq->af (λr=>gs<=r) bq cU->Ext w cU:=λbc K=>bc.then K Ω;have bG:=a1.old.W H;have cO:∀q r,(A q r/\r<N.heap.size)->gs<r:=by grind
  obtain⟨er,bH⟩:=bG.at 3 Ω;rw[aQ a6.p 3 (aA.W H) bH];refine lX dL.u al.i Φ (a:=aL (newVar u)) (cs:=[ab]) P.ls.cells.1 (pb (R:=R) P) λes cG C _ cQ=>?_;have cL:=C.size;have aC:=H.F C;refine cg.RS (bG.W C) (aA.W aC) bH cO ac cQ (b6 (pb P) C) (λr f h=>?_) Θ λet eu cJ Q bI bJ cR _=>?_
  .grind
  have ev:=Q.size;obtain⟨ew,bK⟩:=bJ.at 4 Ω;rw[aQ a6.p 4 bI bK];refine lX (a:=rs) (cs:=[.bool rs]) (A:=λ_=>False) (R:=R) lS.u ir.i Φ rfl rfl λey ez S _ cS=>?_;refine cg.RT (B:=λ_=>False) (bJ.W S) (bI.W S) bK cR ac cS rfl (by grind) Θ λcT eA bL aE cV cW eB _=>?_;have z9:=S.size;have eC:=aE.size;have cX:Ext w bL:=ad ((ad (Z.F aC) Q).F S) aE;have cY:=low aE Ω ((low Q Ω (aZ.W aC)).W S);have cZ:=low aE Ω ((low Q Ω (bA.W aC)).W S);intro bd U _ _;have bN:=cV.W U;have bO:=cY.W U;have bP:=cX.F U;obtain⟨W,aG⟩:∃W,bt[i]?=σ W:=⟨_,x6 (by grind)⟩;have c0:W.l=u:=by
   have eD:(bt.map (·.l))[i]?=σ W.l:=by rw[x8,aG];rfl
   grind
  have bf:=cl.W bP;obtain⟨eE,bQ⟩:=bf.2 W (x5 aG);rw[c0]at bQ;have bR:=cW.old.W U;have c1:∀q r,(cT q r/\r<bL.heap.size)->gs<r:=by grind
  obtain⟨eF,bS⟩:=bR.at 5 Ω;rw[aQ a6.p 5 bN bS,aQ dY.p 3 bO rfl,dm rfl e0.u aw.i bf.1 (x4.1 aG).1,ax (v:=W.v) (o:=i*1) Ψ (bf.1.range aG 0 _ rfl)];refine zk (k:=.i64) aw.u ap.i λc2 eH eI eJ aH bT=>?_;refine⟨.inl aH,?_⟩;refine fU aw.u ap.i rfl bT (bQ.W aH).ls Θ Θ λbU eK c3 aI c4 c5=>?_;rw[List.nil_append]at aI;have eL:=U.size;have eM:=aH.size;have c6:∀r,li c2 r->bd.heap.size<=r:=λr f=>by have:=(bE bT f).1;omega
  have eN:∀r,li bU r->bd.heap.size<=r:=λr f=>(c4 r f).elim (c6 r) Ω;have bg:Ext bd c3:=aH.then c5 (by grind);refine⟨.inl bg,?_⟩;have eO:=bg.size;refine lX e0.u aw.i Φ (a:=u) (cs:=[bU]) aI.ls.cells.1 (pb (R:=R) aI) λeP eQ bh _ c7=>?_;have eR:=bh.size;have X:=bg.F bh;refine⟨.inl X,?_⟩;refine cg.RU (bR.W X) (bN.W X) bS c1 ac c7 (b6 (pb (R:=R) aI) bh) (λr f h=>?_) Θ λc8 c9 eS bi db dc dd _=>?_
  .grind
  rw[aM];refine cD _ ⟨ad (bP.F X) bi,low bi Ω (bO.W X),low bi Ω ((cZ.W U).W X),c8,c9,db,dd,?_⟩;rw[u7,bD,l9,l7,U3,List.map_nil,List.replicate_succ'];exact dc
 rintro N cB ⟨Z,aZ,bA,A,cs,aA,cC,a1⟩;refine ci Ω ?_;rw[n9 Ω]at a1;have eU:aU.length=n.d7.length:=by grind
 have de:=aV.W Z;rw[aQ dY.p 4 aZ rfl,e3 da.u de];have ac:∀r,R r->r<gs:=by grind
 have low:∀{bq cU:x3}{b:Nat}{e:r9}{c:List x1},af (λr=>gs<=r) bq cU->b<gs->ag bq b e c->ag cU b e c:=λK cN h=>h.aa K Ω;have ad:∀{bq cU:x3},Ext w bq->af (λr=>gs<=r) bq cU->Ext w cU:=λbc K=>bc.then K Ω;refine cm.range aU.length (λj E=>Ext w E/\ag E gt a6 z12/\∃A cs,ag E gs a6 cs/\(∀q r,A q r->gs<r)/\
  cg ro A R E cs n.k n.co n.zero (n.unary.map λu=>aL (newVar u)) (r8 n.co.length rs) n.unary ((n.d7.take j).map λg=>kU (na n.co g)) []) aV.le (by grind) ?_ ?_
 .rintro j E a8 ba ⟨L,bj,bk,fS,bl,df,ai⟩ bb;obtain⟨y,aK⟩:=aF (l:=aU) ba;have bV:n.d7[j]?=σ (ef y):=by grind
  have bW:=(Y.d7 (ef y) (x5 bV)).1;have eV:y.cs.length<=4096:=by
   have h1:y.cs.length=_:=bW.len;have eW:=bW.small;omega
  have bX:=cn y (x5 aK);have bY:=bX.W L;have bZ:=aV.W L;refine bC Ω ?_;rw[dm rfl da.u a7.i bZ ba,bB a7.p a7.i rfl (bZ.range aK)];refine bx a7.i λeX eY eZ dg dh=>?_;refine cb (vs:=dU y) a7.i rfl rfl bY.one dh λdj dk e1 dl=>?_;have dn:Ext E dj:=dg.put dk Ω;intro bn b0 _ _;have M:=dn.F b0;have b1:=bl.W M;have bo:=dl.W b0;have dp:=bY.W M;obtain⟨⟨e2,b3⟩,⟨e4,b4⟩,e5,dq⟩:=id dp;have b5:=ai.old.W M;have ds:∀q r,(bk q r/\r<E.heap.size)->gs<r:=by grind
  obtain⟨e6,b7⟩:=b5.at 6 Ω;rw[aQ a6.p 6 b1 b7,aQ a7.p 0 bo rfl,aQ a7.p 1 bo rfl,aQ a7.p 2 bo rfl];refine zk (k:=.i64) aw.u ap.i λv25 e7 e8 e9 aN b8=>?_;refine⟨.inl aN,?_⟩;refine fU aw.u ap.i rfl b8 (dq.W aN).ls Θ Θ λs fa b9 aO fb dt=>?_;rw[List.nil_append]at aO;have fc:=M.size;have z25:=aN.size;have fd:∀r,li v25 r->bn.heap.size<=r:=λr f=>by have:=(bE b8 f).1;omega
  have du:∀r,li s r->bn.heap.size<=r:=by grind
  have aP:Ext bn b9:=aN.then dt (by grind);refine⟨.inl aP,?_⟩;rw[dw (cs:=#[y.aJ,y.d9,s]) (by obtain⟨_,_,_,G⟩:=cP b3.ls;obtain⟨_,_,_,O⟩:=cP b4.ls;obtain⟨_,_,_,ak⟩:=cP aO.ls;rw[G,O,ak];kernel_rfl),
   dw (cs:=#[y.aJ,y.d9,s,.bool ro]) (by obtain⟨_,_,_,G⟩:=cP b3.ls;obtain⟨_,_,_,O⟩:=cP b4.ls;obtain⟨_,_,_,ak⟩:=cP aO.ls;rw[G,O,ak];kernel_rfl)]
  have fe:=aP.size;have ca:=(L.F M).F aP;obtain⟨⟨ga,dv⟩,⟨ff,dx⟩,_⟩:=id bX;have own:bM (α:=kT) (λr=>li s r) R b9 [y.aJ,y.d9,s,.bool ro] (kU (na n.co (ef y))):=by
   refine⟨[y.aJ,y.d9,s],[.bool ro],λr=>li s r,λ_=>False,rfl,λ_ h=>h,λ_ h=>h.elim,λ_ _ _ h=>h,⟨[y.aJ],[y.d9,s],λ_=>False,λr=>li s r,rfl,λ_ h=>h.elim,λ_ h=>h,by grind,?_,[y.d9],[s],λ_=>False,λr=>li s r,rfl,λ_ h=>h.elim,λ_ h=>h,by grind,?_,?_⟩,rfl⟩
   .exact b6 (zB aR dv λr f=>bu y (x5 aK) r (.inr (.inl f))) ca
   .exact b6 (zB aR dx λr f=>bu y (x5 aK) r (.inr (.inr f))) ca
   .exact pb aO
  refine lX gE.u fO.i Φ rfl own λfg fh bp _ dy=>?_;have fi:=bp.size;have am:=aP.F bp;refine⟨.inl am,?_⟩;refine cg.RV (b5.W am) (b1.W am) b7 ds ac dy (b6 own bp) (λr f h=>?_) Θ λdz dA fj cc dC dD dE _=>?_
  .have:=du r h;have:=bl.lt
   grind
  rw[aM];refine bb _ ⟨ad (L.F (M.F am)) cc,low cc Ω (bj.W (M.F am)),dz,dA,dC,dE,?_⟩;rw[u7,bV,l9,l7,U3,List.map_nil];exact dD
 rintro E a8 ⟨L,bj,bk,fS,bl,df,ai⟩;rw[n9 Ω]at ai;refine ci Ω ?_;obtain⟨br,dF⟩:=ai.len;rw[bB a6.p a6.i br (by grind [ag.range])];refine cb (vs:=fS) a6.i br rfl dF bj λfk cd fm dG=>?_;rw[fD a6.p a6.i br dG.range];have dH:=ai.aa cd (by grind);have fo:=L.size;refine⟨L.then cd Ω,bk,fS,rfl,?_,by grind⟩;have G:(di n).d6.map aL=n.unary.map λu=>aL (newVar u):=by show(n.unary.map newVar).map aL=_;rw[S4];rfl
 have O:(di n).d6.map (λx=>decide (x.gone≠0))=r8 n.co.length rs:=by
  show(n.unary.map newVar).map _=_;rw[S4,<-cf];exact List.map_const' ..
 have ak:(di n).d6.map (·.un)=n.unary:=by show(n.unary.map newVar).map _=_;rw[S4];exact List.map_id _
 have dI:(di n).d7.map kU=n.d7.map λg=>kU (na n.co g):=by show(n.d7.map (na n.co)).map kU=_;rw[S4];rfl
 unfold kl;rw[G,O,ak,dI];exact dH
def mi(w:x3)(g:Nat)(k:Int)(co:Λ)(s:am):Prop:=∃d9 a e f h j,ag w g a6 [Δ k,d9,Δ s.zero,a,e,f,h,j]/\aI .i64 w d9 co/\Seen fo w [d9] co/\
 Seen fo w [a] (s.d6.map aL)/\Seen fo w [e] (s.d6.map λx=>decide (x.gone≠0))/\Seen fo w [f] (s.d6.map (·.un))/\Seen fo w [h] (s.d7.map kU)/\Seen fo w [j] (s.elims.map Gn)
section
variable{w I:x3}{g:Nat}{v:x1}{k:Int}{co:Λ}{s:am}
theorem mi.W(h:mi w g k co s)(a:Ext w I):mi I g k co s:=by
 obtain⟨d9,e,f,j,p,q,r,h1,x,y,z,A,B,C⟩:=h;exact⟨d9,e,f,j,p,q,r.W a,h1.W a,b6 x a,b6 y a,b6 z a,b6 A a,b6 B a,b6 C a⟩
theorem lC.box(h:lC w v k co s)(f:Ext w I)(j:ag I g a6 v.cells.toList):mi I g k co s:=by
 obtain⟨cs,rfl,d9,z,B,C,E,F,rfl,h1,p,q,r,x,y,_⟩:=h;obtain⟨_,_,_,G⟩:=cP (fw h1);have c:∀{α:Type}[aq α]{v:x1}{l:List α}{A:ah},aq.rep rs A fo w [v] l->∃a n c,v= .slice a n c:=λh=>by
  obtain⟨_,_,_,_,_,⟨_,b,o,base,cap,e,_⟩,_⟩:=kA h;exact⟨_,_,_,e⟩
 obtain⟨_,_,_,H⟩:=c p;obtain⟨_,_,_,J⟩:=c q;obtain⟨_,_,_,K⟩:=c r;obtain⟨_,_,_,L⟩:=c x;obtain⟨_,_,_,M⟩:=c y;refine⟨d9,z,B,C,E,F,?_,(fw h1).W f,b6 h1 f,b6 p f,b6 q f,b6 r f,b6 x f,b6 y f⟩;rw[G,H,J,K,L,M]at j ⊢;exact j
theorem mi.load{K:x1->Prop}(h:mi w g k co s)(a:∀u,lC w u k co s->K u):ab x7 (u4 a6 (Γ g)) w K:=by
 obtain⟨d9,e,f,j,q,r,x,h1,y,z,A,B,C,E⟩:=h;rw[bB a6.p a6.i rfl x.range];exact a _ ⟨_,rfl,d9,e,f,j,q,r,rfl,y,z,A,B,C,E,λh=>by cases h⟩
theorem RY{i:Int}(h:lC w v k co s):aj x7 IS [v,Δ i] w λr I=>r= .bool (decide (0<=i/\i<co.length))/\Ext w I:=by
 refine az func28 ?_;refine bm λg1 J x a e=>?_;obtain⟨d9,y,z,A,B,C,e,q,_⟩:=h.box a e;refine aV (λv V=>v= .bool (decide (0<=i/\i<co.length))/\Ext w V) (λ_ _ h=>h) λay f=>?_;rw[cI,ai];refine⟨λj=>?_,λj=>f _ _ ⟨by rw[ms];omega,a⟩⟩;rw[aQ a6.p 1 e rfl,aS al.u q,aP];refine f _ _ ⟨?_,a⟩;congr 1;exact decide_eq_decide.2 ⟨λh=>⟨j,h⟩,λh=>h.2⟩
theorem rS{m:Bool}{S R:ah}{f:bH}(h:aq.rep (α:=kT) m S R w cs (kU f)):∃aJ d9 a1,cs=[aJ,d9,a1,.bool (decide (f.live≠0))]/\Seen fo w [aJ] f.sc/\Seen fo w [d9] f.szs/\Seen fo w [a1] f.cs:=by
 obtain⟨E,p,A,B,rfl,_,_,_,⟨q,F,aH,G,rfl,_,_,_,h1,r,s,H,x,rfl,_,_,_,a,e⟩,j⟩:=h;have one:∀{α:Type}[aq α]{m:Bool}{S R:ah}{c:List x1}{l:List α},aq.rep m S R w c l->∃v,c=[v]:=λh=>by obtain⟨v,y,_⟩:=h;exact⟨v,y⟩
 have h1:Seen _ w q f.sc:=h1;have a:Seen _ w r f.szs:=a;have j:p=[.bool (decide (f.live≠0))]:=j;have e:aq.rep m x R w s f.cs:=e;obtain⟨z,rfl⟩:=one h1;obtain⟨C,rfl⟩:=one a;obtain⟨v3,rfl⟩:=one e;subst j;exact⟨z,C,v3,rfl,lj h1,lj a,lj e⟩
theorem RZ{j:Int}(h:lC w v k co s):aj x7 Lz [v,Δ j] w λr I=>r= .bool (decide (0<=j)&&eL s j.toNat)/\Ext w I:=by
 refine az func318 ?_;refine bm λg1 J C a e=>?_;obtain⟨d9,E,G,H,K,L,e,M,_,_,_,_,y,_⟩:=h.box a e;refine aV (λv V=>v= .bool (decide (0<=j)&&eL s j.toNat)/\Ext w V) (λ_ _ h=>h) λay q=>?_;rw[cI,ai];refine⟨λx=>?_,λx=>q _ _ ⟨by rw[ms x];rfl,a⟩⟩;rw[aQ a6.p 6 e rfl,kB gE.u y,aP,ai,o4];refine⟨λN=>?_,λO=>q _ _ ⟨by unfold eL;rw[Z9 Ω,Bool.and_false],a⟩⟩;obtain⟨f,z⟩:=aF (l:=s.d7) (i:=j.toNat) Ω;rw[aQ a6.p 6 e rfl];refine nR (i:=j.toNat) Ω gE.u fO.i y (by rw[x8,z];rfl) λb o cs A B=>?_;obtain⟨P,Q,v3,rfl,_⟩:=rS B;rw[aT fO.p rfl,ax (v:=.bool (decide (f.live≠0))) Ψ (A 3 _ rfl)];exact q _ _ ⟨by unfold eL;rw[z,m7 x,V8],a⟩
end
theorem wh{S T:Nat->Prop}(h:af S w I)(k:af T w I):af (λr=>S r/\T r) w I:=
 ⟨h.size,λr o a U f=>by
  by_cases e:S r
  .exact k.aZ r o a U (by grind)
  .exact h.aZ r o a U e⟩
theorem qt{ad:Nat}{A R:ah}{n:aD}{s:am}{t:av}(h:bd w ac ad A R n s t):∀r,A r\/R r->r<w.heap.size:=λr a=>by
 obtain⟨e,f,j,p,⟨_,_,q,x⟩,_⟩:=h.1
 grind
structure ch(w:x3)(ac ad ak:Nat)(A R:ah)(A9:Nat->ah)(aE:ah)(n:aD)(s u:am)(t:av)(h:List av)(cs:List x1):Prop where
 e7:bd w ac ad A R n s t
 jN:gJ t h
 box:ag w ak a6 cs
 doc:kl ro A9 aE w cs n.k n.co u
 apart:∀q r,A9 q r->¬A r/\¬R r/\r≠ak
 read:∀r,aE r->¬du w r/\r<w.heap.size/\r≠ak
 out:¬A ak/\¬R ak
section
variable{w I:x3}{ac ad ak:Nat}{A R:ah}{A9:Nat->ah}{aE:ah}{n:aD}{s u:am}{t:av}{h:List av}{cs:List x1}
theorem ch.W(p:ch w ac ad ak A R A9 aE n s u t h cs)(a:Ext w I):ch I ac ad ak A R A9 aE n s u t h cs:=
 ⟨p.e7.W a,p.jN,p.box.W a,p.doc.W a,p.apart,λr e=>⟨λh=>(p.read r e).1 (oX (λo f U _=>a.aZ r o f U) h),by have:=(p.read r e).2.1;have:=a.size;omega,(p.read r e).2.2⟩,p.out⟩
theorem ch.prog{aH R':ah}{s':am}{t':av}{bi:List av}(p:ch w ac ad ak A R A9 aE n s u t h cs)(x:af (du w) w I)(f:Grow A w aH I)(C:bd I ac ad aH R' n s' t')(j:gJ t' bi)(y:∀r,R' r->R r\/B<=r)(G:∀q r,A9 q r->r<w.heap.size->r<B)(H:ak<B):
  ch I ac ad ak aH R' (λq r=>A9 q r/\r<w.heap.size) aE n s' u t' bi cs:=by
 have J:=p.box.lt;have z:=x.size;refine⟨C,j,p.box.aa f.1 p.out.1,cg.aa p.doc.old (wh x f.1) λr e h j=>?_,λq r h=>⟨λa=>?_,λe=>(y r e).elim (p.apart q r h.1).2.1 (by grind),(p.apart q r h.1).2.2⟩,λr e=>⟨λh=>?_,by have:=(p.read r e).2.1;omega,(p.read r e).2.2⟩,λa=>?_,λe=>(y ak e).elim p.out.2 Ω⟩
 .rcases h with⟨q,h⟩|h
  .exact (p.apart q r h.1).1 j.2
  .exact (p.read r h).1 j.1
 .rcases f.2.1 r a with a|a
  .exact (p.apart q r h.1).1 a
  omega
 .exact (p.read r e).1 (oX (λo E U F=>x.aZ r o E U F) h)
 .rcases f.2.1 ak a with a|a
  .exact p.out.1 a
  .omega
theorem ch.R1{S:ah}{cv:Nat->ah}{u':am}{ck:List x1}(p:ch w ac ad ak A R A9 aE n s u t h cs)(f:af S w I)(x:∀r,r<w.heap.size->S r->(∃q,A9 q r)\/r=ak)(B:ag I ak a6 ck)(C:kl ro cv aE I ck n.k n.co u')(E:∀q r,cv q r->(∃j,A9 j r)\/(¬A r/\¬R r/\r≠ak)):
  ch I ac ad ak A R cv aE n s u' t h ck:=by
 have G:=p.box.lt;have z:=f.size;have H:∀q r,A9 q r->¬aE r:=by obtain⟨_,_,_,_,_,_,_,_,_,_,_,_,_,J⟩:=p.doc;grind
 refine⟨⟨p.e7.1.aa f λr e h U=>?_,p.e7.2⟩,p.jN,B,C,λq r h=>?_,λr e=>⟨λh=>(p.read r e).1 (oX (λo F U _=>f.aZ r o F U λa=>?_) h),by have:=(p.read r e).2.1;omega,(p.read r e).2.2⟩,p.out⟩
 .rcases x r e U with⟨q,a⟩|a
  .exact h.elim (p.apart q r a).1 (p.apart q r a).2.1
  .subst a;exact h.elim p.out.1 p.out.2
 .rcases E q r h with⟨j,a⟩|a
  .exact p.apart j r a
  .exact a
 .rcases x r (p.read r e).2.1 a with⟨q,y⟩|y
  .grind
  .exact (p.read r e).2.2 y
theorem ch.R2{S:ah}{cv:Nat->ah}{u':am}{ck:List x1}(p:ch w ac ad ak A R A9 aE n s u t h cs)(y:∀r,A r\/R r->r<B)(z:ak<B)(a:af S w I)(e:∀r,r<w.heap.size->S r->(∃q,A9 q r)\/r=ak)(f:ag I ak a6 ck)(j:kl ro cv aE I ck n.k n.co u')(C:∀q r,cv q r->(∃x,A9 x r)\/B<=r):
  ch I ac ad ak A R cv aE n s u' t h ck:=
 p.R1 a e f j (by grind)
theorem ch.Gs{S:ah}{cv:Nat->ah}{u':am}{ck:List x1}(p:ch w ac ad ak A R A9 aE n s u t h cs)(a:af S w I)(e:∀r,r<w.heap.size->S r->(∃q,A9 q r)\/r=ak)(f:ag I ak a6 ck)(j:kl ro cv aE I ck n.k n.co u')(x:∀q r,cv q r->(∃y,A9 y r)\/w.heap.size<=r):
  ch I ac ad ak A R cv aE n s u' t h ck:=p.R2 (qt p.e7) p.box.lt a e f j x
theorem ch.look(p:ch w ac ad ak A R A9 aE n s u t h cs):mi w ak n.k n.co u:=by
 refine lC.box p.doc.Gp (Ext.refl _) ?_;have:=p.box;exact this
theorem ch.qu(p:ch w ac ad ak A R A9 aE n s u t h cs):∃d9 a e f j q,cs=[Δ n.k,d9,Δ u.zero,a,e,f,j,q]/\aI .i64 w d9 n.co:=by
 obtain⟨d9,a,e,f,j,q,h1,r,_⟩:=p.doc
 grind [fw]
end
end Go.Proofs.YtkcigodpbndobaaGreatDoor
namespace Go.Vc
open Go Go.RowKit
section
variable{P:X5}{w:x3}{α:Type}[aq α]{S R:ah}
theorem wi{v:x1}{l:List α}{i:Nat}{a:α}(h:bM S R w [v] l)(C:l[i]?=σ a)(N:∀r,r<w.heap.size->S r->¬R r):∃g cap c F,v= .slice (σ ⟨g,0,ν⟩) l.length cap/\w.rangeAt g (i*aq.n α) c/\bM F R w c a/\(∀r,F r->S r)/\
  ∀{I:x3}{a':α}{T z:ah},af T w I->(∀r,r<w.heap.size->T r->F r)->bM z R I c a'->(∀r,z r->F r\/w.heap.size<=r)->bM (λr=>S r\/w.heap.size<=r) R I [v] (l.set i a'):=by
 have al:=(x4.1 C).1;obtain⟨vs,g,F,s,he,U,hm⟩:=kA h;obtain⟨O,P,E⟩:=hm rfl;obtain⟨am,⟨rfl,an⟩|⟨cap,full,rfl,Q,ao,ap,au,av⟩⟩:=id E
 .omega
 have V:vs.length=l.length:=he.1;have aw:S g:=O.resolve_left Ξ;obtain⟨c,G⟩:∃c,vs[i]?=σ c:=⟨_,x6 Ω⟩;have W:=he.2 i c a G C;refine⟨g,cap,c,F i,rfl,?_,W,λr p=>s.sub i r p,λ{I a' T z}H J X A=>?_⟩
 .obtain⟨_,ax,o',ay,az,Y,_,_,Z,_,ab⟩:=U;cases Y;cases Z Ω;intro j u ac;have aA:=ab (i*aq.n α+j) u (by rw[<-List.flatMap_id];exact rq (f:=id) (k:=aq.n α) (λx ad=>he.len x ad) G ac)
  grind
 have ae:¬T g:=λh=>s.top rfl i (J g Q.lt h);have aB:=aq.len X;have aC:vs.set i c=vs:=by
  refine j5 λq=>?_
  grind
 have aD:bZ I g P (aq.n α) (.slice (σ ⟨g,0,ν⟩) l.length cap) (l.set i a').length vs.flatten:=by
  rw[U4];exact E.aa H λ_=>ae
 refine⟨_,rfl,vs,g,λj r=>if j=i then z r else F j r/\r<w.heap.size,⟨λj r p=>?_,λ_ j p=>?_,λ_ j q r ai h1 y=>?_⟩,⟨by simp[V],λj K L aj M=>?_⟩,?_,by grind⟩
 .split at p
  .exact (A r p).imp (s.sub i r) id
  .exact .inl (s.sub j r p.1)
 .split at p
  .rcases A g p with h|h
   .exact s.top rfl i h
   grind [ag.lt]
  .exact s.top rfl j p.1
 .split at h1<;>split at y
  .omega
  .rcases A r h1 with h|h
   .rename_i e _;exact s.ia rfl i q r Ω h y.1
   omega
  .rcases A r y with h|h
   .exact s.ia rfl j i r Ω h1.1 h
   omega
  .exact s.ia rfl j q r ai h1.1 y.1
 .by_cases B:j=i
  .subst B
   grind
  .rw[X3 (Ne.symm B)]at M;have ak:bM (λr=>if j=i then z r else F j r/\r<w.heap.size) R w K L:=aq.X (he.2 j K L aj M) (by grind) λ_ _ h=>h;refine aq.aa ak H λr p h1 y=>?_;have y:=J r p y;rcases h1 with h1|h1
   .simp only[m5 B]at h1;exact s.ia rfl j i r B h1.1 y
   .exact N r p (s.sub i r y) h1
 grind [qZ]
theorem Gt{v:x1}{l:List α}{i:Nat}{a:α}(h:bM S R w [v] l)(H:l[i]?=σ a)(N:∀r,r<w.heap.size->S r->¬R r):∃g cap full A c F,v= .slice (σ ⟨g,0,ν⟩) l.length cap/\ag w g A full/\S g/\i*aq.n α+aq.n α<=full.length/\(∀(q:Nat)x,c[q]?=σ x->full[i*aq.n α+q]?=σ x)/\bM F R w c a/\(∀r,F r->S r)/\¬F g/\
  ∀{I:x3}{a':α}{z:List x1}{T B:ah},af T w I->(∀r,r<w.heap.size->T r->F r\/r=g)->ag I g A (over full (i*aq.n α) z)->bM B R I z a'->(∀r,B r->F r\/w.heap.size<=r)->bM (λr=>S r\/w.heap.size<=r) R I [v] (l.set i a'):=by
 have O:=(x4.1 H).1;obtain⟨vs,g,F,s,he,U,hm⟩:=kA h;obtain⟨P,A,Q⟩:=hm rfl;obtain⟨ap,⟨rfl,au⟩|⟨cap,full,rfl,V,av,W,X,aw⟩⟩:=id Q
 .omega
 have Y:vs.length=l.length:=he.1;have Z:S g:=P.resolve_left Ξ;obtain⟨c,J⟩:∃c,vs[i]?=σ c:=⟨_,x6 Ω⟩;have ab:=he.2 i c a J H;have ac:(i+1)*aq.n α<=l.length*aq.n α:=V5 _ O;have ax:l.length*aq.n α<=full.length:=by grind
 rw[T7,Nat.one_mul]at ac;refine⟨g,cap,full,A,c,F i,rfl,V,Z,Ω,λq x ad=>?_,ab,λr y=>s.sub i r y,s.top rfl i,λ{I a' z T B}ae ai aj ak C=>?_⟩
 .have ay:=rq (f:=id) (k:=aq.n α) (λx al=>he.len x al) J ad
  grind [List.flatMap_id]
 have am:=aq.len ak;have az:∀c∈vs.set i z,c.length=aq.n α:=λc E=>by
  rcases T8 E with p|rfl
  .exact he.len c p
  .exact am
 have aA:bZ I g A (aq.n α) (.slice (σ ⟨g,0,ν⟩) l.length cap) (l.set i a').length (vs.set i z).flatten:=by
  refine⟨by grind [kz,U4],.inr ⟨cap,_,by grind,aj,by grind,W,by rw[gf,X],?_⟩⟩
  grind [yt,Gl,lW.len]
 refine⟨_,rfl,vs.set i z,g,λj r=>if j=i then B r else F j r/\r<w.heap.size,⟨λj r y=>?_,λ_ j y=>?_,λ_ j q r an h1 p=>?_⟩,⟨by simp[Y],λj K L E M=>?_⟩,?_,by grind⟩
 .split at y
  .exact (C r y).imp (s.sub i r) id
  .exact .inl (s.sub j r y.1)
 .split at y
  .rcases C g y with h|h
   .exact s.top rfl i h
   grind [ag.lt]
  .exact s.top rfl j y.1
 .split at h1<;>split at p
  .omega
  .rcases C r h1 with h|h
   .rename_i e _;exact s.ia rfl i q r Ω h p.1
   omega
  .rcases C r p with h|h
   .exact s.ia rfl j i r Ω h1.1 h
   omega
  .exact s.ia rfl j q r an h1.1 p.1
 .by_cases G:j=i
  .subst G
   grind
  .rw[X3 (Ne.symm G)]at E M;have ao:bM (λr=>if j=i then B r else F j r/\r<w.heap.size) R w K L:=aq.X (he.2 j K L E M) (by grind) λ_ _ h=>h;refine aq.aa ao ae λr y h1 p=>?_;have p:=ai r y p;rcases h1 with h1|h1
   .simp only[m5 G]at h1;rcases p with p|rfl
    .exact s.ia rfl j i r G h1.1 p
    .exact s.top rfl j h1.1
   .rcases p with p|rfl
    .exact N r y (s.sub i r p) h1
    grind
 grind [qZ]
end
end Go.Vc
namespace Go.Proofs.YtkcigodpbndobaaGreatDoor
open Go Go.Vc Go.RowKit Go.Proofs Go.Proofs.Tryz
set_option maxRecDepth 100000
theorem R5{t:av}{i:Nat}{x:Int}:(t.set i x).marks=t.marks/\(t.set i x).cells.length=t.cells.length/\(t.set i x).olds.length<=t.olds.length+1:=by
 unfold av.set;split
 .exact⟨rfl,rfl,Nat.le_succ _⟩
 .split
  .exact⟨rfl,Ξ,Nat.le_succ _⟩
  .split
   .exact⟨rfl,Ξ,Ξ⟩
   .exact⟨rfl,Ξ,Nat.le_succ _⟩
section
variable{w0 w:x3}{ac ad ak ga:Nat}{A R:ah}{A9 cv:Nat->ah}{aE:ah}{n:aD}{s u:am}{t:av}{h:List av}{cs ck:List x1}{aN aJ nj:x1}{Q:x1->x3->Prop}
theorem ch.olds(p:ch w0 ac ad ak A R A9 aE n s u t h cs):ch w0 ac ad ak A R (λq r=>A9 q r/\r<w0.heap.size) aE n s u t h cs:=
 ⟨p.e7,p.jN,p.box,p.doc.old,λq r a=>p.apart q r a.1,p.read,p.out⟩
end
theorem rT{α β:Type}{l:List α}{i:Nat}{a b:α}{f:α->β}(h:l[i]?=σ a)(j:f b=f a):(l.set i b).map f=l.map f:=by
 rw[V3,j];refine j5 λq=>?_;rw[Y4];by_cases e:i=q
 .subst e;rw[m3 rfl,x8,h,m3 (by rw[o4];exact(x4.1 h).1)];rfl
 .rw[m5 e]
theorem zC{T:Nat->Prop}(h:af T w I):af (λr=>T r/\r<w.heap.size) w I:=⟨h.size,λr o a U e=>h.aZ r o a U λf=>e ⟨f,(Z5.1 a).1⟩⟩
section
variable{w0 w I:x3}{ac ad ak ga:Nat}{A R:ah}{A9:Nat->ah}{aE:ah}{n:aD}{s u u':am}{t:av}{h:List av}{cs:List x1}{aN aJ nj v:x1}{Q:x1->x3->Prop}
theorem cg.pW{m:Bool}{zero:Int}{D:List (Λ)}{G:List Bool}{aW:List (Λ)}{H:List kT}{E:List qs}{i:Nat}(a:cs[i]?=σ v)(h:cg m A9 aE w (cs.set i v) k co zero D G aW H E):cg m A9 aE w cs k co zero D G aW H E:=by
 have:cs.set i v=cs:=by
  refine j5 λq=>?_;rw[Y4];by_cases e:i=q
  .subst e;have:=(x4.1 a).1;rw[m3 rfl,m3 this,a]
  .rw[m5 e]
 rw[this]at h;exact h
theorem ch.row{T:ah}{cv:Nat->ah}{q:Nat}(p:ch w ac ad ak A R A9 aE n s u t h cs)(a:af T w I)(e:∀r,r<w.heap.size->T r->A9 q r)(f:kl ro cv aE I cs n.k n.co u')(j:∀q r,cv q r->(∃x,A9 x r)\/w.heap.size<=r):
  ch I ac ad ak A R cv aE n s u' t h cs:=
 p.Gs a (λr y h=>.inl ⟨q,e r y h⟩) (p.box.aa a λh=>(p.apart q ak (e ak p.box.lt h)).2.2 rfl) f j
theorem zD{q:Nat}{B:ah}(a:∀r,B r->A9 q r\/w.heap.size<=r):∀j r,jR A9 q B j r->(∃e,A9 e r)\/w.heap.size<=r:=λj r h=>by
 unfold jR at h;split at h
 .exact (a r h).imp (λh=>⟨q,h⟩) id
 .exact .inl ⟨j,h⟩
end
theorem R7{x:Int}(h:aI .i64 w sv l):aj x7 xt [sv,Δ x] w λv I=>Ext w I/\∃r:Int,v=Δ r/\(x∉l->r= -1)/\(x∈l->0<=r/\l[r.toNat]?=σ x):=by
 refine az func91 ?_;rw[aS al.u h];refine b2.range l.length (λi _ J=>Ext w J/\x∉l.take i) h.le ⟨Ext.refl _,Ξ⟩ ?_ ?_
 .rintro i _ J k hi ⟨a,e⟩ hk;refine bC Ω ?_;obtain⟨y,f⟩:=aF (l:=l) hi;rw[be al.u ae.i Ψ (h.W a) f,bh,ai];refine⟨λhe=>⟨a,i,rfl,λhm=>m6 (he▸x5 f) hm,λ_=>⟨Ω,by rw[he,u9];exact f⟩⟩,λhe=>?_⟩;rw[aM];refine hk _ _ ⟨a,λhm=>?_⟩;rw[u7,f]at hm;rcases o9.1 hm with hm|hm
  .exact e hm
  .simp at hm;exact he hm
 .rintro _ J k ⟨a,e⟩;rw[o6]at e;rw[aP,ai];exact⟨λh=>Ω,λ_=>⟨a,-1,rfl,λ_=>rfl,λh=>m6 h e⟩⟩
theorem Gu{x:Int}(h:aI .i64 w sv l):aj x7 Jz [sv,Δ x] w λv I=>v= .bool (decide (x∈l))/\Ext w I:=by
 refine az func107 ?_;refine(R7 h).X ?_;rintro _ J _ ⟨a,r,rfl,e,f⟩;rw[cI];refine⟨?_,a⟩;congr 1;refine decide_eq_decide.2 ⟨λp=>?_,λhm=>(f hm).1⟩;exact Z6.1 λj=>by have:=e j;omega
theorem Gv{q:Nat}{cap:Array x1}{p:Int->Bool}(h:aI .i64 w sv l)(z:∀I x,Ext w I->x∈l->aj x7 q (Δ x::cap.toList) I λr A=>r= .bool (p x)/\Ext I A):
  aj x7 xC [sv,.func (.func q) #[] cap] w λv I=>Ext w I/\((v=Δ (-1)/\∀x∈l,p x=rs)\/∃i:Nat,v=Δ (i:Int)/\i<l.length/\(∀x∈l.take i,p x=rs)/\∀x,l[i]?=σ x->p x=ro):=by
 refine az func239 ?_;rw[aS al.u h];refine b2.range l.length (λi _ J=>Ext w J/\∀x∈l.take i,p x=rs) h.le ⟨Ext.refl _,Ξ⟩ ?_ ?_
 .rintro i _ J k hi ⟨e,f⟩ hk;refine bC Ω ?_;obtain⟨y,j⟩:=aF (l:=l) hi;rw[be al.u ae.i Ψ (h.W e) j];refine aj.X (z J y e (x5 j)) ?_;rintro _ V _ ⟨rfl,s⟩;rw[bU];refine⟨λB=>⟨e.F s,.inr ⟨i,rfl,hi,f,λx a=>by rw[j]at a;cases a;exact B⟩⟩,λC=>?_⟩;rw[aM];refine hk _ _ ⟨e.F s,λx a=>?_⟩;rw[u7,j]at a;rcases o9.1 a with a|a
  .exact f x a
  .simp at a;subst a;exact C
 .rintro _ J k ⟨e,f⟩;rw[o6]at f;rw[aP,ai];exact⟨λh=>Ω,λ_=>⟨e,.inl ⟨rfl,f⟩⟩⟩
theorem R8{e:Nat}{cap:Array x1}{p:Int->Bool}(h:aI .i64 w sv l)(f:∀I x,Ext w I->x∈l->aj x7 e (Δ x::cap.toList) I λr j=>r= .bool (p x)/\Ext I j):
  aj x7 uw [sv,.func (.func e) #[] cap] w λv I=>v= .bool (l.any p)/\Ext w I:=by
 refine az func163 ?_;refine(Gv h f).X ?_;rintro _ J _ ⟨a,⟨rfl,q⟩|⟨i,rfl,hi,_,s⟩⟩
 .rw[cI];refine⟨?_,a⟩;congr 1;rw[ms Ω,eq_comm,List.any_eq_false];exact λx a=>by rw[q x a];decide
 .rw[cI];refine⟨?_,a⟩;congr 1;rw[m7 Ω,eq_comm,List.any_eq_true];exact⟨_,Q4 hi,s _ (x6 hi)⟩
theorem Gw{g S:Nat}{cap:Array x1}{p:Int->Bool}(h:ao .i64 e w g sv l)(aK:l.length<=100000000)(U:∀I x,af (λr=>li sv r) w I->x∈l->aj x7 S (Δ x::cap.toList) I λr ab=>r= .bool (p x)/\Ext I ab):
  aj x7 Kd [sv,.func (.func S) #[] cap] w λv I=>af (λr=>li sv r) w I/\ao .i64 e I g v (l.filter λx=>!p x)/\∀r,li v r->li sv r:=by
 refine az func166 ?_;refine(Gv h.ls λI x B=>U I x (B.aa _)).X ?_;rintro _ J _ ⟨C,⟨rfl,M⟩|⟨i,rfl,hi,M,ac⟩⟩
 .rw[bh,ai];refine⟨λ_=>⟨C.aa _,?_⟩,λh=>m6 rfl h⟩;rw[List.filter_eq_self.2 λx B=>by rw[M x B];rfl];exact⟨h.W C,λ_ h=>h⟩
 rw[bh,ai];refine⟨λh=>Ω,λ_=>?_⟩;rw[aM,lm Ω Ω];obtain⟨n,N⟩:∃n,l.length=n:=⟨_,rfl⟩;obtain⟨s,rfl⟩:∃s,sv= .slice (σ ⟨g,0,ν⟩) n s:=by
  obtain⟨_,⟨_,h1⟩|⟨s,cs,h1,_⟩⟩:=id h
  .omega
  .exact⟨s,by rw[h1,N]⟩
 obtain⟨_,_,_,_,aL,ad,_⟩:=s6 h Ω;have V:∀r,r=g->li (.slice (σ ⟨g,0,ν⟩) n s) r:=λr O=>⟨_,_,_,rfl,O.symm⟩;have ag:(l.take (i+1)).filter (λx=>!p x)=l.take i:=by
  obtain⟨y,z⟩:=aF (l:=l) hi;rw[u7,z,List.filter_append,List.filter_eq_self.2 λx B=>by rw[M x B];rfl];simp[ac y z]
 refine⟨λP Q E=>∃(q j:Nat)(f:Λ),P=Δ (q:Int)/\Q=Δ (j:Int)/\q<j/\j<=n/\af (λr=>r=g) w E/\ao .i64 e E g (.slice (σ ⟨g,0,ν⟩) n s) f/\f.length=n/\f.take q=(l.take j).filter (λx=>!p x)/\∀k,j<=k->f[k]?=l[k]?,
  λ_ Q _=>n-(b0 Q).toNat,⟨i,i+1,l,rfl,rfl,Ω,Ω,C.aa _,h.W C,N,ag.symm,λ_ _=>rfl⟩,?_⟩
 rintro _ _ E ⟨q,j,f,rfl,rfl,aN,aO,G,H,W,A,R⟩;have aQ:q=((l.take j).filter λx=>!p x).length:=by rw[<-A,c7];omega
 rw[iv al.u,aP,ai];refine⟨λah=>?_,λaR=>?_⟩
 .have ah:j<n:=Ω
  obtain⟨y,z⟩:=aF (l:=l) (i:=j) Ω;have ak:f[j]?=σ y:=by rw[R j (p9 _),z]
  refine aV (λP K=>∃(q:Nat)(f:Λ),P=Δ (q:Int)/\q<j+1/\af (λr=>r=g) w K/\ao .i64 e K g (.slice (σ ⟨g,0,ν⟩) n s) f/\f.length=n/\f.take q=(l.take (j+1)).filter (λx=>!p x)/\∀k,j+1<=k->f[k]?=l[k]?) ?_ ?_
  .rintro _ K ⟨q,f,rfl,h1,am,an,ap,aq,au⟩;rw[aM,lm Ω Ω];exact⟨⟨q,j+1,f,rfl,rfl,h1,Ω,am,an,ap,aq,au⟩,by simp only[b0];omega⟩
  intro ay X;rw[be al.u ae.i Ψ H.ls ak];refine aj.X (U E y (G.X λr _=>V r) (x5 z)) ?_;rintro _ K _ ⟨rfl,L⟩;have Y:(l.take (j+1)).filter (λx=>!p x)=(l.take j).filter (λx=>!p x)++[y].filter (λx=>!p x):=by rw[u7,z,List.filter_append];rfl
  rw[bA,bU];refine⟨λav=>?_,λaw=>?_⟩
  .have Z:=H.W L;rw[iy rfl al.u ae.i Z Ω];refine iz ae.i Z Ω λaS ax aT aA=>?_;rw[aM,lm Ω Ω];refine X _ _ ⟨q+1,_,rfl,Ω,(G.F (L.aa _)).F ax,aA,by simpa using W,?_,λk hk=>?_⟩
   .rw[Y,u7,Z3 Ω,List.take_set_of_le (p9 _),A];simp only[l9];rw[show[y].filter (λx=>!p x)=[y] by simpa using av]
   .rw[X3 Ω];exact R k Ω
  .refine X _ _ ⟨q,f,rfl,Ω,G.F (L.aa _),H.W L,W,?_,λk hk=>R k Ω⟩;rw[Y,show[y].filter (λx=>!p x)=[] by simpa using aw,V1];exact A
 .have aB:j=n:=Ω
  subst aB;rw[<-N,o6]at A;obtain⟨_,_,cs,aC,_,_,aU,aD⟩:=s6 H Ω;simp only[maxLen]at ad;rw[eA al.u ae.i lT gW dZ Ω Ω Ω,m5 Ω];have aE:W6 (λx:Q0=>x.add (q*1)) (σ ⟨g,0,ν⟩)=σ ⟨g,q,ν⟩:=by simp[W5]
  rw[aE];refine xT al.u ae.i rfl rfl aC Ω Ω λaW aG aX aH=>?_;rw[eA al.u ae.i iP mJ dZ Ω Ω Ω,m5 Ω];have aI:W6 (λx:Q0=>x.add (0*1)) (σ ⟨g,0,ν⟩)=σ ⟨g,0,ν⟩:=by simp[W5]
  rw[aI];refine⟨(G.F aG).X λr _=>V r,?_⟩;have aY:(l.filter λx=>!p x).length=q:=by rw[<-A,c7];omega
  rw[<-A,Nat.sub_zero];refine⟨?_,λr O=>by obtain⟨a,_,_,e,aJ⟩:=O;cases e;exact⟨_,_,_,rfl,aJ⟩⟩;refine ao.of (n:=q) ⟨Θ,.inr ⟨s,_,Ξ,aH,Ω,by simp only[maxLen];omega,by rw[gf];omega,?_⟩⟩;rw[V0];apply j5;intro k;by_cases hk:k<q
  .rw[Y5 hk,kw _ _ _ Θ,m5 Ω,ints,x8,Y5 hk];have:(cs.take j)[k]?=(ints .i64 f)[k]?:=by rw[aD]
   rw[Y5 Ω,ints,x8]at this;exact this
  .rw[Z9 Θ,Z9 Θ]
def gQ(s:am)(i:Int)(j:Nat):Bool:=match s.d7[j]? with
 |some f=>decide (f.live≠0)&&decide (i∈f.sc)
 |none=>rs
def cR(s:am)(i:Int)(m:Nat):Λ:=((Z2 m).filter (gQ s i)).map λj:Nat=>(j:Int)
theorem wj{ad:Nat}{A R:ah}{n:aD}{s:am}{t:av}{i:Int}(h:bd w ac ad A R n s t):aj x7 IU [Γ ac,Δ i] w λv I=>Ext w I/\∃g,ao .i64 ae I g v (cR s i s.d7.length)/\∀r,li v r->w.heap.size<=r:=by
 have aC:=qi h.2.1 h.2.2.1;have aE:s.d7.length<=100000000:=by
  have h1:=rE s;have Q:∀(L:List bH),L.length<=(L.flatMap fT).length:=λL=>by
   induction L with
   |nil=>exact p9 _
   |cons a L aG=>rw[U7,p8,Y3];have:(fT a).length=a.cs.length+1:=rfl;omega
  have aH:=Q s.d7;omega
 refine az func32 ?_;refine(tq h).X ?_;rintro _ J _ ⟨rfl,S⟩;refine b2.range s.d7.length (λj out V=>Ext w V/\∃g,ao .i64 ae V g out (cR s i j)/\∀r,li out r->w.heap.size<=r) Ω ⟨S,0,ao.nil _ _ _ _,λr E=>by obtain⟨a,n,c,U,aI⟩:=E;cases U⟩ ?_ ?_
 .rintro j out V W X ⟨q,g,hm,B⟩ Y;obtain⟨f,z⟩:=aF (l:=s.d7) X;have K:cR s i (j+1)=if gQ s i j=ro then cR s i j++[(j:Int)]else cR s i j:=by
   unfold cR;rw[List.range_succ,List.filter_append];cases Z:gQ s i j<;>simp[Z]
  refine bC Ω ?_;refine aV (λout x=>Ext w x/\∃g,ao .i64 ae x g out (cR s i (j+1))/\∀r,li out r->w.heap.size<=r) ?_ ?_
  .rintro out x aa;rw[aM];exact Y _ _ aa
  intro ay M;refine aV (λr x=>r= .bool (gQ s i j)/\Ext V x) ?_ ?_
  .rintro _ x ⟨rfl,e⟩;rw[bU];refine⟨λab=>?_,λz=>M _ _ ⟨q.F e,g,by rw[K,m5 (by rw[z];decide)];exact hm.W e,B⟩⟩;refine dr al.u ae.i rfl λv4 aJ af aL C ag=>?_;have aN:(cR s i j).length<=j:=by unfold cR;rw[o4];have:=List.length_filter_le (gQ s i) (Z2 j);rw[List.length_range]at this;exact this
   refine fU al.u ae.i rfl ((hm.W e).W C) ag.ls Θ Θ λv5 ak aO an ap aq=>?_;have z3:=q.size;have au:=((q.F e).F C).then aq λr E he=>by have:=B r he;omega
   have z4:=((q.F e).F C).size;exact M _ _ ⟨au,ak,by rw[K,m3 ab];exact an,λr E=>(ap r E).elim (B r) λh=>Ω⟩
  intro aQ N;refine(rN (h.W q)).X ?_;rintro _ x _ ⟨rfl,e⟩;rw[m7 Ω,V8,u9];have aw:eL s j=decide (f.live≠0):=by unfold eL;rw[z]
  rw[aw,ai];refine⟨λG=>?_,λG=>N _ _ ⟨by unfold gQ;rw[z];simp only;rw[ms G];rfl,e⟩⟩;obtain⟨aR,aS,aW,aX,aU,aY,L,aZ,aA,a1,a2,a6,O,H⟩:=(h.W (q.F e)).1.parts;obtain⟨y,P⟩:∃y,L[j]?=σ y:=⟨_,x6 (by rw[H.1];omega)⟩;obtain⟨aB,_,_⟩:=H.2 j y f P z;rw[aK bX.p 3 aA rfl,dm rfl fe.u dq.i O (by rw[H.1];omega),aT dq.p rfl,ax Ψ (O.range P 0 _ rfl)];refine(Gu aB.ls).X ?_;rintro _ af _ ⟨rfl,C⟩;exact N _ _ ⟨by unfold gQ;rw[z];simp only;rw[m7 G,V8],e.F C⟩
 .rintro out V W ⟨q,g,hm,B⟩;rw[aP,ai];exact⟨λh=>Ω,λ_=>⟨q,g,hm,B⟩⟩
theorem Gx{full c:List x1}{o q:Nat}{x:x1}(f:∀(k:Nat)y,c[k]?=σ y->full[o+k]?=σ y)(h:o+c.length<=full.length)(j:q<c.length):full.set (o+q) x=over full o (c.set q x):=by
 refine j5 λk=>?_;rw[kw _ _ _ (by rw[U4];exact h),Y4,U4];by_cases h1:o<=k/\k<o+c.length
 .rw[m3 h1,Y4];by_cases a:o+q=k
  .rw[m3 a,m3 Ω,m3 Ω,m3 Ω]
  .rw[m5 a,m5 Ω];have e:k-o<c.length:=Ω
   have:=f (k-o) c[k-o] (x6 e);rw[x6 e,<-this];congr 1;omega
 .rw[m5 h1,m5 Ω]
section
variable{w0 w I:x3}{ac ad ak ga:Nat}{A R:ah}{A9:Nat->ah}{aE:ah}{n:aD}{s u u':am}{t:av}{h:List av}{cs:List x1}{aN aJ nj v:x1}{Q:x1->x3->Prop}
theorem ch.ia(p:ch w ac ad ak A R A9 aE n s u t h cs):(∀i j r,i≠j->A9 i r->¬A9 j r)/\∀i r,A9 i r->¬aE r:=by
 obtain⟨_,_,_,_,_,_,_,_,_,_,_,_,_,a⟩:=p.doc;exact a rfl
theorem ch.R9{T:ah}(p:ch w ac ad ak A R A9 aE n s u t h cs)(y:∀q r,A9 q r->r<w.heap.size)(z:cs[6]?=σ v)(e:af T w I)(f:∀r,r<w.heap.size->T r->A9 3 r)(C:bM (λr=>A9 3 r\/w.heap.size<=r) aE I [v] (u'.d7.map kU))(E:u'.zero=u.zero)(F:u'.d6=u.d6)(G:u'.elims=u.elims):∃cv,ch I ac ad ak A R cv aE n s u' t h cs/\∀q r,cv q r->(∃H,A9 H r)\/w.heap.size<=r:=by
 have J:=cg.kS p.doc (zC e) (λr a=>.inl (f r a.2 a.1)) C (λj r K a=>?_) (λr a=>?_)
 .have x:=zD (w:=w) (A9:=A9) (q:=3) (B:=λr=>A9 3 r\/w.heap.size<=r) λr h=>h;refine⟨_,p.row e f ?_ x,x⟩;have:=cg.pW z J;unfold kl;rw[E,F,G];exact this
 .rcases a with a|a
  .exact p.ia.1 3 j r (Ne.symm K) a
  .exact λh=>by have:=y j r h;omega
 .rcases a with a|a
  .exact p.ia.2 3 r a
  .exact λh=>by have:=(p.read r h).2.1;omega
end
theorem Sa{m:Int}{w:Int}(a:0<=v)(hw:0<=w):dropped (((m.toNat ||| 2 ^ v.toNat:Nat):Int)) w=(dropped m w||decide (w=v)):=by
 unfold dropped;rw[u9,Nat.testBit_or,Nat.testBit_two_pow];congr 1;exact decide_eq_decide.2 ⟨λh=>Ω,λh=>Ω⟩
theorem zE{x:bs}(a:0<=v):aL {x with mask:=((x.mask.toNat ||| 2 ^ v.toNat:Nat):Int)}=(aL x).filter λy=>!decide (y=v):=by
 unfold aL;rw[List.filter_filter];refine List.filter_congr λy e=>?_;obtain⟨q,_,rfl⟩:=o8.1 e;rw[Sa a Ω];cases dropped x.mask (q:Int)<;>simp
section
variable{w0 w I:x3}{ac ad ak ga:Nat}{A R:ah}{A9:Nat->ah}{aE:ah}{n:aD}{s u u':am}{t:av}{h:List av}{cs:List x1}{aN aJ nj v:x1}{Q:x1->x3->Prop}
theorem ch.qv{T:ah}(p:ch w ac ad ak A R A9 aE n s u t h cs)(z:∀q r,A9 q r->r<w.heap.size)(C:cs[3]?=σ v)(e:af T w I)(f:∀r,r<w.heap.size->T r->A9 0 r)(E:bM (λr=>A9 0 r\/w.heap.size<=r) aE I [v] (u'.d6.map aL))(F:u'.zero=u.zero)(G:u'.d6.map (·.un)=u.d6.map (·.un))(H:(u'.d6.map λx=>decide (x.gone≠0))=u.d6.map λx=>decide (x.gone≠0))(J:u'.d7=u.d7)(K:u'.elims=u.elims):
  ∃cv,ch I ac ad ak A R cv aE n s u' t h cs/\∀q r,cv q r->(∃L,A9 L r)\/w.heap.size<=r:=by
 have M:=cg.Gq p.doc (zC e) (λr a=>.inl (f r a.2 a.1)) E (λj r N a=>?_) (λr a=>?_)
 .have y:=zD (w:=w) (B:=λr=>A9 0 r\/w.heap.size<=r) λr h=>h;refine⟨_,p.row e f ?_ y,y⟩;have:=cg.pW C M;unfold kl;rw[F,G,H,J,K];exact this
 .rcases a with a|a
  .exact p.ia.1 0 j r (Ne.symm N) a
  .exact λh=>by have:=z j r h;omega
 .rcases a with a|a
  .exact p.ia.2 0 r a
  .exact λh=>by have:=(p.read r h).2.1;omega
end
section
variable{w0 w I:x3}{ac ad ak ga:Nat}{A R:ah}{A9:Nat->ah}{aE:ah}{n:aD}{s u u':am}{t:av}{h:List av}{cs:List x1}{aN aJ nj v:x1}{Q:x1->x3->Prop}
theorem Sb{F:ah}{c:List x1}{f:bH}(h:bM (α:=kT) F R w c (kU f))(z:∀r,F r->¬R r):∃aJ d9 a1 e,c=[aJ,d9,a1,.bool (decide (f.live≠0))]/\bM e R w [a1] f.cs/\(∀r,e r->F r)/\
  ∀{I:x3}{ck:Λ},af e w I->bM e R I [a1] ck->bM (α:=kT) F R I c (kU {f with cs:=ck}):=by
 obtain⟨ab,ac,A,B,rfl,C,N,O,h1,p⟩:=h;obtain⟨P,ad,aH,Q,rfl,S,E,G,H,T⟩:=h1;obtain⟨U,V,W,q,rfl,X,s,J,K,L⟩:=T;have p:=p;subst p;obtain⟨x,rfl⟩:=X6.1 (show P.length=1 from aq.len H);obtain⟨j,rfl⟩:=X6.1 (show U.length=1 from aq.len K);obtain⟨v3,rfl⟩:=X6.1 (show V.length=1 from aq.len L);have y:∀r,q r->F r:=λr h=>C r (E r (s r h));refine⟨x,j,v3,q,rfl,L,y,λ{I ck}M Y=>?_⟩;refine⟨[x,j,v3],[.bool (decide (f.live≠0))],A,B,rfl,C,N,O,⟨[x],[j,v3],aH,Q,rfl,S,E,G,aq.aa H M λr Z a he=>?_,[j],[v3],W,q,rfl,X,s,J,aq.aa K M λr Z a he=>?_,Y⟩,rfl⟩
 .exact a.elim (λa=>G rfl r a (s r he)) (z r (y r he))
 .exact a.elim (λa=>J rfl r a he) (z r (y r he))
end
section
variable{w:x3}{n:aD}{v:x1}{s:am}
def rU(n:aD)(s:am)(l a:Λ):Prop:=2<=l.length/\l.length=a.length/\qj n s l/\∀(i:Nat)v z,l[i]?=σ v->a[i]?=σ z->n.co.getD v.toNat 0=z
end
structure tv(n:aD)(s:am)(e:iC):Prop where
 has:0<=e.v/\e.v<n.co.length
 there:cf s e.v.toNat=rs
 scope:qj n s e.sc
 out:e.v∉e.sc
 wk:∀f∈s.d7,f.live≠0->e.v∉f.sc
 count:(e.dn.length:Int)=aA (aB n.co e.sc)
 dn:∀b∈e.dn,-1<=b/\b<n.co.getD e.v.toNat 0
theorem Sc{m:Λ}(a:∀x∈m,1<=x)(e:0<=aA l):aA l<=aA (l++m):=by
 induction m generalizing l with
 |nil=>simp
 |cons x m f=>
  have h1:aA l<=aA (l++[x]):=by
   rw[ym];have h:=a x (.head _);have:=Int.mul_le_mul_of_nonneg_left h e;rwa [Int.mul_one]at this
  have:=f (l:=l++[x]) (λy j=>a y (.tail _ j)) Ω;rw[X0]at this;exact Int.le_trans h1 this
section
variable{w:x3}{n:aD}{v:x1}{s:am}
end
section
variable{w:x3}{ac ad:Nat}{A R:ah}{n:aD}{s:am}{t:av}
theorem wm(h:qj n s l):∀x∈l,0<=x/\x<n.co.length:=λx f=>by
 obtain⟨q,a⟩:=c9.1 f;obtain⟨v,e,j,h1,_⟩:=h q (x4.1 a).1;rw[a]at e;cases e;exact⟨j,h1⟩
theorem Gy{bD:x1}(h:bd w ac ad A R n s t)(y:aI .i64 w bD l)(E:∀x∈l,0<=x)(X:l.length<=100000000):aj x7 Lc [Γ ac,bD] w λr I=>Ext w I/\∃g,ao .i64 ae I g r (aB n.co l)/\∀q,li r q->w.heap.size<=q:=by
 refine az func260 ?_;rw[aS al.u y];refine b2.range l.length (λi out V=>Ext w V/\∃g,ao .i64 ae V g out (aB n.co (l.take i))/\∀q,li out q->w.heap.size<=q) y.le ⟨Ext.refl _,0,ao.nil _ _ _ _,λr f=>by obtain⟨a,n,c,G,Y⟩:=f;cases G⟩ ?_ ?_
 .rintro i out V H hi ⟨e,g,hm,j⟩ J;obtain⟨x,z⟩:=aF (l:=l) hi;refine bC Ω ?_;obtain⟨Z,aa,ab,af,aU,ag,L,ah,K,M,ak,am,an,ap⟩:=(h.W e).1.parts;rw[be al.u ae.i Ψ (y.W e) z,aK bX.p 0 K rfl];refine(vM (i:=x) M h.2.2.2.2).X ?_;rintro _ aq _ ⟨B,rfl⟩;rw[m3 (E x (x5 z))];refine dr (k:=.i64) al.u ae.i rfl λv4 au av aw C N=>?_;have ax:(aB n.co (l.take i)).length=i:=by unfold aB;rw[o4,c7];omega
  refine fU al.u ae.i rfl ((hm.W B).W C) N.ls Θ Θ λv5 O P Q S U=>?_;have z3:=e.size;have W:Ext w P:=((e.F B).F C).then U λr f he=>by have:=j r he;omega
  have z4:=((e.F B).F C).size;rw[aM];refine J _ _ ⟨W,O,?_,λr f=>(S r f).elim (j r) λh=>Ω⟩;rw[show aB n.co (l.take (i+1))=aB n.co (l.take i)++[n.co.getD x.toNat 0] by unfold aB;rw[u7,z,l7];rfl];exact Q
 .rintro out V H ⟨e,g,hm,j⟩;rw[aP,ai];rw[o6]at hm;exact⟨λh=>Ω,λ_=>⟨e,g,hm,j⟩⟩
theorem Gz{s:am}{i:Int}:cR s i s.d7.length=[]↔ ∀f∈s.d7,f.live≠0->i∉f.sc:=by
 unfold cR;rw[List.map_eq_nil_iff,List.filter_eq_nil_iff];constructor
 .intro h f e p hm;obtain⟨q,j⟩:=c9.1 e;refine h q (V7.2 (x4.1 j).1) ?_;unfold gQ;rw[j];simp only;rw[m7 p,m7 hm];rfl
 .intro h q j a;unfold gQ at a;cases e:s.d7[q]? with
  |none=>rw[e]at a;cases a
  |some f=>
   rw[e]at a;simp only[V9,pl]at a;exact h f (x5 e) a.1 a.2
theorem Sd{bv:x1}{e:iC}(h:bd w ac ad A R n s t)(U:aI .i64 w aJ e.sc)(aN:aI .i64 w bv e.dn)(bH:e.dn.length<=1000000)(bc:e.sc.length<=100000000):aj x7 Kp [Γ ac,.agg #[Δ e.v,aJ,bv]] w λr I=>(∃b,r= .bool b/\(b=ro↔tv n s e))/\Ext w I:=by
 have aO:=h.2.2.2.1;have bI:=aO.d6;refine az func188 ?_;refine bm λg1 J bJ bf aR=>?_;refine bm λbg V bK aT ap=>?_;have M:=bf.F aT;have N:ag V g1 dB [Γ ac]:=aR.W aT;have B:ag V bg ca [Δ e.v,aJ,bv]:=by
  obtain⟨_,_,_,bi⟩:=cP U;obtain⟨_,_,_,bj⟩:=cP aN;rw[bi,bj]at ap ⊢;exact ap
 have aq:=U.W M;have au:=aN.W M;have O:=h.W M;clear ap aR;refine aV (λr aW=>∃b,r= .bool b/\(b=rs↔(0<=e.v/\e.v<n.co.length)/\cf s e.v.toNat=rs/\(∀f∈s.d7,f.live≠0->e.v∉f.sc)/\qj n s e.sc/\e.v∉e.sc)/\Ext V aW) ?_ ?_
 rotate_left
 .intro ay E;rw[ax (o:=0) Ψ (N.Qz rfl),aQ ca.p 0 B rfl];refine(tn (i:=e.v) O).X ?_;rintro _ aX _ ⟨rfl,G⟩;rw[bA,bU];refine⟨λW=>E _ _ ⟨ro,rfl,⟨(λh=>by cases h),λan=>?_⟩,G⟩,λav=>?_⟩
  .rw[m7 an.1]at W;cases W
  have X:0<=e.v/\e.v<n.co.length:=by simpa using av
  rw[ax (o:=0) Ψ ((N.W G).Qz rfl),aQ ca.p 0 (B.W G) rfl];refine(rM (i:=e.v) (O.W G)).X ?_;rintro _ Y _ ⟨rfl,H⟩;have j:=G.F H;rw[m7 X.1,V8,bU];refine⟨λa=>E _ _ ⟨ro,rfl,⟨(λh=>by cases h),λan=>?_⟩,j⟩,λaw=>?_⟩
  .rw[a]at an;cases an.2.1
  rw[ax (o:=0) Ψ ((N.W j).Qz rfl),aQ ca.p 0 (B.W j) rfl];refine(wj (i:=e.v) (O.W j)).X ?_;rintro bM ah _ ⟨Z,bN,bk,_⟩;have P:=j.F Z;rw[aS al.u bk.ls,bL,ai];refine⟨λa=>E _ _ ⟨ro,rfl,⟨(λh=>by cases h),λan=>?_⟩,P⟩,λa=>?_⟩
  .rw[Gz.2 an.2.2.1]at a;simp at a
  have bl:=Gz.1 (Z0 (l:=cR s e.v s.d7.length) Ω);rw[ax (o:=0) Ψ ((N.W P).Qz rfl),aQ ca.p 1 (B.W P) rfl];refine(F8 (O.W P) (aq.W P)).X ?_;rintro _ aY _ ⟨⟨b,rfl,aZ⟩,bn⟩;have aa:=P.F bn;rw[bA,bU];refine⟨λW=>E _ _ ⟨ro,rfl,⟨(λh=>by cases h),λan=>?_⟩,aa⟩,λav=>?_⟩
  .rw[aZ.2 an.2.2.2.1]at W;cases W
  have ab:=aZ.1 (by simpa using av);rw[aQ ca.p 1 (B.W aa) rfl,aQ ca.p 0 (B.W aa) rfl];refine(Gu (x:=e.v) (aq.W aa)).X ?_;rintro _ bo _ ⟨rfl,af⟩;exact E _ _ ⟨_,rfl,⟨λh=>⟨X,aw,bl,ab,of_decide_eq_false h⟩,λh=>ms h.2.2.2.2⟩,aa.F af⟩
 rintro _ aW ⟨b,rfl,a1,Q⟩;rw[bU];refine⟨λa2=>⟨⟨rs,rfl,⟨(λh=>by cases h),λa=>?_⟩⟩,M.F Q⟩,λbp=>?_⟩
 .rw[a1.2 ⟨a.has,a.there,a.wk,a.scope,a.out⟩]at a2;cases a2
 obtain⟨X,aw,wk,ab,bq⟩:=a1.1 bp;rw[ax (o:=0) Ψ ((N.W Q).Qz rfl),aQ ca.p 1 (B.W Q) rfl];refine(Gy (O.W Q) (aq.W Q) (λx K=>(wm ab x K).1) bc).X ?_;rintro bO aX _ ⟨G,gz,ak,_⟩;obtain⟨L,S⟩:∃L,L=aB n.co e.sc:=⟨_,rfl⟩;rw[<-S]at ak;have a6:=Q.F G;have bP:L.length=e.sc.length:=by rw[S];unfold aB;rw[o4]
 have aC:∀x∈L,1<=x/\x<=32:=λx K=>by
  rw[S]at K;unfold aB at K;obtain⟨v,br,rfl⟩:=o8.1 K;obtain⟨bQ,h1⟩:=wm ab v br;obtain⟨z,am⟩:=aF (l:=n.co) (i:=v.toNat) Ω;rw[u5,am];exact aO.c5.2.2 z (x5 am)
 have bs:∀q,0<=aA (L.take q):=λq=>by
  induction q with
  |zero=>simp[aA]
  |succ q aD=>
   cases aE:L[q]? with
   |none=>
    have:=List.getElem?_eq_none_iff.1 aE;rw[n9 Ω];rw[n9 Ω]at aD;exact aD
   |some x=>
    rw[q1 aE];exact Int.mul_nonneg aD (by have:=(aC x (x5 aE)).1;omega)
 have bt:∀q,aA (L.take q)<=aA L:=λq=>by
  have:=Sc (l:=L.take q) (m:=L.drop q) (λx K=>(aC x (List.mem_of_mem_drop K)).1) (bs q);rwa [List.take_append_drop]at this
 rw[aS al.u ak.ls];refine k8.range L.length (λi _ bu Y=>Ext aX Y/\∃m:Int,bu=Δ m/\m=aA (L.take i)/\0<=m/\m<=1000000) ak.ls.le ⟨Ext.refl _,1,rfl,rfl,Ω,Ω⟩ ?_ ?_
 .rintro i t4 _ Y bw hi ⟨H,m,rfl,hm,a7,a8⟩ bx;obtain⟨z,aG⟩:=aF (l:=L) hi;have bz:=aC z (x5 aG);have j:=a6.F H;have bR:0<=m*z/\m*z<=1000000*32:=⟨Int.mul_nonneg a7 Ω,Int.mul_le_mul a8 bz.2 Ω Ω⟩;have bB:aA (L.take (i+1))=m*z:=by rw[q1 aG,hm]
  refine bC Ω ?_;rw[be al.u ae.i Ψ (ak.ls.W H) aG,iO,lm Ω Ω,
   aQ ca.p 2 (B.W j) rfl,aS al.u (au.W j),bL,ai]
  refine⟨λbS=>⟨⟨rs,rfl,⟨(λh=>by cases h),λa=>?_⟩⟩,M.F j⟩,λbT=>?_⟩
  .have h1:=a.count;rw[<-S]at h1;have:=bt (i+1);omega
  .rw[aM];exact bx _ _ _ ⟨H,_,rfl,bB.symm,Ω,Ω⟩
 rintro t4 _ Y bw ⟨H,m,rfl,hm,a7,a8⟩;rw[o6]at hm;have j:=a6.F H;have ba:=B.W j;obtain⟨z,am⟩:=aF (l:=n.co) (i:=e.v.toNat) Ω;have aH:n.co.getD e.v.toNat 0=z:=by rw[u5,am];rfl
 refine ci Ω ?_;rw[j1];refine aV (λr ah=>r= .bool (decide (m=e.dn.length/\∀b∈e.dn,-1<=b/\b<z))/\Ext Y ah) ?_ ?_
 .rintro _ ah ⟨rfl,Z⟩;refine⟨⟨_,rfl,⟨λao=>?_,λa=>?_⟩⟩,M.F (j.F Z)⟩
  .have ao:=rc ao;exact⟨X,aw,ab,bq,wk,by rw[<-S,<-hm];exact ao.1.symm,λb C=>by rw[aH];exact ao.2 b C⟩
  .have h1:=a.count;rw[<-S,<-hm]at h1;exact m7 ⟨h1.symm,λb C=>by have:=a.dn b C;rwa [aH]at this⟩
 intro ay E;rw[aQ ca.p 2 ba rfl,aS al.u (au.W j),bh,ai];refine⟨λhe=>?_,λbD=>E _ _ ⟨by rw[ms λh=>bD h.1],Ext.refl _⟩⟩;rw[aQ ca.p 2 ba rfl];refine(R8 (p:=λb=>decide (¬(-1<=b/\b<z))) (au.W j) λI y bE bV=>?_).X ?_
 .refine az func261 ?_;refine aV (λr aY=>r= .bool (decide (¬(-1<=y/\y<z)))/\Ext I aY) (λ_ _ h=>h) λbW bb=>?_;intro bo af _ _;have aL:=j.F (bE.F af);rw[aP,ai];refine⟨λbY=>bb _ _ ⟨by rw[m7 Ω],af⟩,λbZ=>?_⟩;obtain⟨b0,b1,b2,b3,aU,b4,b5,b6,C,bF,b7,b8,b9,cb⟩:=(O.W aL).1.parts;rw[ax (o:=0) Ψ ((N.W aL).Qz rfl),aK bX.p 0 C rfl,aQ ca.p 0 (B.W aL) rfl];refine(vM (i:=e.v) bF h.2.2.2.2).X ?_;rintro _ cc _ ⟨bG,rfl⟩;rw[m3 X.1,aH,cI];refine bb _ _ ⟨?_,af.F bG⟩;congr 1;exact decide_eq_decide.2 ⟨λh=>Ω,λh=>Ω⟩
 rintro _ ah _ ⟨rfl,Z⟩;rw[bA];refine E _ _ ⟨?_,Z⟩;congr 1;rw[T1];simp only[Bool.not_eq_true',List.any_eq_false,pl,Z6];exact⟨λan=>⟨he,λb C=>an b C⟩,λan b C=>an.2 b C⟩
end
theorem GA{bv:x1}{dn:Λ}(U:aI .i64 w aJ sc)(C:aI .i64 w bv dn)(h1:sc.length<=1000000)(Q:dn.length<=1000000):
  aj x7 Jw [.agg #[Δ v,aJ,bv]] w λr I=>Ext w I/\∃E G g1 H,r= .agg #[Δ v,E,G]/\w.heap.size<=g1/\w.heap.size<=H/\ao .i64 ae I g1 E sc/\ao .i64 ae I H G dn:=by
 refine az func104 ?_;refine bm λge J ad K L=>?_;have R:ag J ge ca [Δ v,aJ,bv]:=by
  obtain⟨_,_,_,q⟩:=cP U;obtain⟨_,_,_,S⟩:=cP C;rw[q,S]at L ⊢;exact L
 refine bx ca.i λgr V af M N=>?_;intro ah s _ _;have O:=M.F s;have e:=K.F O;have x:=R.W O;rw[aQ ca.p 0 x rfl,aQ ca.p 1 x rfl,aQ ca.p 2 x rfl];refine(j3 (U.W e) h1).X ?_;rintro y ai _ ⟨a,W,ak,f⟩;refine⟨.inl a,?_⟩;refine(j3 ((C.W e).W a) Q).X ?_;rintro z al _ ⟨h,X,am,j⟩;refine⟨.inl (a.F h),?_⟩;have z3:=e.size;have z4:=a.size;have Y:=f.W h;rw[dw (cs:=#[Δ v,y,z]) (by obtain⟨_,_,_,rfl⟩:=cP f.ls;obtain⟨_,_,_,rfl⟩:=cP j.ls;kernel_rfl)];have Z:=((N.W s).W a).W h;have an:=M.size;have ap:=N.lt;have aq:=s.size;refine cb (vs:=[Δ v,y,z]) ca.i rfl rfl ?_ Z λaa A au ab=>?_
 .intro u P;simp at P;rcases P with rfl|rfl|rfl
  .rfl
  .exact f.ls.cells.2
  .exact j.ls.cells.2
 rw[fD ca.p ca.i rfl ab.range];have av:=K.size;have ac:Ext w aa:=((e.F a).F h).put A Ω;refine⟨ac,y,z,W,X,rfl,Ω,Ω,bk Y A λr B he=>?_,bk j A λr B he=>?_⟩
 .have he:r=gr:=he;obtain⟨q,_⟩:=bE f B;omega
 .have he:r=gr:=he;obtain⟨q,_⟩:=bE j B;omega
def og(s:am)(e:iC):am:=match s.d6[e.v.toNat]? with
 |some x=>{s with elims:=s.elims++[e],d6:=s.d6.set e.v.toNat {x with gone:=1}}
 |none=>s
section
variable{w:x3}{ac ad:Nat}{A R:ah}{n:aD}{s:am}{t:av}
theorem Se{bv:x1}{e:iC}(h:bd w ac ad A R n s t)(ab:t.olds.length+2<=100000000)(U:aI .i64 w aJ e.sc)(aB:aI .i64 w bv e.dn)(bb:e.dn.length<=1000000)(bQ:e.sc.length<=1000000)(cX:s.elims.length<=1000000):
  aj x7 Jn [Γ ac,.agg #[Δ e.v,aJ,bv]] w λr I=>(¬tv n s e->r=Δ 1/\Ext w I)/\
   (tv n s e->r=Δ 0/\af (du w) w I/\∃aH R' x y p,Grow A w aH I/\bd I ac ad aH R' n (og s e) ((t.set 2 x).set p y)/\(∀r,R r->R' r)/\∀r,R' r->R r\/w.heap.size<=r):=by
 obtain⟨_,bc,be,G,bS⟩:=id h;refine az func95 ?_;refine bm λge J cY ai bf=>?_;have aC:ag J ge ca [Δ e.v,aJ,bv]:=by
  obtain⟨_,_,_,bT⟩:=cP U;obtain⟨_,_,_,bV⟩:=cP aB;rw[bT,bV]at bf ⊢;exact bf
 rw[cW dB.u];simp only[j0,aX];rw[bB ca.p ca.i rfl aC.range];refine(Sd (h.W ai) (U.W ai) (aB.W ai) bb Ω).X ?_;rintro _ V _ ⟨⟨b,rfl,bg⟩,aD⟩;have bh:=ai.F aD;rw[bA,bU];refine⟨λak=>⟨λ_=>⟨by trivial,bh⟩,λbW=>?_⟩,λbY=>?_⟩
 .rw[bg.2 bW]at ak;cases ak
 have an:tv n s e:=bg.1 (by simpa using bY);intro cZ aE _ _;have Q:=bh.F aE;obtain⟨aF,aG,aL,aM,bi⟩:=(h.W Q).1;obtain⟨_,_,_,_,_,c0,_,_,B,_⟩:=id bi;rw[aK bX.p 4 B rfl,bB ca.p ca.i rfl ((aC.W aD).W aE).range];refine(GA (U.W Q) (aB.W Q) bQ bb).X ?_;rintro _ c1 _ ⟨aN,aO,aP,g1,c2,rfl,c3,c4,bj,bl⟩;refine⟨.inl aN,?_⟩;let a:qe:=⟨e.v,aO,aP⟩;have bZ:∀u∈kg a,u.oneCell'=ro:=by
  intro u bn;simp[kg]at bn;rcases bn with rfl|rfl|rfl
  .rfl
  .exact bj.ls.cells.2
  .exact bl.ls.cells.2
 refine iV (f:=kg) (a:=a) jB.u ca.i Ω rfl rfl λv5 c6 M c7 ap b0=>?_;have W:=aN.F ap;refine⟨.inl W,?_⟩;have b1:=bi.W W;obtain⟨⟨bo,bp,c8,bq⟩,aU,b2,c9,L,E,b3,w0,B,⟨b4,b5,br⟩,⟨b6,bs,bu,H⟩,aR,⟨aS,b7⟩,N,aq⟩:=id b1;have bw:E.length=s.elims.length:=aq.1;refine jo (f:=kg) (a:=a) jB.u ca.i rfl N (by simpa using b0.sl) bZ Ω Ω λaV b8 da X b9 aW=>?_;have bx:=B.aa aW λhe=>cO N B Φ he;rw[bR,aT bX.p rfl];refine bt jB.i (eJ X.sl).1 (eJ X.sl).2 bx Ξ λK aZ db a1=>?_;have a1:ag K ac bX [Γ aF,Γ ad,aG,aL,aV]:=a1;have z:af (λr=>lc aM r\/r=ac) M K:=(aW.X λr _ h=>.inl h).F (aZ.X λr _ h=>.inr h);have cb:af (du M) M K:=z.X λr _ q=>by
  rcases q with q|rfl
  .obtain⟨_,c,Y⟩:=dN N q;exact .inl ⟨_,c,‹r=_› ▸Y,Φ⟩
  .exact .inl ⟨_,_,B,Φ⟩
 have z3:=Q.size;have z4:=aN.size;have z5:=ap.size;have dc:=z.size;have dd:=aW.size;have de:=aZ.size;have au:∀r,(lc aM r\/r=ac)->A r:=λr q=>q.elim (λq=>(H r (.inr (.inr q))).1) λq=>q▸bo;have a2:∀r,(lc aM r\/r=ac)->¬R r:=λr q=>bp r (au r q);obtain⟨bz,a6⟩:(∀r,R r->r<w.heap.size)/\∀r,A r->r<w.heap.size:=by obtain⟨_,_,_,_,⟨_,_,cc,cd⟩,_⟩:=h.1;exact⟨cc,cd⟩
 have bC:=(bj.W ap);have bD:=(bl.W ap);have S:∀r,li aO r\/li aP r->w.heap.size<=r/\r<M.heap.size:=λr q=>by
  rcases q with q|q
  .obtain⟨h1,bF⟩:=bE bC q;omega
  .obtain⟨h1,bF⟩:=bE bD q;omega
 let aw:ah:=λr=>A r\/(M.heap.size<=r/\r<K.heap.size);let O:ah:=λr=>R r\/li aO r\/li aP r;have bG:∀{v:x1}{bH:Nat}{l:Λ},ao .i64 ae M bH v l->(∀r,li v r->w.heap.size<=r)->ao .i64 ae K bH v l:=λhm ce=>bk hm z λr q U=>by
  have:=a6 r (au r U);have:=ce r q;omega
 have cf:eS K ac ad aF aG aL aV aw O n {s with elims:=s.elims++[e]} t:=by
  refine⟨⟨.inl bo,λr q C=>?_,λr q=>?_,λr q=>q.elim (λq=>by have:=bq r q;omega) And.right⟩,aU,b2,b8,L,E++[a],b3,w0,a1,⟨b4,tg b5 z λr o q ab U=>a2 r U (br r o q ab),λr o q ab=>.inl (br r o q ab)⟩,⟨b6.aa z λr q U=>?_,λr q=>.inl (bs r q),bu,λr q=>?_⟩,?_,⟨aS.aa z λr q U=>?_,?_⟩,X.aa aZ λr q he=>?_,?_⟩
  .rcases q with q|q
   .rcases C with C|C
    .exact bp r q C
    .have:=S r C;have:=a6 r q;omega
   .rcases C with C|C
    .have:=bz r C;omega
    .have:=S r C;omega
  .rcases q with q|q
   .have:=bz r q;omega
   .have:=S r q;omega
  .rcases U with U|rfl
   .exact (H r (.inr (.inr U))).2 q
   .exact bu q
  .rcases q with q|q|q
   .exact⟨.inl (H r (.inl q)).1,(H r (.inl q)).2⟩
   .exact⟨.inl (H r (.inr (.inl q))).1,(H r (.inr (.inl q))).2⟩
   .obtain⟨h1,bF⟩:=X.li q;rcases b9 r q with h|h
    .exact⟨.inl (H r (.inr (.inr h))).1,(H r (.inr (.inr h))).2⟩
    .refine⟨.inr ⟨h,Ω⟩,λcg=>?_⟩;have:=bq r (bs r cg);omega
  .exact bk aR z λr q U=>by
    rcases U with U|rfl
    .obtain⟨rfl,c,Y⟩:=dN N U;exact cj aR Y Φ q rfl
    .exact cj aR B Φ q rfl
  .rcases U with U|rfl
   .obtain⟨rfl,c,Y⟩:=dN N U;exact cO aS Y Φ q
   .exact cO aS B Φ q
  .exact (l5.aa b7 z λr _ q U=>a2 r U q).X λr q=>.inl q
  .have he:r=ac:=he;subst he;exact cO X bx Φ q
  .refine⟨by rw[p8,bw];simp,λj x f ax P=>?_⟩;have P:(s.elims++[e])[j]?=σ f:=P;by_cases ch:j<s.elims.length
   .rw[W8 Ω]at ax;rw[W8 ch]at P;exact((nb.aa aq z λr _ q U=>a2 r U q).X (R':=O) λr q=>.inl q).2 j x f ax P
   .have bI:j=s.elims.length:=by have:=(x4.1 P).1;simp at this;omega
    rw[Y9 Ω,bw,bI,U5]at ax;rw[Y9 Ω,bI,U5]at P;cases ax;cases P;exact⟨rfl,⟨⟨_,bG bC λr q=>(S r (.inl q)).1⟩,λr q=>.inr (.inl q)⟩,⟨_,bG bD λr q=>(S r (.inr q)).1⟩,λr q=>.inr (.inr q)⟩
 have ci:Grow A w aw K:=(Grow.W (Q.F W)).F ⟨z.X λr _ q=>au r q,λr q=>q.imp id And.left,λr q=>.inl q⟩;have ck:af (du w) w K:=gA (Q.F W) cb;have cl:∀r,O r->R r\/w.heap.size<=r:=λr q=>q.imp id λq=>(S r q).1;have cm:∀r,aw r->A r\/M.heap.size<=r:=λr q=>q.imp id And.left;have cn:∀r,R r->O r:=λr q=>.inl q
 clear_value aw O
 intro df ay _ _;have bJ:=cf.W ay;obtain⟨_,_,_,_,_,cp,_,_,B,_,_,_,_,N,aq⟩:=id bJ;have cq:cp.length=s.elims.length+1:=by rw[aq.1];simp
 rw[aK bX.p 1 B rfl,aK bX.p 4 B rfl,e3 jB.u N,cq];obtain⟨dg,cr,ct⟩:=bJ.vQ;have cu:t.cells.length=s.cells.length:=by rw[<-bc];simp[av.bO]
 have cw:2<t.cells.length:=by rw[cu,rE];omega
 refine(tf (i:=2) (y:=2) cr rfl cw be).X ?_;rintro _ bK _ ⟨rfl,cz,cA,cB⟩;obtain⟨cC,A9,bL,cD⟩:=ct cz bK _ cA cB;have cE:m9 (t.set 2 ((s.elims.length+1:Nat):Int)):=be.set (.inr Ω) _ _;have cF:bd bK ac ad A9 O n {s with elims:=s.elims++[e]} (t.set 2 ((s.elims.length+1:Nat):Int)):=
  ⟨⟨aF,aG,aL,aV,cD⟩,by rw[av.q6,bc];exact Qv e,cE,⟨G.dH,G.c5,G.zero,G.d6,G.var,G.d7⟩,bS⟩
 intro cG aA _ _;have a7:=cF.W aA;obtain⟨dh,di,dj,dk,dl,dm,dp,dq,bM,dr,ds,cH,dt,dv⟩:=a7.1.parts;have dw:=G.d6;obtain⟨x,Z⟩:∃x,s.d6[e.v.toNat]?=σ x:=⟨_,x6 (by have:=an.has;omega)⟩;have cI:e.v=((e.v.toNat:Nat):Int):=by have:=an.has;omega
 have cJ:=(x4.1 Z).1;have bN:=((aC.W aD).W aE).W W;have dx:=bN.lt;have bP:¬A ge:=λcK=>by have:=a6 ge cK;omega
 have cL:ag cG ge ca [Δ e.v,aJ,bv]:=(((bN.aa z λU=>bP (au ge U)).W ay).aa bL.1 λU=>(cm ge U).elim bP λh=>Ω).W aA;rw[aK bX.p 1 bM rfl,aK bX.p 2 bM rfl,aQ ca.p 0 cL rfl,fm (y:=e.v) (i:=e.v.toNat) cI al.u ae.i Ψ cH.ls (rL cJ)];have a8:og s e={({s with elims:=s.elims++[e]}:am)with d6:=s.d6.set e.v.toNat {x with gone:=1}}:=by
  unfold og;rw[Z]
 have dy:=tm (s:=({s with elims:=s.elims++[e]}:am)) (i:=e.v.toNat) (x:=x) Z;have ba:({s with elims:=s.elims++[e]}:am).d6[e.v.toNat]?=σ x:=Z;obtain⟨dz,cM,cN⟩:=G.var e.v.toNat x _ Z (x6 (show e.v.toNat<n.co.length by have:=an.has;omega));have dA:=av.y4 t 2 ((s.elims.length+1:Nat):Int);refine(vV (p:=gN ({s with elims:=s.elims++[e]}:am) e.v.toNat+0) (s':=og s e) a7 (by rfl) Ω ?_ ?_ ?_ (.inr Ω)).X ?_
 .rw[a8,yZ ba Ω];rfl
 .rw[a8];exact ti ba rfl
 .rw[a8];exact aY.ts (s:=({s with elims:=s.elims++[e]}:am)) a7.2.2.2.1 ba rfl cM cN
 rintro _ cQ _ ⟨rfl,cR,cS,cT,cU⟩;have cV:af (du w) w cQ:=nc ck (gA ay (nc cC (gA aA cR)));exact⟨λak=>m6 an ak,λ_=>⟨rfl,cV,cS,O,_,_,_,ci.F ((Grow.W ay).F (bL.F ((Grow.W aA).F cT))),cU,cn,cl⟩⟩
end
theorem wn{n:aD}{s:am}{f:Λ}:rU n s sc f↔2<=sc.length/\qj n s sc/\f=aB n.co sc:=by
 unfold rU aB;constructor
 .rintro⟨h1,p,h,j⟩;refine⟨h1,h,j5 λi=>?_⟩;rw[x8];by_cases hi:i<sc.length
  .obtain⟨v,e⟩:=aF (l:=sc) hi;obtain⟨z,a⟩:=aF (l:=f) (i:=i) Ω;rw[e,a,Z4,j i v z e a]
  .rw[Z9 Ω,Z9 Ω];rfl
 .rintro⟨h1,h,rfl⟩;refine⟨h1,by rw[o4],h,λi v z e a=>?_⟩;rw[x8,e,Z4]at a;exact Z7 a
theorem Sf{n:aD}{s:am}(h:qj n s l):l.Pairwise (·< ·):=by
 have step:∀i x y,l[i]?=σ x->l[i+1]?=σ y->x<y:=λi x y e a=>by
  obtain⟨v,f,_,_,_,q⟩:=h (i+1) (x4.1 a).1;rw[a]at f;cases f;have:=q Ω;rwa [Nat.add_sub_cancel,u5,e]at this
 have all:∀d i x y,l[i]?=σ x->l[i+d+1]?=σ y->x<y:=λd=>by
  induction d with
  |zero=>exact step
  |succ d r=>
   intro i x y e a;obtain⟨z,p⟩:∃z,l[i+d+1]?=σ z:=⟨_,x6 (by have:=(x4.1 a).1;omega)⟩;exact Int.lt_trans (r i x z e p) (step _ z y p a)
 rw[X9];intro i j hi w A;exact all (j-i-1) i _ _ (x6 hi) (by rw[show i+(j-i-1)+1=j by omega];exact x6 w)
section
variable{w:x3}{ac ad:Nat}{A R:ah}{n:aD}{s:am}{t:av}
theorem Sg{C:x1}{cs:Λ}{g K:Nat}(h:bd w ac ad A R n s t)(z:aI .i64 w aJ sc)(Z:∀r,li aJ r->¬A r)(y:ce w g K C szs n.k cs)(aa:¬A g/\¬A K/\∀r,li C r->¬A r)(ab:sc.length<=6)(ae:∀c∈cs,0<=c/\c<=n.k)(ag:t.cells.length+cs.length+1<=100000000)(be:t.olds.length+cs.length+2<=100000000)(e:s.d7.length<=1000000):
  aj x7 Kr [Γ ac,aJ,Γ g] w λr I=>(¬rU n s sc szs->r= .tuple #[Δ 0,Δ 1]/\Ext w I)/\
   (rU n s sc szs->r= .tuple #[Δ (s.d7.length:Int),Δ 0]/\af (du w) w I/\∃aH R',Grow A w aH I/\bd I ac ad aH R' n (gO s sc szs cs) (oa s t cs)/\(∀r,R r->R' r)/\∀r,R' r->R r\/li C r\/w.heap.size<=r):=by
 obtain⟨_,q,L,j,ah⟩:=id h;refine az func191 ?_;rw[cW dB.u];simp only[j0,aX];refine aV (λv J=>∃b,v= .bool b/\(b=rs↔rU n s sc szs)/\Ext w J) ?_ ?_
 rotate_left
 .intro ay E;rw[aS al.u z,aP,ai];refine⟨λbf=>E _ _ ⟨ro,rfl,⟨(λh=>by cases h),λh=>by have:=h.1;omega⟩,Ext.refl _⟩,λbg=>?_⟩;refine(F8 h z).X ?_;rintro _ J _ ⟨⟨b,rfl,M⟩,a⟩;rw[bA,bU];refine⟨λB=>E _ _ ⟨ro,rfl,⟨(λh=>by cases h),λh=>by rw[M.2 h.2.2.1]at B;cases B⟩,a⟩,λak=>?_⟩;have p:=M.1 (by simpa using ak);rw[cW dv.u];simp only[j0,aX];refine(yn (y.W a)).X ?_;rintro _ V _ ⟨rfl,am⟩;have N:=a.F am;refine(nh (h.W N)).X ?_;rintro _ bh _ ⟨rfl,an⟩;have O:=N.F an;rw[bJ,ai];refine⟨λao=>m6 rfl ao,λ_=>?_⟩;refine(nY (y.W O)).X ?_;rintro _ bi _ ⟨rfl,ap⟩;have P:=O.F ap;obtain⟨⟨a1,gs,_,aq,_⟩,_,au,_⟩:=id y;refine(vd (aq.ls.W P) (by have:=au.1;omega)).X ?_;rintro v5 bj _ ⟨aw,bk,bl,ax⟩;have G:=P.F aw;refine(Gy (h.W G) (z.W G) (λx aA=>(wm p x aA).1) Ω).X ?_;rintro bm bn _ ⟨Q,bo,aB,_⟩;refine(uK (ax.ls.W Q) aB.ls).X ?_;rintro _ bp _ ⟨rfl,aC⟩;rw[bA];exact E _ _ ⟨_,rfl,⟨λh=>wn.2 ⟨Ω,p,by simpa using h⟩,λh=>by rw[m7 (wn.1 h).2.2];rfl⟩,(G.F Q).F aC⟩
 rintro _ J ⟨b,rfl,S,a⟩;rw[bU];refine⟨λU=>⟨λ_=>⟨by trivial,a⟩,λp=>by rw[S.2 p]at U;cases U⟩,λaD=>?_⟩;have p:=S.1 aD;obtain⟨aE,W,H⟩:=wn.1 p;obtain⟨aF,aG,bq,aK,aL⟩:=(h.W a).1;refine(Fw aL q (z.W a) Z (y.W a) aa Ω ag Ω L.2.2 e).X ?_;rintro _ V _ ⟨rfl,aM,aH,R',aN,aO,aQ,aR,aT⟩;obtain⟨_,⟨_,_,aU⟩,br,aW⟩:=id y;have aZ:=y6 t (1::cs) (1::cs).length;have a2:=vO t (1::cs) (1::cs).length;have a6:=rG t (1::cs) (1::cs).length;simp only[Y3]at aZ a2;obtain⟨a7,a8,X⟩:=R5 (t:=l6 t (1::cs)) (i:=1) (x:=((s.d7.length+1:Nat):Int));have ba:m9 (oa s t cs):=by
  refine⟨?_,?_,?_⟩
  .show (av.set _ _ _).cells.length<=_;rw[a8];unfold l6;simp only[Y3];omega
  .show (av.set _ _ _).olds.length<=_;unfold l6 at X ⊢;simp only[Y3]at X ⊢;omega
  .show (av.set _ _ _).marks.length<=_;rw[a7];unfold l6;rw[a6];exact L.2.2
 have Y:=wm W;have bb:aY n.k n.co (gO s sc szs cs):=by
  refine⟨j.dH,j.c5,j.zero,j.d6,j.var,λf e=>?_⟩;have e:f∈s.d7++[(⟨sc,szs,1,cs⟩:bH)]:=e;rcases o9.1 e with e|e
  .exact j.d7 f e
  .obtain rfl:=b8.1 e;exact⟨⟨⟨λv q=>by have:=Y v q;have:=j.c5.2.1;omega,ab⟩,Sf W,λv q=>(Y v q).2,by rw[<-H];exact aW,by rw[<-H];exact aU,ae⟩,H,aE⟩
 have bs:=a.size;exact⟨λB=>m6 p B,λ_=>⟨by trivial,gA a aM,aH,R',(Grow.W a).F aO,⟨⟨aF,aG,aN,aK,aQ⟩,Fv q,ba,bb,ah⟩,aR,λr bc=>(aT r bc).imp id λh=>h.imp id λh=>Ω⟩⟩
end
theorem cd.d6{s:am}{i:Nat}{x y:bs}(h:cd s)(r:s.d6[i]?=σ x)(w:y.gone=x.gone):cd {s with d6:=s.d6.set i y}:=λf j p v q z a=>by
 have a:(s.d6.set i y)[v.toNat]?=σ z:=a;rw[Y4]at a;split at a
 .rename_i e;split at a
  .cases a;subst e;rw[w];exact h f j p v q x r
  .cases a
 .exact h f j p v q z a
theorem cd.d7{s:am}{f g:bH}(h:cd s)(q:s.d7[j]?=σ f)(U:g.sc=f.sc)(r:g.live≠0->f.live≠0):cd {s with d7:=s.d7.set j g}:=λx a e v w z p=>by
 rcases T8 a with a|rfl
 .exact h x a e v w z p
 .exact h f (x5 q) (r e) v (by grind) z p
structure ja where
 kind:Nat
 i:Int
 pos:Int
 v:Int
 c:Int
def eF(s:am)(i v:Int):Option bs:=if 0<=i then match s.d6[i.toNat]? with
 |some x=>if x.gone=0/\v∈aL x then σ x else ν
 |none=>ν else ν
def eU(s:am)(j pos v:Int):Option (bH×Int×bs):=if 0<=j/\0<=pos then match s.d7[j.toNat]? with
 |some f=>if f.live≠0 then match f.sc[pos.toNat]? with
  |some u=>(eF s u v).map λx=>(f,u,x)
  |none=>ν
  else ν
 |none=>ν else ν
def oh(k:Int)(s:am)(f:bH)(pos:Nat)(v:Int):Int:=((cQ s f.sc pos v).map (bg f.szs f.cs)).foldl min k
def eg(k c most:Int):Int:=if¬(0<=c/\c<=k)then 3 else if most<c then 7 else 0
def lD(x:bs):Int:=match(aL x).map λv=>x.un.getD v.toNat 0 with
 |[]=>-1
 |c::l=>l.foldl min c
def gR(s:am)(i:Nat)(v:Int):Λ->am
 |[]=>s
 |w::L=>gR (if w≠v then eD s i w.toNat else s) i v L
def cK(k:Int)(s:am)(a:ja):am×Int:=
 if a.kind=0 then match eU s a.i a.pos a.v with
  |none=>(s,1)
  |some (f,u,x)=>if eg k a.c (oh k s f a.pos.toNat a.v)≠0 then(s,eg k a.c (oh k s f a.pos.toNat a.v))else(kk s a.i.toNat f a.pos.toNat u.toNat x a.v (λg=>dV k g a.c) λg=>dW k g a.c,0)
 else if a.kind=1 then match eU s a.i a.pos a.v with
  |none=>(s,1)
  |some (f,u,x)=>if eg k a.c (x.un.getD a.v.toNat 0)≠0 then(s,eg k a.c (x.un.getD a.v.toNat 0))else(kk s a.i.toNat f a.pos.toNat u.toNat x a.v (λg=>dW k g a.c) λg=>dV k g a.c,0)
 else if a.kind=2 then match(if 0<=a.i then s.d6[a.i.toNat]? else ν)with
  |none=>(s,1)
  |some x=>if x.gone≠0 then(s,1)else if eg k a.c (lD x)≠0 then(s,eg k a.c (lD x))else(mh s a.i.toNat x (λg=>dV k g a.c) λg=>dW k g a.c,0)
 else if a.kind=3 then match(if 0<=a.i then s.d6[a.i.toNat]? else ν)with
  |none=>(s,1)
  |some x=>if x.gone≠0 then(s,1)else if eg k a.c (if aL x=[]then-1 else s.zero)≠0 then(s,eg k a.c (if aL x=[]then-1 else s.zero))else(mh s a.i.toNat x (λg=>dW k g a.c) λg=>dV k g a.c,0)
 else if a.kind=4 then match eF s a.i a.v with
  |none=>(s,1)
  |some x=>if dW k s.zero (x.un.getD a.v.toNat 0)<k then(s,7)else(eD s a.i.toNat a.v.toNat,0)
 else match eF s a.i a.v with
  |none=>(s,1)
  |some x=>(gR s a.i.toNat a.v (aL x),0)
theorem tw:∀(l:Λ)(z c:Int),c<=l.foldl min z↔c<=z/\∀x∈l,c<=x
 :=by
 intro a;induction a<;>grind
theorem pc(h:¬eg k c most≠0):(0<=c/\c<=k)/\c<=most:=by
 grind [eg]
theorem mj{s:am}{i:Int}{x:bs}(h:eF s i v=σ x):0<=i/\s.d6[i.toNat]?=σ x/\x.gone=0/\v∈aL x:=by
 grind [eF]
theorem pd{s:am}{j pos u:Int}{f:bH}{x:bs}(h:eU s j pos v=σ (f,u,x)):0<=j/\0<=pos/\s.d7[j.toNat]?=σ f/\f.live≠0/\f.sc[pos.toNat]?=σ u/\eF s u v=σ x:=by
 unfold eU at h;split at h
 .rename_i a;split at h
  .rename_i g e;split at h
   .rename_i p;split at h
    .rename_i w hw;cases q:eF s w v<;>grind
    .cases h
   .cases h
  .cases h
 .cases h
section
variable{k:Int}{co a:Λ}{s:am}
theorem pe{g:Int}(a:0<=g/\g<=k)(e:0<=c/\c<=g):0<=dV k g c/\dV k g c<=k:=by
 grind [dV]
theorem pf{g:Int}(a:0<=g/\g<=k)(e:0<=c):0<=dW k g c/\dW k g c<=k:=by
 grind [dW]
theorem jr{u:Nat}{v:Nat}{x:bs}(a:aY k co s)(e:s.d6[u]?=σ x):0<=x.un.getD v 0/\x.un.getD v 0<=k:=by
 have hk:=a.dH;have f:=(x4.1 e).1;have h:=a.d6;exact zv Ω (a.var u x _ e (x6 Ω)).2.1
theorem qw{f:bH}(a:aY k co s)(e:f∈s.d7):0<=bg f.szs f.cs t/\bg f.szs f.cs t<=k:=(qb a.dH λc h=>⟨a.dH,(a.d7 f e).1.gM c h⟩).2
theorem zF{x:bs}(h:v∈aL x)(a:c<=lD x):c<=x.un.getD v.toNat 0:=by
 unfold lD at a;have hm:x.un.getD v.toNat 0∈(aL x).map λv=>x.un.getD v.toNat 0:=by grind
 grind [tw]
theorem tx{i:Nat}{v:Int}{x:bs}:∀(L:Λ)(s:am),aY k co s->s.d6[i]?=σ x->(∀w∈L,0<=w/\w<x.un.length)->aY k co (gR s i v L)/\(cd s->cd (gR s i v L))/\
  ∀bw,eK s a->x.gone=0->a[i]?=σ bw->dO k (gR s i v L) a=if bw∈L/\bw≠v then k else dO k s a
 |[],s,j,f,_=>⟨j,id,λbw _ _ _=>by rw[m5 Ξ];rfl⟩
 |w::L,s,j,f,A=>by
  unfold gR;by_cases hw:w≠v
  .rw[m3 hw];have B:=A w (.head _);have C:=zA j f B;have E:=(x4.1 f).1;have F:(eD s i w.toNat).d6[i]?=σ {x with mask:=((x.mask.toNat ||| 2 ^ w.toNat:Nat):Int)}:=by grind [oe]
   obtain⟨h1,r,G⟩:=tx L (eD s i w.toNat) C F (by grind);refine⟨h1,λJ=>r ?_,λbw p H I=>?_⟩
   .grind [oe,cd.d6]
   .have K:eK (eD s i w.toNat) a:=by
     rw[oe f];refine⟨by show a.length=(s.d6.set _ _).length;rw[U4];exact p.1,λq y b h z=>?_⟩;have h:(s.d6.set i {x with mask:=((x.mask.toNat ||| 2 ^ w.toNat:Nat):Int)})[q]?=σ y:=h;by_cases e:i=q
     .subst e;rw[Z3 E]at h;cases h;exact p.2 i x b f z
     .rw[X3 e]at h;exact p.2 q y b h z
    grind [Gk]
  .rw[m5 hw];obtain⟨h1,r,G⟩:=tx L s j f (by grind);refine⟨h1,r,λbw p H I=>?_⟩
   grind
theorem cd.zero(h:cd s):cd {s with zero:=c}:=h
theorem GC{u:Nat}{f:bH}{x:bs}{tup un:Int->Int}(h:cd s)(a:s.d7[j]?=σ f)(e:s.d6[u]?=σ x):cd (kk s j f pos u x v tup un):=
 cd.d6 (cd.d7 h a rfl id) e rfl
theorem GD{u:Nat}{x:bs}{g z:Int->Int}(h:cd s)(a:s.d6[u]?=σ x):cd (mh s u x g z):=cd.zero (cd.d6 h a rfl)
def rV(k:Int)(s:am)(m:ja)(s':am)(e:Int)(a:Λ):Prop:=dO k s' a=if 5<=m.kind/\e=0/\a[m.i.toNat]? ≠σ m.v then k else dO k s a
theorem Sh{m:ja}(h:aY k co s)(E:cd s):aY k co (cK k s m).1/\cd (cK k s m).1/\∀a,eK s a->rV k s m (cK k s m).1 (cK k s m).2 a:=by
 have hk:=h.dH;have ac:∀e:Int,e≠0->aY k co s/\cd s/\∀a,eK s a->rV k s m s e a:=by grind [rV]
 have low:∀{s':am}{e:Int},m.kind<5->aY k co s'->cd s'->(∀a,eK s a->dO k s' a=dO k s a)->aY k co s'/\cd s'/\∀a,eK s a->rV k s m s' e a:=by grind [rV]
 unfold cK;split
 .rename_i M;cases A:eU s m.i m.pos m.v with
  |none=>grind
  |some q=>
   obtain⟨f,u,x⟩:=q;simp only;split
   .grind
   .rename_i he;obtain⟨z,hm⟩:=pc he;simp only;obtain⟨_,_,F,H,V,p⟩:=pd A;obtain⟨W,j,B,N⟩:=mj p;have G:=x5 F;have ad:∀t∈cQ s f.sc m.pos.toNat m.v,m.c<=bg f.szs f.cs t:=λt C=>((tw _ _ _).1 hm).2 _ (by grind);have O:f.sc[m.pos.toNat]?=σ ((u.toNat:Nat):Int):=by grind
    have C:∀t∈cQ s f.sc m.pos.toNat m.v,0<=dV k (bg f.szs f.cs t) m.c/\dV k (bg f.szs f.cs t) m.c<=k:=λt C=>pe (qw h G) (by grind);have P:=pf (k:=k) (jr (v:=m.v.toNat) h j) z.1;refine low Ω (by grind [Gg]) (GC E F j) λa y=>Gh h y F H O j N (E f G H) C P λt C r I=>?_;have:=qw (t:=t) h G
    grind [v8,jr]
 split
 .rename_i _ M;cases A:eU s m.i m.pos m.v with
  |none=>grind
  |some q=>
   obtain⟨f,u,x⟩:=q;simp only;split
   .grind
   .rename_i he;obtain⟨z,hm⟩:=pc he;simp only;obtain⟨_,_,F,H,V,p⟩:=pd A;obtain⟨W,j,B,N⟩:=mj p;have G:=x5 F;have O:f.sc[m.pos.toNat]?=σ ((u.toNat:Nat):Int):=by grind
    have C:∀t∈cQ s f.sc m.pos.toNat m.v,0<=dW k (bg f.szs f.cs t) m.c/\dW k (bg f.szs f.cs t) m.c<=k:=λt C=>pf (qw h G) z.1;have P:=pe (k:=k) (jr (v:=m.v.toNat) h j) ⟨z.1,hm⟩;refine low Ω (by grind [Gg]) (GC E F j) λa y=>Gh h y F H O j N (E f G H) C P λt C r I=>?_;have h1:=qw (t:=t) h G;have R:=jr (v:=m.v.toNat) h j
    grind [v8]
 split
 .rename_i _ _ M;cases A:(if 0<=m.i then s.d6[m.i.toNat]? else ν)with
  |none=>grind
  |some x=>
   have j:s.d6[m.i.toNat]?=σ x:=by grind
   simp only;split
   .grind
   split
   .grind
   .rename_i B he;obtain⟨z,hm⟩:=pc he;simp only;have X:∀v∈aL x,m.c<=x.un.getD v.toNat 0:=λv p=>zF p hm;have J:∀v∈aL x,0<=dV k (x.un.getD v.toNat 0) m.c/\dV k (x.un.getD v.toNat 0) m.c<=k:=λv p=>pe (jr h j) (by grind);have K:=pf h.zero z.1;refine low Ω (zz h j J K) (GD E j) λa y=>Gj h y j (Z6.1 B) J K λv p r I=>?_;exact v8 I ⟨X v p,(jr h j).2⟩ h.zero z.1
 split
 .rename_i _ _ _ M;cases A:(if 0<=m.i then s.d6[m.i.toNat]? else ν)with
  |none=>grind
  |some x=>
   have j:s.d6[m.i.toNat]?=σ x:=by grind
   simp only;obtain⟨S,Y⟩:∃S,S=(if aL x=[]then-1 else s.zero):=⟨_,rfl⟩;rw[<-Y];split
   .grind
   split
   .grind
   .rename_i B he;obtain⟨z,hm⟩:=pc he;simp only;have T:m.c<=s.zero:=by
     omega
    have J:∀v∈aL x,0<=dW k (x.un.getD v.toNat 0) m.c/\dW k (x.un.getD v.toNat 0) m.c<=k:=λv p=>pf (jr h j) z.1;have K:=pe h.zero ⟨z.1,T⟩;refine low Ω (zz h j J K) (GD E j) λa y=>Gj h y j (Z6.1 B) J K λv p r I=>?_;have:=v8 I ⟨T,h.zero.2⟩ (jr (v:=v.toNat) h j) z.1;omega
 split
 .rename_i _ _ _ _ M;cases A:eF s m.i m.v with
  |none=>grind
  |some x=>
   obtain⟨_,j,B,p⟩:=mj A;simp only;split
   .grind
   .rename_i he;have U:=(jq.1 p).1;simp only;refine low Ω (zA h j U) (by grind [oe,cd.d6]) λa y=>?_;have Z:=(x4.1 j).1;have aa:=y.1;obtain⟨bw,L⟩:=aF (l:=a) (i:=m.i.toNat) Ω;rw[Gk h y j B U L];split
    .rename_i e;subst e;rw[pa h];split
     .have ab:(s.d6.zip a)[m.i.toNat]?=σ (x,m.v):=T3.2 ⟨j,L⟩;have h1:=qo (qp h) (x:=cB (x,m.v)) (by rw[x8,ab];rfl);have R:=mf _ (o3 (a:=a) h)
      grind [cB,dW]
     .rfl
    .rfl
 .rename_i h1 R ae af ag;cases A:eF s m.i m.v with
  |none=>grind
  |some x=>
   obtain⟨_,j,B,p⟩:=mj A;simp only;have Q:∀w∈aL x,0<=w/\w<x.un.length:=by grind [jq]
   refine⟨(tx (a:=[]) (aL x) s h j Q).1,(tx (a:=[]) (aL x) s h j Q).2.1 E,λa y=>?_⟩;have Z:=(x4.1 j).1;have aa:=y.1;obtain⟨bw,L⟩:=aF (l:=a) (i:=m.i.toNat) Ω;unfold rV;rw[(tx (aL x) s h j Q).2.2 bw y B L,L]
   grind [RO]
end
theorem Si{f:Int->Int}{L:List (Λ)}{cs:Λ}(U:dh szs)(j:cs.length<=(bl szs).length)(h:∀t∈L,f (bg szs cs t)=bg szs cs t):ep f L szs cs=cs:=by
 apply j5;intro i;cases a:cs[i]? with
 |none=>
  grind [rO]
 |some c=>
  obtain⟨t,e⟩:=aF (l:=bl szs) (i:=i) (by grind);rw[rP e a]
  grind [bg,kG]
section
variable{k:Int}{co:Λ}{s:am}
end
section
variable{k:Int}{co:Λ}{s:am}
theorem wo{f:bH}(a:aY k co s)(e:f∈s.d7)(q:∀u,f.sc[pos]?=σ u->v∈cZ s u)(h:t∈cQ s f.sc pos v):∃m:Nat,ct f.szs t 0=σ (m:Int):=by
 obtain⟨j,r,_⟩:=a.d7 f e;obtain⟨w,_⟩:=mg a e;rw[zu a (λu p=>⟨(j.scope.1 u p).1,j.d6 u p⟩) q,<-r]at h
 grind [c9,kG]
end
section
variable{k:Int}{co:Λ}{s:am}
theorem Sj{m:ja}(h:(cK k s m).2≠0):(cK k s m).1=s:=by
 grind [cK]
end
theorem Sk(U:dh szs):(bl szs).Nodup:=by
 rw[List.nodup_iff_pairwise_ne,X9];intro i j hi a e he;have h1:=kG U (x6 hi)
 grind [kG]
section
variable{k:Int}{co:Λ}{s:am}
theorem GF{f:bH}(a:aY k co s)(e:f∈s.d7)(p:∀u,f.sc[pos]?=σ u->v∈cZ s u):(cQ s f.sc pos v).Nodup:=by
 obtain⟨h,q,_⟩:=a.d7 f e;obtain⟨r,_⟩:=mg a e;rw[zu a (λu j=>⟨(h.scope.1 u j).1,h.d6 u j⟩) p,<-q]
 grind [Sk]
theorem zG{α:Type}{l:List α}{q:Nat}{a:α}(e:l.Nodup)(h:l[q]?=σ a):a∉l.take q:=λhm=>by
 grind [c9,List.getElem_inj]
theorem GG{m q:Nat}{f:bH}{g:Int->Int}{L:List (Λ)}(a:aY k co s)(e:s.d7[j]?=σ f)(h:L.Nodup)(p:L[q]?=σ t)(hi:ct f.szs t 0=σ (m:Int)):
  bg f.szs (ep g (L.take q) f.szs f.cs) t=bg f.szs f.cs t/\kS (dA s j f (ep g (L.take q) f.szs f.cs)) j m (g (bg f.szs f.cs t))=dA s j f (ep g (L.take (q+1)) f.szs f.cs):=by
 obtain⟨r,w⟩:=mg a (x5 e);have x:=zG h p
 grind [oN,u9,bg,RB,kS,dA,u7,List.set_set]
end
theorem zH{of:Int->Int}{c:Int}:∀(l:Λ)(b w:Int),w≠ -1->(∀v∈l,v≠ -1)->(c<=(l.foldl (im of) (b,w)).1↔c<=b/\∀v∈l,c<=of v)
 |[],b,w,_,_=>Ξ
 |v::l,b,w,hw,a=>by
  rw[List.foldl_cons,List.forall_mem_cons];have f:=a v (.head _);have e:=λu j=>a u (.tail _ j);unfold im;by_cases h:of v<b
  .rw[m3 (.inr h)];show c<=(l.foldl (im of) (of v,v)).1↔_;rw[zH l _ _ f e]
   grind
  .rw[m5 (by rintro (h1|h1)<;>contradiction)];show c<=(l.foldl (im of) (b,w)).1↔_;rw[zH l _ _ hw e]
   grind
theorem nk{of:Int->Int}(h:∀v∈l,v≠ -1/\of v<=k):c<=(gP k l of).1↔c<=k/\∀v∈l,c<=of v:=by
 cases l<;>grind [gP,im,zH]
section
variable{n:aD}{s:am}
end
structure e9(s s':am):Prop where
 d6:s'.d6.length=s.d6.length
 var:∀(i:Nat)x y,s.d6[i]?=σ x->s'.d6[i]?=σ y->y.gone=x.gone/\y.un.length=x.un.length
 d7:s'.d7.length=s.d7.length
 fn:∀(j:Nat)f g,s.d7[j]?=σ f->s'.d7[j]?=σ g->g.sc=f.sc/\g.szs=f.szs/\g.live=f.live/\g.cs.length=f.cs.length
 elims:s'.elims=s.elims
theorem e9.rfl{s:am}:e9 s s:=⟨Eq.refl _,by grind,Eq.refl _,by grind,Eq.refl _⟩
theorem e9.F{a b c:am}(h:e9 a b)(k:e9 b c):e9 a c:=by
 refine⟨k.d6.F h.d6,λi x z e w=>?_,k.d7.F h.d7,λj f q p A=>?_,k.elims.F h.elims⟩
 .have B:=(x4.1 e).1;have C:=h.d6;obtain⟨y,r⟩:=aF (l:=b.d6) (i:=i) Ω;have h1:=h.var i x y e r;have E:=k.var i y z r w;omega
 .have B:=(x4.1 p).1;have C:=h.d7;obtain⟨g,s⟩:=aF (l:=b.d7) (i:=j) Ω;have h1:=h.fn j f g p s;have E:=k.fn j g q s A
  grind
section
variable{k:Int}{co:Λ}{s:am}
theorem zI{i:Nat}{x y:bs}(e:s.d6[i]?=σ x)(h:y.gone=x.gone)(p:y.un.length=x.un.length):e9 s {s with d6:=s.d6.set i y}:=by
 refine⟨U4,λj a b q r=>?_,rfl,λj f g h1 w=>?_,rfl⟩
 all_goals grind
theorem Sl{f g:bH}(r:s.d7[j]?=σ f)(h:g.sc=f.sc/\g.szs=f.szs/\g.live=f.live/\g.cs.length=f.cs.length):e9 s {s with d7:=s.d7.set j g}:=by
 refine⟨rfl,λi a b e p=>?_,U4,λq a b e p=>?_,rfl⟩
 all_goals grind
theorem Sm:e9 s {s with zero:=c}:=⟨rfl,by grind,rfl,by grind,rfl⟩
theorem zJ{i:Nat}:e9 s (eD s i v.toNat):=by
 cases a:s.d6[i]? with
 |none=>unfold eD;rw[a];exact .rfl
 |some x=>rw[oe a];grind [zI]
theorem zK{i:Nat}{v:Int}:∀(L:Λ)(s:am),e9 s (gR s i v L)
 |[],_=>.rfl
 |w::L,s=>by
  unfold gR;split
  .exact zJ.F (zK L _)
  .exact zK L s
theorem Sn{u:Nat}{x:bs}{g z:Int->Int}(a:s.d6[u]?=σ x):e9 s (mh s u x g z):=
 (zI (y:={x with un:=eE g x.un (aL x)}) a rfl (zy _ _)).F Sm
theorem GH{u:Nat}{f:bH}{x:bs}{t un:Int->Int}(e:aY k co s)(a:s.d7[j]?=σ f)(h:s.d6[u]?=σ x):e9 s (kk s j f pos u x v t un):=by
 obtain⟨_,p⟩:=mg e (x5 a);have h1:e9 s (dA s j f (ep t (cQ s f.sc pos v) f.szs f.cs)):=Sl a ⟨rfl,rfl,rfl,rO _ _ _ _ Ω⟩;exact h1.F (zI (y:={x with un:=x.un.set v.toNat (un (x.un.getD v.toNat 0))}) h rfl U4)
theorem Sp{m:ja}(q:aY k co s):e9 s (cK k s m).1:=by
 by_cases he:(cK k s m).2=0
 .generalize a:cK k s m=r at he ⊢;unfold cK at a;split at a
  .split at a
   .grind
   .rename_i f u x e;obtain⟨_,_,j,_,_,h⟩:=pd e;obtain⟨_,p,_,_⟩:=mj h
    grind [GH]
  split at a
  .split at a
   .grind
   .rename_i f u x e;obtain⟨_,_,j,_,_,h⟩:=pd e;obtain⟨_,p,_,_⟩:=mj h
    grind [GH]
  grind [Sn,zJ,zK]
 .rw[Sj he];exact .rfl
end
theorem Sq{g n c:Nat}(a:ag w g cM cs)(h:∀I,af (λr=>r=g) w I->(∀o vs,w.rangeAt g o vs->I.rangeAt g o vs)->K (.slice (σ ⟨g,0,ν⟩) n c) I):
  aC x7 (convert cS cS (.slice (σ ⟨g,0,ν⟩) n c)) w K:=by
 have f:∀r,(w.freeze ⟨g,cs.length,ν⟩ 1).heap[r]?=if g=r then(w.heap[r]?).map (λ| .cells c p (lo,hi)=>.cells c p (if lo == hi then(cs.length,cs.length+1)else(min lo cs.length,max hi (cs.length+1)))|o=>o)else w.heap[r]?:=λr=>by
  unfold x3.freeze;rw[m5 Φ];exact Array.getElem?_modify
 have A:(w.freeze ⟨g,cs.length,ν⟩ 1).heap.size=w.heap.size:=by
  unfold x3.freeze;rw[m5 Φ];exact Array.size_modify
 have q:w.shape? g=σ (cM,cs.length):=by
  unfold x3.shape?;unfold ag at a;rw[a];simp
 have s:(convert cS cS (.slice (σ ⟨g,0,ν⟩) n c)).run x7 w= .ok (.slice (σ ⟨g,0,ν⟩) n c) (w.freeze ⟨g,cs.length,ν⟩ 1):=by
  simp[convert,run_underlying cS.u,run_underlying cM.u,markStringish,q]
 unfold ag at a;refine .of s ⟨by unfold x3.freeze;rw[m5 Φ],.lK (by unfold x3.freeze;rw[m5 Φ]) (by unfold x3.freeze;rw[m5 Φ]),by unfold x3.freeze;rw[m5 Φ],Ω,λr o e U=>?_⟩ (h _ ⟨Ω,λr o e _ x=>?_⟩ λo vs y j v z=>?_)
 .rw[f];by_cases he:g=r
  .subst he;rw[a]at e;cases e;cases U
  .rw[m5 he];exact e
 .rw[f,m5 λhe=>x he.symm];exact e
 .have h1:=y j v z;unfold x3.cell? at h1 ⊢;rw[f,m3 rfl];rw[a]at h1 ⊢;exact h1
def zL(s0 s:am):Prop:=s.zero=s0.zero/\s.d7=s0.d7/\s.d6.length=s0.d6.length/\∀(i:Nat)x,s.d6[i]?=σ x->∃a,s0.d6[i]?=σ a/\x.un=a.un/\x.gone=0/\a.gone=0/\a.mask=0
theorem zL.new(n:aD):zL (di n) (di n):=⟨rfl,rfl,rfl,λi x a=>by
 refine⟨x,a,rfl,?_⟩;have a:(n.unary.map newVar)[i]?=σ x:=a;rw[x8]at a;obtain⟨u,_,rfl⟩:=Y0.1 a;exact⟨rfl,rfl,rfl⟩⟩
theorem GI(n:aD):cd (di n):=λf _ _ v _ x a=>by
 obtain⟨_,_,_,h,_⟩:=(zL.new n).2.2.2 _ x a;exact h
def wp(B:Nat)(w:x3)(a:x1)(cs:List x1)(f:b5):Prop:=∃ac ad A R t N A9 aE,fh N f/\a=Γ ac/\bd w ac ad A R (df f) (di (df f)) t/\Plain t/\(∀r,A r->B<=r)/\
 kl ro A9 aE w cs (df f).k (df f).co (di (df f))/\(∀q r,A9 q r->¬A r/\¬R r/\B<=r)/\(∀r,aE r->¬du w r/\r<w.heap.size/\B<=r)/\∀r,R r->B<=r
def Sr(w:x3)(q:Λ)(v:x1)(I:x3):Prop:=Ext w I/\∃a cs ok,v= .tuple #[a,.agg cs.toArray,.bool ok]/\(cs.length=8/\∀u∈cs,u.oneCell'=ro)/\((ok=rs/\a= .pointer ν)\/(ok=ro/\∃f,eC q=σ f/\wp w.heap.size I a cs f))/\∀f,eC q=σ f->jM f.d7<=16384->ok=ro
theorem Ss{V p:x3}{ak:Nat}{x:x1}{f:b5}(y:wp B V x cs f)(a:Ext V p)(C:ag p ak a6 cs)(K:V.heap.size<=ak):
  ∃ac ad A R A9 aE t,x=Γ ac/\ch p ac ad ak A R A9 aE (df f) (di (df f)) (di (df f)) t [] cs/\t.marks=[]/\(∀r,A r->B<=r)/\(∀q r,A9 q r->B<=r)/\t.cells.length<=2000000/\t.olds.length=0/\(df f).d7.length<=256/\t.kD=0/\(∀r,aE r->B<=r)/\∀r,R r->B<=r:=by
 obtain⟨ac,ad,A,R,t,N,A9,aE,s,rfl,w,e,E,F,L,G,H⟩:=y;have M:=qt w;have z:=a.size;have j:=(vR (Eu s).1 (zr s) (df f).unary.length (df f).d7.length);rw[y7,<-w.2.1]at j;unfold av.bO at j;rw[o4]at j;refine⟨ac,ad,A,R,λq r=>A9 q r/\r<V.heap.size,aE,t,rfl,⟨w.W a,e.2.2.1,C,F.old.W a,by grind,λr I=>⟨λh=>(G r I).1 (oX (λo J U _=>a.aZ r o J U) h),by grind,by grind⟩,by grind,by grind⟩,e.1,E,by grind,j,by rw[e.2.1];rfl,zr s,e.2.2.2,by grind,H⟩
structure jb(a b:am):Prop where
 off:iZ b=iZ a
 fn:∀(j:Nat)f,a.d7[j]?=σ f->∃f',b.d7[j]?=σ f'/\f'.sc=f.sc/\f'.szs=f.szs/\e6 b j=e6 a j
 el:∃l,b.elims=a.elims++l
theorem jb.refl(s:am):jb s s:=⟨rfl,by grind,[],by grind⟩
theorem jb.F{a b c:am}(h:jb a b)(k:jb b c):jb a c:=by
 refine⟨k.off.F h.off,λj f e=>?_,?_⟩
 .obtain⟨p,h1,q,r,s⟩:=h.fn j f e;obtain⟨f2,w,x,y,z⟩:=k.fn j p h1
  grind
 grind [jb.el]
theorem n8.pg{s s':am}(h:n8 s s'):jb s s':=
 ⟨h.1,λj f p=>by
  have q:=h.2.1;obtain⟨a,e⟩:∃a,s'.d7[j]?=σ a:=⟨_,x6 (by grind)⟩;obtain⟨f0,h1,r,w,x⟩:=h.2.2.1 j a e
  grind,[],by rw[h.2.2.2,V1]⟩
section
variable{w:x3}{ac ad:Nat}{A R:ah}{n:aD}{s VO:am}{t jV:av}{an:List av}{m:Nat}
end
theorem St(s:am)(f:bH):jb s {s with d7:=s.d7++[f]}:=
 ⟨rfl,λj g a=>by
  have e:=(x4.1 a).1;refine⟨g,by show(s.d7++[f])[j]?=_;rw[W8 e];exact a,rfl,rfl,?_⟩;unfold e6;show 3+(_+(((s.d7++[f]).take j).flatMap fT).length)=_;rw[List.take_append_of_le_length Ω],[],(V1 _).symm⟩
theorem Su{s:am}{e:iC}{i:Nat}{x y:bs}(a:s.d6[i]?=σ x)(p:y.un.length=x.un.length):jb s {s with elims:=s.elims++[e],d6:=s.d6.set i y}:=
 jb.F (b:={s with elims:=s.elims++[e]}) ⟨rfl,λj f h=>⟨f,h,rfl,rfl,rfl⟩,[e],rfl⟩ (ti (s:={s with elims:=s.elims++[e]}) a p).pg
def tz(s:am):Prop:=∀e∈s.elims,e.sc.length<=1000/\e.dn.length<=5000
def fW(sc t:Λ)(v:Int):Int:=t.getD (sc.idxOf v) 0
def er(szs sc:Λ)(F:(Int->Int)->Int):Λ:=(Z2 (aA szs).toNat).map λ(q:Nat)=>F (fW sc (b1 szs q))
def tA(sc:Λ)(F:(Int->Int)->Int):Prop:=∀A B:Int->Int,(∀v∈sc,A v=B v)->F A=F B
theorem tB{F:(Int->Int)->Int}:(er szs sc F).length=(aA szs).toNat:=by simp[er]
theorem GJ{F:(Int->Int)->Int}(h:∀A,0<=F A/\F A<=k):∀c∈er szs sc F,0<=c/\c<=k:=λc a=>by
 obtain⟨q,_,rfl⟩:=o8.1 a;exact h _
theorem Sv{A:Int->Int}:∀v∈sc,fW sc (sc.map A) v=A v:=λv a=>by
 have h:=List.idxOf_lt_length_iff.2 a;unfold fW;rw[u5,x8,x6 h,List.getElem_idxOf];rfl
theorem zM(e:ez sc)(j:t.length=sc.length):sc.map (fW sc t)=t:=by
 apply j5;intro i;rw[x8];by_cases h:i<sc.length
 .have h1:sc[i]?=σ sc[i]:=x6 h;have a:=p7 e h1;have f:sc[i]∈sc:=Q4 h;unfold ih at a;rw[m3 f]at a;rw[h1,Z4];unfold fW;rw[show sc.idxOf sc[i]=i by omega,u5,x6 (show i<t.length by omega)];rfl
 .rw[Z9 Ω,Z9 Ω];rfl
theorem tC{F:(Int->Int)->Int}{A:Int->Int}(U:dh szs)(a:tA sc F)(h:cX szs (sc.map A)):bg szs (er szs sc F) (sc.map A)=F A:=by
 unfold er;rw[MT U (f:=λt=>F (fW sc t)) h];exact a _ _ Sv
theorem qx{A:Int->Int}:cX (aB co sc) (sc.map A)↔ ∀v∈sc,0<=A v/\A v<co.getD v.toNat 0:=by
 rw[oQ];refine⟨λh v a=>?_,λh=>⟨by simp[aB],λi z x e f=>?_⟩⟩
 .obtain⟨i,hi⟩:=c9.1 a;exact h.2 i _ _ (by unfold aB;rw[x8,hi];rfl) (by rw[x8,hi];rfl)
 .unfold aB at e;rw[x8,Y0]at e f;obtain⟨v,a,rfl⟩:=e;obtain⟨p,j,rfl⟩:=f;rw[a]at j;cases j;exact h v (x5 a)
def eV(a:Λ)(v:Int):Int:=a.getD v.toNat 0
theorem wq(a sc:Λ):ij a sc=sc.map (eV a):=rfl
def io(s:am)(a:Λ):Int:=s.zero+((s.d6.zip a).map cB).sum+(s.d7.map (dj a)).sum
def kV(s:am)(a:Λ):Bool:=(s.d6.zip a).all ik
section
variable{k:Int}{co a:Λ}{s:am}{n:aD}
theorem wr(e:aY k co s):dO k s a=if kV s a=ro then min (io s a) k else k:=pa e
theorem GK(e:aY k co s):0<=io s a:=by
 have h1:=mf _ (qp (a:=a) e);have f:=mf _ (o3 (a:=a) e);have h:=e.zero;unfold io;omega
def kW(s:am)(sc:Λ):Option Nat:=s.d7.findIdx? λf=>decide (f.live≠0)&&decide (f.sc=sc)
def eG(n:aD)(s:am)(sc cs:Λ):am:=match sc with
 |[]=>{s with zero:=min (s.zero+cs.getD 0 0) n.k}
 |[v]=>match s.d6[v.toNat]? with
  |some x=>dI s v.toNat x (bV n.k x.un cs)
  |none=>s
 |_=>match kW s sc with
  |some j=>match s.d7[j]? with
   |some f=>dA s j f (bV n.k f.cs cs)
   |none=>s
  |none=>gO s sc (aB n.co sc) cs
theorem GL{k:Int}{m:Λ}{i:Nat}(h:l.length=m.length)(hi:i<l.length):(bV k l m).getD i 0=min (l.getD i 0+m.getD i 0) k:=by
 unfold bV
 grind
theorem GM{t x y k:Int}(a:y=min (x+c) k)(e:0<=t-x):min (t-x+y) k=min (t+c) k:=Ω
theorem GN{s:am}(h:kW s sc=σ j):∃f,s.d7[j]?=σ f/\f.live≠0/\f.sc=sc:=by
 obtain⟨a,h1,_⟩:=List.findIdx?_eq_some_iff_getElem.1 h;have h1:(decide (s.d7[j].live≠0)&&decide (s.d7[j].sc=sc))=ro:=h1;exact⟨_,x6 a,by simpa using h1⟩
theorem Sw{k:Int}{m:Λ}(U:dh szs)(f:l.length=(aA szs).toNat)(hm:m.length=(aA szs).toNat)(e:cX szs t):bg szs (bV k l m) t=min (bg szs l t+bg szs m t) k:=by
 obtain⟨q,a⟩:=e;have h:=mL U a;unfold bg;rw[a];exact GL Ω Ω
theorem GO{cs:Λ}(h:aY n.k n.co s)(Q:ey n.co n.k (sc,cs))(N:eK s a)(E:∀v∈sc,cf s v.toNat=rs):
  aY n.k n.co (eG n s sc cs)/\kV (eG n s sc cs) a=kV s a/\min (io (eG n s sc cs) a) n.k=min (io s a+bg (aB n.co sc) cs (ij a sc)) n.k:=by
 have hk:=h.dH;have am:=h.d6;have an:=h.zero;have h1:=mf _ (qp (a:=a) h);have ao:=mf _ (o3 (a:=a) h);obtain⟨w,I,A,C,J,O⟩:=Q;have F:0<=bg (aB n.co sc) cs (ij a sc)/\bg (aB n.co sc) cs (ij a sc)<=n.k:=(qb h.dH λc Q=>⟨h.dH,O c Q⟩).2;have q:dh (aB n.co sc):=kd h.c5.2.2 λv G=>⟨(w.1 v G).1,A v G⟩;have K:cX (aB n.co sc) (ij a sc):=by
  rw[wq,qx];intro v G;have ag:=(w.1 v G).1;have ah:=A v G;obtain⟨x,p⟩:=aF (l:=s.d6) (i:=v.toNat) Ω;obtain⟨z,q⟩:=aF (l:=n.co) (i:=v.toNat) Ω;obtain⟨y,B⟩:=aF (l:=a) (i:=v.toNat) (by have:=N.1;omega);have ai:=E v G;have aj:=N.2 _ x y p B;have R:=(h.var _ x z p q).1;have ak:=h.c5.2.2 z (x5 q);have S:x.gone=0:=by simpa[cf,p]using ai
  have H:eV a v=y:=by unfold eV;rw[u5,B];rfl
  have T:n.co.getD v.toNat 0=z:=by rw[u5,q];rfl
  rw[H,T];omega
 match sc,w,I,A,C,J,F,q,K,E with
 |[],w,I,A,C,J,F,q,K,E=>
  have e:bg (aB n.co []) cs (ij a [])=cs.getD 0 0:=rfl;rw[e]at F ⊢;refine⟨⟨h.dH,h.c5,⟨by show 0<=min _ _;omega,by show min _ _<=_;omega⟩,h.d6,h.var,h.d7⟩,rfl,?_⟩;show min (min (s.zero+cs.getD 0 0) n.k+((s.d6.zip a).map cB).sum+(s.d7.map (dj a)).sum) n.k=min (s.zero+((s.d6.zip a).map cB).sum+(s.d7.map (dj a)).sum+cs.getD 0 0) n.k;omega
 |[v],w,I,A,C,J,F,q,K,E=>
  have ag:=(w.1 v (.head _)).1;have ah:=A v (.head _);obtain⟨x,p⟩:=aF (l:=s.d6) (i:=v.toNat) Ω;obtain⟨z,U⟩:=aF (l:=n.co) (i:=v.toNat) Ω;obtain⟨y,B⟩:=aF (l:=a) (i:=v.toNat) (by have:=N.1;omega);have R:=h.var _ x z p U;have ak:=h.c5.2.2 z (x5 U);have S:x.gone=0:=by simpa[cf,p]using E v (.head _)
  have aj:=N.2 _ x y p B;have T:n.co.getD v.toNat 0=z:=by rw[u5,U];rfl
  have V:aB n.co [v]=[z]:=by rw[<-T];rfl
  have Y:ij a [v]=[y]:=by
   show[a.getD v.toNat 0]=[y];rw[u5,B];rfl
  have Z:bg [z] cs [y]=cs.getD y.toNat 0:=by
   have:0<=y/\y<z:=Ω
   unfold bg ct;rw[m3 this];unfold ct;simp
  have L:cs.length=x.un.length:=by rw[C,V,R.1];simp[aA]
  have el:eG n s [v] cs=dI s v.toNat x (bV n.k x.un cs):=by
   unfold eG;simp only[p]
  rw[el,V,Y,Z];rw[V,Y,Z]at F;have W:(bV n.k x.un cs).length=x.un.length:=by simp[bV,L]
  have aa:(s.d6.zip a)[v.toNat]?=σ (x,y):=T3.2 ⟨p,B⟩;refine⟨wa h p W (yH Ω R.2.1 O),?_,?_⟩
  .show ((s.d6.set v.toNat {x with un:=bV n.k x.un cs}).zip a).all ik=_;rw[qq B];exact rR aa rfl
  .show min (s.zero+(((s.d6.set v.toNat {x with un:=bV n.k x.un cs}).zip a).map cB).sum+(s.d7.map (dj a)).sum) n.k=_;have M:((s.d6.zip a).map cB)[v.toNat]?=σ (cB (x,y)):=by rw[x8,aa];rfl
   rw[qq B,V3,qn M];have al:=qo (qp (a:=a) h) M;have X:cB ({x with un:=bV n.k x.un cs},y)=min (cB (x,y)+cs.getD y.toNat 0) n.k:=by
    unfold cB;rw[m5 (by simpa using S),m5 (by simpa using S)];exact GL L.symm Ω
   have:=GM (t:=io s a) X (by unfold io;omega);unfold io at this ⊢;omega
 |u::v::sc,w,I,A,C,J,F,q,K,E=>
  cases r:kW s (u::v::sc)with
  |some j=>
   obtain⟨f,P,ab,ac⟩:=GN r;obtain⟨ad,ae,ap⟩:=h.d7 f (x5 P);have el:eG n s (u::v::sc) cs=dA s j f (bV n.k f.cs cs):=by
    unfold eG;simp only[r,P]
   rw[el];have H:f.szs=aB n.co (u::v::sc):=by rw[ae,ac]
   have L:f.cs.length=(aA f.szs).toNat:=by rw[ae];exact ad.len
   have af:cs.length=(aA f.szs).toNat:=by rw[H];exact C
   have W:(bV n.k f.cs cs).length=f.cs.length:=by simp[bV,L,af]
   refine⟨zw h P W (yH Ω ad.gM O),rfl,?_⟩;show min (s.zero+((s.d6.zip a).map cB).sum+((s.d7.set j {f with cs:=bV n.k f.cs cs}).map (dj a)).sum) n.k=_;have M:(s.d7.map (dj a))[j]?=σ (dj a f):=by rw[x8,P];rfl
   rw[V3,qn M];have al:=qo (o3 (a:=a) h) M;have X:dj a {f with cs:=bV n.k f.cs cs}=min (dj a f+bg (aB n.co (u::v::sc)) cs (ij a (u::v::sc))) n.k:=by
    unfold dj;rw[m3 ab,m3 ab,<-H,ac];exact Sw (by rw[H];exact q) L af (by rw[H];exact K)
   have:=GM (t:=io s a) X (by unfold io;omega);unfold io at this ⊢;omega
  |none=>
   have el:eG n s (u::v::sc) cs=gO s (u::v::sc) (aB n.co (u::v::sc)) cs:=by
    unfold eG;simp only[r]
   rw[el];refine⟨⟨h.dH,h.c5,h.zero,h.d6,h.var,λf r=>?_⟩,rfl,?_⟩
   .rcases o9.1 r with r|r
    .exact h.d7 f r
    .cases b8.1 r;exact⟨⟨w,I,A,C,J,O⟩,rfl,Ξ⟩
   .show min (s.zero+((s.d6.zip a).map cB).sum+((s.d7++[_]).map (dj a)).sum) n.k=_;rw[l7,List.sum_append,List.map_singleton,List.sum_singleton];unfold io dj;rw[m3 (show(1:Int)≠0 by decide)];show min (_+(_+bg (aB n.co (u::v::sc)) cs (ij a (u::v::sc)))) n.k=_;omega
end
def gS(f:bH)(A:Int->Int):Int:=bg f.szs f.cs (f.sc.map A)
def br(s:am)(i:Int):List bH:=s.d7.filter λf=>decide (f.live≠0)&&decide (i∈f.sc)
def bf(co:Λ)(s:am)(i:Int):Λ:=((Z2 co.length).map λv:Nat=>(v:Int)).filter λv=>decide (v≠i)&&(br s i).any λf=>decide (v∈f.sc)
def dP(k:Int)(un:Λ)(i:Int)(L:List bH)(A:Int->Int):Int:=L.foldl (λc f=>min (c+gS f A) k) (un.getD (A i).toNat 0)
def fJ(A:Int->Int)(i v u:Int):Int:=if u=i then v else A u
def et(k:Int)(s:am)(i:Int)(x:bs)(A:Int->Int):Int×Int:=gP k (aL x) λv=>dP k x.un i (br s i) (fJ A i v)
def iI(s:am)(i:Int):am:={s with d7:=s.d7.map λf=>if f.live≠0/\i∈f.sc then{f with live:=0}else f}
def eW(n:aD)(s:am)(i:Int)(x:bs):iC:=⟨i,bf n.co s i,er (aB n.co (bf n.co s i)) (bf n.co s i) λA=>(et n.k s i x A).2⟩
def tD(n:aD)(s:am)(i:Int)(x:bs):Λ:=er (aB n.co (bf n.co s i)) (bf n.co s i) λA=>(et n.k s i x A).1
def fa(n:aD)(s:am)(i:Int)(x:bs):am:=eG n (og (iI s i) (eW n s i x)) (bf n.co s i) (tD n s i x)
theorem zN{of:Int->Int}(h:∀v∈l,v≠ -1)(s:l≠[]):(gP k l of).2∈l/\of (gP k l of).2=(gP k l of).1:=by
 have w:∀(l:Λ)(p:Int×Int),p.2≠ -1->of p.2=p.1->(∀v∈l,v≠ -1)->((l.foldl (im of) p).2=p.2\/(l.foldl (im of) p).2∈l)/\of (l.foldl (im of) p).2=(l.foldl (im of) p).1:=by
  intro l;induction l with
  |nil=>intro p _ h _;exact⟨.inl rfl,h⟩
  |cons v l q=>
   intro p x y j;rw[List.foldl_cons];have z:=j v (.head _);by_cases r:p.2= -1\/of v<p.1
   .have e:im of p v=(of v,v):=m3 r;rw[e];obtain⟨h1,a⟩:=q (of v,v) z rfl λu f=>j u (.tail _ f);exact⟨.inr (h1.elim (λh=>h▸ .head _) (.tail _)),a⟩
   .have e:im of p v=p:=m5 r;rw[e];obtain⟨h1,a⟩:=q p x y λu f=>j u (.tail _ f);exact⟨h1.imp id (.tail _),a⟩
 cases l with
 |nil=>exact m6 rfl s
 |cons v l=>
  have e:gP k (v::l) of=l.foldl (im of) (of v,v):=by
   unfold gP;rw[List.foldl_cons];exact congrArg (λp=>List.foldl (im of) p l) (m3 (.inl rfl))
  rw[e];obtain⟨h1,a⟩:=w l (of v,v) (h v (.head _)) rfl λu f=>h u (.tail _ f);exact⟨h1.elim (λh=>h▸ .head _) (.tail _),a⟩
theorem ws{f g:Int->Int}(h:∀v∈l,f v=g v):gP k l f=gP k l g:=by
 unfold gP;generalize (k,(-1:Int))=p;induction l generalizing p with
 |nil=>rfl
 |cons v l a=>
  rw[List.foldl_cons,List.foldl_cons,a λu e=>h u (.tail _ e)];unfold im;rw[h v (.head _)]
theorem Sx{r:Int}{f:Int->Int}(p:0<=r)(h:∀v∈l,v≠ -1/\f v<=k):min (r+(gP k l f).1) k=(gP k l λv=>min (r+f v) k).1:=by
 have e:∀v∈l,v≠ -1/\min (r+f v) k<=k:=λv a=>⟨(h v a).1,Ω⟩;apply Int.le_antisymm
 .rw[nk e];refine⟨Ω,λv a=>?_⟩;have:=((nk h).1 (R6 _)).2 v a;omega
 .obtain⟨q,j⟩:=(nk e).1 (R6 _);have:(gP k l λv=>min (r+f v) k).1-r<=(gP k l f).1:=(nk h).2 ⟨Ω,λv a=>by have:=j v a;omega⟩;omega
theorem Sy{f:Int->Int}(h:∀v∈l,v≠ -1/\f v=k):(gP k l f).1=k:=by
 have h1:∀v∈l,v≠ -1/\f v<=k:=λv a=>⟨(h v a).1,by have:=(h v a).2;omega⟩;have e:=(nk h1).1 (R6 _);have j:=(nk (c:=k) h1).2 ⟨R6 _,λv a=>by have:=(h v a).2;omega⟩;omega
theorem jS{s:am}{i:Int}{f:bH}:f∈br s i↔f∈s.d7/\f.live≠0/\i∈f.sc:=by
 unfold br;rw[U8];simp
theorem js{s:am}{i:Int}:v∈bf co s i↔(0<=v/\v<co.length)/\v≠i/\∃f∈s.d7,f.live≠0/\i∈f.sc/\v∈f.sc:=by
 unfold bf;rw[U8,o8,V9,List.any_eq_true,pl];constructor
 .rintro⟨⟨q,r,rfl⟩,a,f,w,e⟩;have:=V7.1 r;obtain⟨h,j,p⟩:=jS.1 w;exact⟨Ω,a,f,h,j,p,by simpa using e⟩
 .rintro⟨h1,a,f,e,h,j,p⟩;exact⟨⟨v.toNat,V7.2 Ω,Ω⟩,a,f,jS.2 ⟨e,h,j⟩,by simpa using p⟩
theorem tE{s:am}{i:Int}:(bf co s i).Pairwise (·< ·):=by
 unfold bf;refine List.Pairwise.filter _ ?_;rw[List.pairwise_map];exact List.pairwise_lt_range.imp λh=>Ω
theorem GP{s:am}{e:iC}{x:bs}(a:s.d6[e.v.toNat]?=σ x):og s e={s with elims:=s.elims++[e],d6:=s.d6.set e.v.toNat {x with gone:=1}}:=by
 unfold og;rw[a]
theorem GQ{α β:Type}:∀{l:List α}{m:List β}{i:Nat}{x:α}{y:β},l[i]?=σ x->l.zip (m.set i y)=(l.zip m).set i (x,y)
 |[],_,_,_,_,h=>by simp at h
 |a::l,[],_,_,_,_=>Ξ
 |a::l,b::m,0,x,y,h=>by simp at h;subst h;rfl
 |a::l,b::m,i+1,x,y,h=>by
  rw[List.set_cons_succ,List.zip_cons_cons,List.zip_cons_cons,List.set_cons_succ,GQ (by simpa using h)]
theorem Sz{α:Type}{q:α->Bool}{l:List α}{i:Nat}{y z:α}(hi:i<l.length)(h:q y=q z):(l.set i y).all q=(l.set i z).all q:=by
 have h1:(l.set i z)[i]?=σ z:=by rw[Z3 hi]
 have:=rR (q:=q) (x:=z) (y:=y) h1 h;rw[List.set_set]at this;exact this
section
variable{n:aD}{s:am}{i:Int}{x:bs}{a:Λ}{k:Int}{co:Λ}
theorem wu{f:bH}{A:Int->Int}(a:aY k co s)(h:f∈s.d7):0<=gS f A/\gS f A<=k:=by
 exact(qb a.dH λc e=>⟨a.dH,(a.d7 f h).1.gM c e⟩).2
theorem GR{A:Int->Int}{L:List bH}(a:aY k co s)(e:∀f∈L,f∈s.d7)(h:x.un.getD (A i).toNat 0<=k):dP k x.un i L A=min (x.un.getD (A i).toNat 0+(L.map λf=>gS f A).sum) k:=by
 have:dP k x.un i L A=(L.map λf=>gS f A).foldl (λc d=>min (c+d) k) (x.un.getD (A i).toNat 0):=by
  unfold dP;rw[List.foldl_map]
 rw[this];refine v7 _ _ h λc j=>?_;obtain⟨f,p,rfl⟩:=o8.1 j;exact(wu a (e f p)).1
theorem zO{c:Nat}(a:aY k co s)(e:s.d6[j]?=σ x):0<=x.un.getD c 0/\x.un.getD c 0<=k:=by
 have hk:=a.dH;have f:=(x4.1 e).1;have h:=a.d6;exact zv Ω (a.var j x _ e (x6 Ω)).2.1
theorem wv{A:Int->Int}{L:List bH}(a:aY k co s)(e:∀f∈L,f∈s.d7)(h:s.d6[j]?=σ x):0<=dP k x.un i L A/\dP k x.un i L A<=k:=by
 have hk:=a.dH;have h1:=zO (c:=(A i).toNat) a h;rw[GR a e h1.2];have:=mf (L.map λf=>gS f A) λc p=>by
  obtain⟨f,q,rfl⟩:=o8.1 p;exact(wu a (e f q)).1
 omega
theorem GS{A B:Int->Int}{un:Λ}{L:List bH}(h:A i=B i)(a:∀f∈L,∀v∈f.sc,A v=B v):dP k un i L A=dP k un i L B:=by
 unfold dP;rw[h];generalize un.getD (B i).toNat 0=c;induction L generalizing c with
 |nil=>rfl
 |cons f L j=>
  have e:gS f A=gS f B:=by
   unfold gS;rw[V2 (a f (.head _))]
  rw[List.foldl_cons,List.foldl_cons,e];exact j (λg p=>a g (.tail _ p)) _
theorem zP(j:aY k co s){f:bH}(p:f∈br s i)(a:v∈f.sc):v=i\/v∈bf co s i:=by
 obtain⟨h1,q,r⟩:=jS.1 p;by_cases e:v=i
 .exact .inl e
 .have h:=(j.d7 f h1).1;exact .inr (js.2 ⟨⟨(h.scope.1 v a).1,h.d6 v a⟩,e,f,h1,q,r,a⟩)
theorem GU(a:aY k co s){A B:Int->Int}(h:∀v∈bf co s i,A v=B v):et k s i x A=et k s i x B:=by
 refine ws λv p=>GS (by simp[fJ]) λf e u j=>?_;unfold fJ;split
 .rfl
 .exact h u ((zP a e j).resolve_left (by assumption))
theorem ph{x:bs}:∀v∈aL x,v≠ -1:=λv a=>by have:=ql a;omega
theorem SA{A:Int->Int}(a:aY k co s)(h:s.d6[j]?=σ x):0<=(et k s i x A).1/\(et k s i x A).1<=k:=by
 have hk:=a.dH;have h1:∀v∈aL x,v≠ -1/\dP k x.un i (br s i) (fJ A i v)<=k:=λv p=>⟨ph v p,(wv a (λf e=>(jS.1 e).1) h).2⟩;exact⟨(nk h1).2 ⟨Ω,λv p=>(wv a (λf e=>(jS.1 e).1) h).1⟩,((nk h1).1 (R6 _)).1⟩
theorem SB(L:List bH):(L.map (dj a)).sum=((L.map λf=>if f.live≠0/\i∈f.sc then{f with live:=0}else f).map (dj a)).sum+((L.filter λf=>decide (f.live≠0)&&decide (i∈f.sc)).map λf=>gS f (eV a)).sum:=by
 induction L with
 |nil=>rfl
 |cons f L e=>
  rw[U3,U3,U3,List.sum_cons,List.sum_cons,e];by_cases h:f.live≠0/\i∈f.sc
  .rw[m3 h,List.filter_cons_of_pos (by simpa using h),U3,List.sum_cons];have j:dj a {f with live:=0}=0:=m5 Ξ;have p:dj a f=gS f (eV a):=m3 h.1;omega
  .rw[m5 h,List.filter_cons_of_neg (by simpa using h)];omega
theorem wx{f:bH}(h:f∈(iI s i).d7):∃g∈s.d7,f.sc=g.sc/\f.szs=g.szs/\f.cs=g.cs/\(f.live≠0->f=g/\i∉f.sc):=by
 obtain⟨g,a,rfl⟩:=o8.1 h;refine⟨g,a,?_⟩;split
 .exact⟨rfl,rfl,rfl,λh=>m6 rfl h⟩
 .rename_i h;exact⟨rfl,rfl,rfl,λe=>⟨rfl,λhi=>h ⟨e,hi⟩⟩⟩
theorem SC(a:aY k co s):aY k co (iI s i):=⟨a.dH,a.c5,a.zero,a.d6,a.var,λf e=>by
 obtain⟨g,h,j,p,q,_⟩:=wx e;rw[j,p,q];exact a.d7 g h⟩
theorem SD{e:iC}(a:aY k co s)(h:s.d6[e.v.toNat]?=σ x):aY k co (og s e):=by
 have r:=(x4.1 h).1;rw[GP h];refine⟨a.dH,a.c5,a.zero,by simp[a.d6],λj y z f p=>?_,a.d7⟩;have f:(s.d6.set e.v.toNat {x with gone:=1})[j]?=σ y:=f;rw[Y4]at f;by_cases q:e.v.toNat=j
 .subst q;rw[m3 rfl,m3 r]at f;cases f;exact a.var _ x z h p
 .rw[m5 q]at f;exact a.var j y z f p
structure dX(n:aD)(s:am)(i:Int)(x:bs):Prop where
 has:0<=i/\i<n.co.length
 at_:s.d6[i.toNat]?=σ x
 there:x.gone=0
 wy:(bf n.co s i).length<=3
 small:n.co.getD i.toNat 0*aA (aB n.co (bf n.co s i))<=4096
theorem dX.size(h:dX n s i x)(a:aY n.k n.co s):n.co.getD i.toNat 0=x.un.length/\1<=x.un.length/\x.un.length<=32:=by
 have f:=a.d6;have j:=h.has;obtain⟨z,e⟩:=aF (l:=n.co) (i:=i.toNat) Ω;have p:=(a.var _ x z h.at_ e).1;have q:=a.c5.2.2 z (x5 e);rw[u5,e];show z=_/\_;omega
theorem qy(a:aY k co s):dh (aB co (bf co s i)):=kd a.c5.2.2 λv e=>(js.1 e).1
theorem dX.prod(h:dX n s i x)(a:aY n.k n.co s):aA (aB n.co (bf n.co s i))<=4096:=by
 have h1:=h.small;obtain⟨e,f,_⟩:=h.size a;have j:=kF (qy (i:=i) a);have:=V6 (show 1<=n.co.getD i.toNat 0 by omega) (show 0<=aA (aB n.co (bf n.co s i)) by omega);omega
theorem dX.can(h:dX n s i x)(a:aY n.k n.co s):ey n.co n.k (bf n.co s i,tD n s i x):=by
 refine⟨⟨λv e=>?_,by have:=h.wy;show(bf n.co s i).length<=6;omega⟩,tE,λv e=>(js.1 e).1.2,tB (F:=λA=>(et n.k s i x A).1),h.prod a,show∀c∈tD n s i x,0<=c/\c<=n.k from GJ λA=>SA a h.at_⟩;have:=(js.1 e).1;have:=a.c5.2.1;omega
theorem zQ(e:cd s)(h:aY k co s)(j:v∈bf co s i):cf s v.toNat=rs:=by
 obtain⟨h1,w,f,p,q,x,r⟩:=js.1 j;have z:=h.d6;obtain⟨y,a⟩:=aF (l:=s.d6) (i:=v.toNat) Ω;have:=e f p q v r y a;unfold cf;rw[a];simp[this]
def fb(n:aD)(s:am)(i:Int)(x:bs):am:=og (iI s i) (eW n s i x)
theorem dX.rW(h:dX n s i x):fb n s i x={iI s i with elims:=s.elims++[eW n s i x],d6:=s.d6.set i.toNat {x with gone:=1}}:=GP (s:=iI s i) (e:=eW n s i x) h.at_
theorem dX.qz(h:dX n s i x)(a:aY n.k n.co s):aY n.k n.co (fb n s i x):=SD (e:=eW n s i x) (SC a) h.at_
theorem dX.rX(h:dX n s i x)(f:aY n.k n.co s)(j:Nat):cf (fb n s i x) j=(cf s j||decide (j=i.toNat)):=by
 have a:=(x4.1 h.at_).1;rw[h.rW];unfold cf;show(match(s.d6.set i.toNat {x with gone:=1})[j]? with|some x=>decide (x.gone≠0)|none=>rs)=_;rw[Y4];by_cases e:i.toNat=j
 .subst e;rw[m3 rfl,m3 a];simp
 .rw[m5 e,ms (λh=>e h.symm),Bool.or_false];cases s.d6[j]?<;>rfl
theorem dX.wz(h:dX n s i x)(a:aY n.k n.co s)(f:cd s):∀v∈bf n.co s i,cf (fb n s i x) v.toNat=rs:=λv e=>by
 obtain⟨h1,j,_⟩:=js.1 e;have:=h.has;rw[h.rX a,zQ f a e,ms Ω];rfl
theorem dX.SE(h:dX n s i x)(q:aY n.k n.co s)(I:v∈aL x)(V:a.length=s.d6.length):
  kV s (a.set i.toNat v)=kV (fb n s i x) a/\min (io s (a.set i.toNat v)) n.k=min (io (fb n s i x) a+dP n.k x.un i (br s i) (fJ (eV a) i v)) n.k:=by
 have W:=(x4.1 h.at_).1;obtain⟨y,r⟩:=aF (l:=a) (i:=i.toNat) Ω;have w:(s.d6.zip a)[i.toNat]?=σ (x,y):=T3.2 ⟨h.at_,r⟩;have J:=(x4.1 w).1;have K:=h.there;have M:=jq.1 I;have z:(fb n s i x).d6.zip a=(s.d6.zip a).set i.toNat ({x with gone:=1},y):=by
  rw[h.rW];exact qq r
 have B:s.d6.zip (a.set i.toNat v)=(s.d6.zip a).set i.toNat (x,v):=GQ h.at_;refine⟨?_,?_⟩
 .unfold kV;rw[z,B];refine Sz J ?_;unfold ik;simp[M.2]
 .have C:((s.d6.zip a).map cB)[i.toNat]?=σ (cB (x,y)):=by rw[x8,w];rfl
  have eR:((s.d6.zip (a.set i.toNat v)).map cB).sum=((s.d6.zip a).map cB).sum-cB (x,y)+x.un.getD v.toNat 0:=by
   rw[B,V3,qn C];have:cB (x,v)=x.un.getD v.toNat 0:=m5 (by simpa using K);omega
  have e4:(((fb n s i x).d6.zip a).map cB).sum=((s.d6.zip a).map cB).sum-cB (x,y)+0:=by
   rw[z,V3,qn C];rfl
  have E:∀u,0<=u->eV (a.set i.toNat v) u=fJ (eV a) i v u:=λu j=>by
   have:=h.has;unfold eV fJ;rw[u5,Y4];by_cases e:u=i
   .subst e;rw[m3 rfl,m3 rfl,m3 Ω];rfl
   .rw[m5 Ω,m5 e];exact(u5 ..).symm
  have f1:=SB (a:=a.set i.toNat v) (i:=i) s.d7;have f2:((br s i).map λf=>gS f (eV (a.set i.toNat v)))=(br s i).map λf=>gS f (fJ (eV a) i v):=V2 λf p=>by
   unfold gS;rw[V2 λu j=>E u ((q.d7 f (jS.1 p).1).1.scope.1 u j).1]
  have f3:(iI s i).d7.map (dj (a.set i.toNat v))=(iI s i).d7.map (dj a):=V2 λf p=>by
   obtain⟨g,N,O,X,Y,P⟩:=wx p;unfold dj;split
   .rename_i Q;rw[wq,wq,V2 λu j=>?_];have R:=((q.d7 g N).1.scope.1 u (O▸j)).1;rw[E u R];unfold fJ;rw[m5 λ(e:u=i)=>(P Q).2 (e▸j)]
   .rfl
  have j:=zO (c:=v.toNat) q h.at_;have F:fJ (eV a) i v i=v:=m3 rfl;have G:=GR (i:=i) (x:=x) (A:=fJ (eV a) i v) (L:=br s i) q (λf p=>(jS.1 p).1) (by rw[F];exact j.2);rw[F]at G;rw[G];have g1:(s.d7.map (dj (a.set i.toNat v))).sum=((iI s i).d7.map (dj a)).sum+((br s i).map λf=>gS f (fJ (eV a) i v)).sum:=by
   rw[<-f3,<-f2];exact f1
  have S:(fb n s i x).d7=(iI s i).d7:=by rw[h.rW]
  have T:(fb n s i x).zero=s.zero:=by rw[h.rW];rfl
  have H:=GK (a:=a) (h.qz q);have Z:=mf ((br s i).map λf=>gS f (fJ (eV a) i v)) λc U=>by
   obtain⟨f,p,rfl⟩:=o8.1 U;exact(wu q (jS.1 p).1).1
  unfold io at H ⊢;rw[e4,S,T]at H ⊢;rw[eR,g1];omega
theorem dX.cost(h:dX n s i x)(j:aY n.k n.co s)(w:cd s)(p:eK (fb n s i x) a):cX (aB n.co (bf n.co s i)) (ij a (bf n.co s i)):=by
 have hm:=h.qz j;have E:=hm.d6;rw[wq,qx];intro v q;obtain⟨h1,_⟩:=js.1 q;have A:=h.wz j w v q;obtain⟨y,e⟩:=aF (l:=(fb n s i x).d6) (i:=v.toNat) Ω;obtain⟨z,f⟩:=aF (l:=n.co) (i:=v.toNat) Ω;obtain⟨u,r⟩:=aF (l:=a) (i:=v.toNat) (by have:=p.1;omega);have F:=p.2 _ y u e r;have G:=(hm.var _ y z e f).1;have H:=hm.c5.2.2 z (x5 f);have I:y.gone=0:=by simpa[cf,e]using A
 have B:eV a v=u:=by unfold eV;rw[u5,r];rfl
 have C:n.co.getD v.toNat 0=z:=by rw[u5,f];rfl
 rw[B,C];omega
theorem dX.val(h:dX n s i x)(j:aY n.k n.co s)(z:cd s)(r:eK (fb n s i x) a):
  dO n.k (fa n s i x) a=(gP n.k (aL x) λv=>dO n.k s (a.set i.toNat v)).1/\(aL x≠[]->(et n.k s i x (eV a)).2∈aL x/\dO n.k s (a.set i.toNat (et n.k s i x (eV a)).2)=dO n.k (fa n s i x) a):=by
 have hm:=h.qz j;have E:a.length=s.d6.length:=by rw[r.1,hm.d6,j.d6]
 obtain⟨w,y,q⟩:=GO (a:=a) hm (h.can j) r (h.wz j z);have w:aY n.k n.co (fa n s i x):=w;have y:kV (fa n s i x) a=kV (fb n s i x) a:=y;have q:min (io (fa n s i x) a) n.k=_:=q;have e:bg (aB n.co (bf n.co s i)) (tD n s i x) (ij a (bf n.co s i))=(et n.k s i x (eV a)).1:=
  tC (F:=λA=>(et n.k s i x A).1) (qy j) (λA B G=>by show(et n.k s i x A).1=_;rw[GU j G]) (h.cost j z r)
 rw[e]at q;have H:=GK (a:=a) hm;have I:∀v∈aL x,v≠ -1/\dP n.k x.un i (br s i) (fJ (eV a) i v)<=n.k:=λv p=>⟨ph v p,(wv j (λf J=>(jS.1 J).1) h.at_).2⟩;have p:∀v∈aL x,dO n.k s (a.set i.toNat v)=if kV (fb n s i x) a=ro then min (io (fb n s i x) a+dP n.k x.un i (br s i) (fJ (eV a) i v)) n.k else n.k:=λv p=>by
  obtain⟨K,L⟩:=h.SE j p E;rw[wr j,K,L]
 rw[wr w,y,q];have M:(if kV (fb n s i x) a=ro then min (io (fb n s i x) a+(et n.k s i x (eV a)).1) n.k else n.k)=(gP n.k (aL x) λv=>dO n.k s (a.set i.toNat v)).1:=by
  rw[ws p];split
  .exact Sx H I
  .exact (Sy λv p=>⟨ph v p,rfl⟩).symm
 refine⟨M,λN=>?_⟩;obtain⟨C,O⟩:=zN (k:=n.k) (of:=λv=>dP n.k x.un i (br s i) (fJ (eV a) i v)) ph N;refine⟨C,(p _ C).F ?_⟩;exact congrArg (λc=>if kV (fb n s i x) a=ro then min (io (fb n s i x) a+c) n.k else n.k) O
end
section
variable{n:aD}{s s':am}{i:Int}{x:bs}{a:Λ}{k:Int}{co:Λ}
theorem tF{cs:Λ}(r:aY n.k n.co s)(E:ey n.co n.k (sc,cs)):
  (sc=[]/\eG n s sc cs={s with zero:=min (s.zero+cs.getD 0 0) n.k})\/
  (∃v y,sc=[v]/\s.d6[v.toNat]?=σ y/\cs.length=y.un.length/\eG n s sc cs=dI s v.toNat y (bV n.k y.un cs))\/
  (∃j f,2<=sc.length/\kW s sc=σ j/\s.d7[j]?=σ f/\f.live≠0/\f.sc=sc/\f.szs=aB n.co sc/\f.cs.length=cs.length/\eG n s sc cs=dA s j f (bV n.k f.cs cs))\/
  (2<=sc.length/\kW s sc=ν/\eG n s sc cs=gO s sc (aB n.co sc) cs):=by
 have L:=r.d6;obtain⟨e,p,h,a,q,M⟩:=E
 match sc,e,p,h,a,q with
 |[],e,p,h,a,q=>exact .inl ⟨rfl,rfl⟩
 |[v],e,p,h,a,q=>
  have N:=(e.1 v (.head _)).1;have O:=h v (.head _);obtain⟨y,w⟩:=aF (l:=s.d6) (i:=v.toNat) Ω;obtain⟨z,C⟩:=aF (l:=n.co) (i:=v.toNat) Ω;have F:=r.var _ y z w C;have G:n.co.getD v.toNat 0=z:=by rw[u5,C];rfl
  have H:aB n.co [v]=[z]:=by rw[<-G];rfl
  refine .inr (.inl ⟨v,y,rfl,w,by rw[a,H,F.1];simp[aA],?_⟩);unfold eG;simp only[w]
 |u::v::sc,e,p,h,a,q=>
  cases x:kW s (u::v::sc)with
  |some j=>
   obtain⟨f,A,I,B⟩:=GN x;obtain⟨J,K,P⟩:=r.d7 f (x5 A);refine .inr (.inr (.inl ⟨j,f,Ξ,rfl,A,I,B,by rw[K,B],?_,?_⟩))
   .have:=J.len;rw[B]at this;exact this.F a.symm
   .unfold eG;simp only[x,A]
  |none=>
   refine .inr (.inr (.inr ⟨Ξ,rfl,?_⟩));unfold eG;simp only[x]
theorem GV{y z:bs}{vs:List bs}(a:s.d6[j]?=σ z)(hm:y.mask=z.mask)(f:y.un.length=z.un.length)(i:Int):cZ {s with d6:=s.d6.set j y} i=cZ s i:=by
 have h:=(x4.1 a).1;unfold cZ;show(match(s.d6.set j y)[i.toNat]? with|some x=>aL x|none=>[])=_;rw[Y4];by_cases e:j=i.toNat
 .subst e;rw[m3 rfl,m3 h,a];show aL y=aL z;unfold aL;rw[hm,f]
 .rw[m5 e];rfl
theorem SF{y z:bs}(a:s.d6[j]?=σ z)(f:y.gone=z.gone)(i:Nat):cf {s with d6:=s.d6.set j y} i=cf s i:=by
 have h:=(x4.1 a).1;unfold cf;show(match(s.d6.set j y)[i]? with|some x=>decide (x.gone≠0)|none=>rs)=_;rw[Y4];by_cases e:j=i
 .subst e;rw[m3 rfl,m3 h,a];show decide (y.gone≠0)=decide (z.gone≠0);rw[f]
 .rw[m5 e];rfl
theorem SG{cs:Λ}(x:aY n.k n.co s)(z:ey n.co n.k (sc,cs)):
  (eG n s sc cs).elims=s.elims/\(eG n s sc cs).d7.length<=s.d7.length+1/\jb s (eG n s sc cs)/\(∀j:Nat,cf (eG n s sc cs) j=cf s j)/\(∀i,cZ (eG n s sc cs) i=cZ s i)/\
   ∀f∈(eG n s sc cs).d7,f.live≠0->f.sc=sc\/∃g∈s.d7,g.live≠0/\g.sc=f.sc:=by
 rcases tF x z with⟨rfl,e⟩|⟨v,y,rfl,r,h,e⟩|⟨j,f,A,p,B,E,C,F,h,e⟩|⟨A,p,e⟩
 .rw[e];exact⟨rfl,Nat.le_succ _,(y1 s _).pg,λ_=>rfl,λ_=>rfl,λf p h=>.inr ⟨f,p,h,rfl⟩⟩
 .rw[e];have q:(bV n.k y.un cs).length=y.un.length:=by simp[bV,h]
  exact⟨rfl,Nat.le_succ _,(ti r q).pg,SF r rfl,GV (vs:=[]) r rfl q,λf p h=>.inr ⟨f,p,h,rfl⟩⟩
 .rw[e];have q:(bV n.k f.cs cs).length=f.cs.length:=by simp[bV,h]
  refine⟨rfl,by show(s.d7.set j _).length<=_;simp,(y2 (y:={f with cs:=bV n.k f.cs cs}) B q rfl rfl).pg,λ_=>rfl,λ_=>rfl,λg a w=>?_⟩;rcases T8 a with a|rfl
  .exact .inr ⟨g,a,w,rfl⟩
  .exact .inl C
 .rw[e];refine⟨rfl,by show(s.d7++[_]).length<=_;simp,St s _,λ_=>rfl,λ_=>rfl,λg a w=>?_⟩;rcases o9.1 a with a|a
  .exact .inr ⟨g,a,w,rfl⟩
  .cases b8.1 a;exact .inl rfl
theorem SH(a:aY k co s):eK s (r8 s.d6.length 0):=by
 refine⟨Ξ,λi x v e f=>.inr ?_⟩;have j:=(x4.1 e).1;have p:=a.d6;obtain⟨z,h⟩:=aF (l:=co) (i:=i) Ω;have q:=(a.var _ x z e h).1;have r:=a.c5.2.2 z (x5 h);rw[List.getElem?_replicate,m3 j]at f;cases f;omega
theorem SI:jb s (iI s i):=by
 refine⟨rfl,λj f a=>?_,[],(V1 _).symm⟩;have e:∀(L:List bH)j,(((L.map λf=>if f.live≠0/\i∈f.sc then{f with live:=0}else f).take j).flatMap fT).length=((L.take j).flatMap fT).length:=by
  intro L;induction L with
  |nil=>intro j;rfl
  |cons f L h=>
   intro j;cases j with
   |zero=>rfl
   |succ j=>
    rw[U3,List.take_succ_cons,List.take_succ_cons,U7,U7,p8,p8,h];split
    .rfl
    .rfl
 refine⟨if f.live≠0/\i∈f.sc then{f with live:=0}else f,?_,?_,?_,?_⟩
 .show (s.d7.map _)[j]?=_;rw[x8,a];rfl
 .split<;>rfl
 .split<;>rfl
 .unfold e6;exact congrArg (λm=>3+((s.d6.flatMap iD).length+m)) (e s.d7 j)
structure SJ(n:aD)(s:am)(i:Int)(x:bs)(s':am):Prop where
 ok:aY n.k n.co s'
 pi:cd s'
 pg:jb s s'
 gone:∀j:Nat,cf s' j=(cf s j||decide (j=i.toNat))
 tG:∀j,cZ s' j=cZ s j
 elims:s'.elims=s.elims++[eW n s i x]
 d7:s'.d7.length<=s.d7.length+1
 wk:∀f∈s'.d7,f.live≠0->i∉f.sc
theorem dX.all(h:dX n s i x)(a:aY n.k n.co s)(C:cd s):SJ n s i x (fa n s i x):=by
 have hm:=h.qz a;have F:=h.can a;obtain⟨s1,s2,M,N,O,P⟩:=SG hm F;have z:=h.rW;have X:=(x4.1 h.at_).1;have G:∀j:Nat,cf (fa n s i x) j=(cf s j||decide (j=i.toNat)):=λj=>(N j).F (h.rX a j);have H:∀f∈(fa n s i x).d7,f.live≠0->f.sc=bf n.co s i\/(∃g∈s.d7,g.live≠0/\g.sc=f.sc/\i∉g.sc):=λf p q=>by
  rcases P f p q with e|⟨g,r,A,e⟩
  .exact .inl e
  .rw[z]at r;obtain⟨Q,R,Y,Z,aa,S⟩:=wx r;obtain⟨E,T⟩:=S A;exact .inr ⟨Q,R,E▸A,by rw[<-E];exact e,by rw[<-E];exact T⟩
 have I:∀f∈(fa n s i x).d7,f.live≠0->i∉f.sc:=λf p q=>by
  rcases H f p q with e|⟨g,r,A,e,hi⟩
  .rw[e];intro hi;exact(js.1 hi).2.1 rfl
  .rw[<-e];exact hi
 have J:aY n.k n.co (fa n s i x):=(GO hm F (SH hm) (h.wz a C)).1;refine⟨J,λf p q v w y U=>?_,?_,G,λj=>(O j).F ?_,s1.F (by rw[z]),Y2 s2 (by rw[z];show(s.d7.map _).length+1<=_;simp),I⟩
 .have h1:cf s v.toNat=rs:=by
   rcases H f p q with e|⟨g,r,A,e,hi⟩
   .exact zQ C a (e▸w)
   .have ab:=a.d6;have K:=(a.d7 g r).1;have ac:=K.d6 v (e▸w);have ad:=(K.scope.1 v (e▸w)).1;obtain⟨V,L⟩:=aF (l:=s.d6) (i:=v.toNat) Ω;have:=C g r A v (e▸w) V L;unfold cf;rw[L];simp[this]
  have B:=G v.toNat;have ae:0<=v:=((J.d7 f p).1.scope.1 v w).1;have W:v.toNat≠i.toNat:=λe=>I f p q (by have:=h.has;rw[show i=v by omega];exact w);rw[h1,ms W]at B;unfold cf at B;rw[U]at B;simpa using B
 .refine jb.F (SI (i:=i)) (jb.F (b:=fb n s i x) ?_ M);rw[z];exact Su (s:=iI s i) h.at_ rfl
 .rw[z];exact GV (s:={iI s i with elims:=s.elims++[eW n s i x]}) (y:={x with gone:=1}) (vs:=[]) h.at_ rfl rfl j
theorem wA(f:aY k co s)(p:aY k co s')(h:∀j,cf s' j=cf s j)(w:eK s a):eK s' a:=by
 refine⟨by rw[w.1,f.d6,p.d6],λj y v q B=>?_⟩;have G:=(x4.1 q).1;have h1:=f.d6;have H:=p.d6;obtain⟨x,r⟩:=aF (l:=s.d6) (i:=j) Ω;obtain⟨z,A⟩:=aF (l:=co) (i:=j) Ω;have C:=(f.var j x z r A).1;have E:=(p.var j y z q A).1;have e:=h j;unfold cf at e;rw[r,q]at e;have F:=w.2 j x v r B;simp only[decide_eq_decide]at e;rw[E,<-C];exact F.imp (λh=>e.2 h) id
def dz(n:aD)(s:am)(i most:Int):Int:=if¬(md n s i=ro/\0<=most/\most<=3)then 1 else if most<((bf n.co s i).length:Int)\/4096<n.co.getD i.toNat 0*aA (aB n.co (bf n.co s i))then 12 else 0
theorem SK(a:aY n.k n.co s)(h:dz n s i most=0):∃x,dX n s i x:=by
 unfold dz at h;split at h
 .cases h
 .rename_i h1;split at h
  .cases h
  .rename_i p;have h1:=Z6.1 h1;obtain⟨q,x,e,f⟩:=RD a h1.1;have j:0<=i/\i<n.co.length:=by
    have:=h1.1;unfold md at this;simp at this;omega
   exact⟨x,j,e,f,Ω,Ω⟩
def ml(n:aD)(s:am)(i most:Int):am:=if dz n s i most=0 then match s.d6[i.toNat]? with
 |some x=>fa n s i x
 |none=>s else s
theorem rY(e:aY n.k n.co s)(h:dz n s i most=0):∃x,dX n s i x/\ml n s i most=fa n s i x:=by
 obtain⟨x,a⟩:=SK e h;refine⟨x,a,?_⟩;unfold ml;rw[m3 h,a.at_]
def ip(n:aD)(s:am)(most:Nat):Option Nat:=((Z2 (most+1)).flatMap λd=>(Z2 n.co.length).filter λi:Nat=>decide ((bf n.co s (i:Int)).length=d)&&decide (dz n s (i:Int) (most:Int)=0)).head?
def eX(n:aD)(most:Nat):Nat->am->am×List Nat
 |0,s=>(s,[])
 |m+1,s=>match ip n s most with
  |none=>(s,[])
  |some i=>((eX n most m (ml n s (i:Int) (most:Int))).1,i::(eX n most m (ml n s (i:Int) (most:Int))).2)
theorem qA{most i:Nat}(h:ip n s most=σ i):i<n.co.length/\dz n s (i:Int) (most:Int)=0:=by
 have:=List.mem_of_mem_head? h;obtain⟨d,_,e⟩:=List.mem_flatMap.1 this;obtain⟨f,a⟩:=U8.1 e;rw[V9]at a;exact⟨V7.1 f,by simpa using a.2⟩
theorem GW{most i:Nat}(h:ip n s most=ν)(hi:i<n.co.length):dz n s (i:Int) (most:Int)≠0:=by
 intro a;have h1:=List.head?_eq_none_iff.1 h;have e:(bf n.co s (i:Int)).length<most+1:=by
  unfold dz at a;split at a
  .cases a
  .split at a
   .cases a
   .omega
 have:i∈([]:List Nat):=by
  rw[<-h1];exact List.mem_flatMap.2 ⟨_,V7.2 e,U8.2 ⟨V7.2 hi,by simp[a]⟩⟩
 cases this
def wB(n:aD)(e:iC)(a:Λ):Option (Λ):=match ct (aB n.co e.sc) (ij a e.sc) 0 with
 |some q=>if e.dn.getD q.toNat 0<0 then ν else σ (a.set e.v.toNat (e.dn.getD q.toNat 0))
 |none=>ν
def rZ(n:aD):List iC->Λ->Option (Λ)
 |[],a=>σ a
 |e::L,a=>(rZ n L a).bind (wB n e)
theorem dX.SL(h:dX n s i x)(f:aY n.k n.co s)(r:cd s)(C:eK (fa n s i x) a):
  wB n (eW n s i x) a=if aL x=[]then ν else σ (a.set i.toNat (et n.k s i x (eV a)).2):=by
 have w:=h.all f r;have E:eK (fb n s i x) a:=wA w.ok (h.qz f) (λj=>by rw[w.gone,h.rX f]) C;have y:=h.cost f r E;have e:bg (aB n.co (bf n.co s i)) (eW n s i x).dn (ij a (bf n.co s i))=(et n.k s i x (eV a)).2:=
  tC (F:=λA=>(et n.k s i x A).2) (qy f) (λA B G=>by show(et n.k s i x A).2=_;rw[GU f G]) y
 obtain⟨q,z⟩:=y;unfold bg at e;rw[z]at e;have e:(eW n s i x).dn.getD q.toNat 0=_:=e;unfold wB;show(match ct (aB n.co (bf n.co s i)) (ij a (bf n.co s i)) 0 with
  |some q=>if(eW n s i x).dn.getD q.toNat 0<0 then ν else σ (a.set i.toNat ((eW n s i x).dn.getD q.toNat 0))
  |none=>ν)=_
 rw[z];show(if(eW n s i x).dn.getD q.toNat 0<0 then ν else σ (a.set i.toNat ((eW n s i x).dn.getD q.toNat 0)))=_;rw[e];by_cases p:aL x=[]
 .have:(et n.k s i x (eV a)).2= -1:=by
   unfold et;rw[p];rfl
  rw[m3 p,m3 Ω]
 .have:=ql (zN (k:=n.k) (of:=λv=>dP n.k x.un i (br s i) (fJ (eV a) i v)) ph p).1;rw[m5 p,m5 (by unfold et;omega)]
theorem SM(h:dX n s i x)(r:aY n.k n.co s)(F:cd s)(w:eK (fa n s i x) a)(G:0<=v/\v<x.un.length):eK s (a.set i.toNat v):=by
 have A:=h.all r F;have h1:=r.d6;have K:=A.ok.d6;refine⟨by rw[U4,w.1];omega,λj y u p f=>?_⟩;have L:=(x4.1 p).1;rw[Y4]at f;by_cases e:i.toNat=j
 .subst e;have M:=w.1;rw[m3 rfl,m3 Ω]at f;cases f;have:=h.at_;rw[p]at this;cases this;exact .inr G
 .rw[m5 e]at f;obtain⟨C,B⟩:=aF (l:=(fa n s i x).d6) (i:=j) Ω;obtain⟨z,E⟩:=aF (l:=n.co) (i:=j) Ω;have H:=(r.var j y z p E).1;have I:=(A.ok.var j C z B E).1;have q:=A.gone j;unfold cf at q;rw[p,B,ms (λh=>e h.symm),Bool.or_false]at q;have J:=w.2 j C u B f;simp only[decide_eq_decide]at q;rw[H,<-I];exact J.imp (λh=>q.1 h) id
def goN(s:am):Nat:=s.d6.countP λy=>decide (y.gone=0)
structure oi(n:aD)(s s':am)(l:List Nat):Prop where
 ok:aY n.k n.co s'
 pi:cd s'
 pg:jb s s'
 gone:∀j:Nat,cf s' j=(cf s j||decide (j∈l))
 tG:∀j,cZ s' j=cZ s j
 d7:s'.d7.length<=s.d7.length+l.length
 mem:∀j∈l,j<n.co.length/\cf s j=rs
 nodup:l.Nodup
 elims:∃E:List iC,s'.elims=s.elims++E/\E.length=l.length/\(∀e∈E,e.sc.length<=3/\(∀v∈e.sc,0<=v/\v<n.co.length)/\(0<=e.v/\e.v<n.co.length)/\(e.dn.length:Int)=aA (aB n.co e.sc)/\aA (aB n.co e.sc)<=4096)/\
  ∀a,eK s' a->(rZ n E a=ν/\∃j,j∈l/\cZ s (j:Int)=[])\/∃b,rZ n E a=σ b/\eK s b/\dO n.k s b=dO n.k s' a/\(∀j∈l,∀v,b[j]?=σ v->v∈cZ s (j:Int))/\∀j,j∉l->b[j]?=a[j]?
 least:∀a c,eK s' a->eK s c->(∀j,j∉l->c[j]?=a[j]?)->dO n.k s' a<=dO n.k s c
theorem oi.refl(f:aY n.k n.co s)(p:cd s):oi n s s []:=
 ⟨f,p,.refl _,λj=>Ξ,λ_=>rfl,p9 _,(λ_ h=>by cases h),.nil,⟨[],Ξ,rfl,(λ_ h=>by cases h),λa e=>.inr ⟨a,rfl,e,rfl,(λ_ h=>by cases h),λ_ _=>rfl⟩⟩,λa c e q h=>by
  have:c=a:=j5 λj=>h j Ξ;rw[this];omega⟩
theorem SN(h:dX n s i x)(f:aY n.k n.co s)(C:cd s){c:Λ}(w:eK s c):eK (fa n s i x) c:=by
 have p:=h.all f C;have h1:=f.d6;have H:=p.ok.d6;refine⟨by rw[w.1];omega,λj y u q E=>?_⟩;have I:=(x4.1 q).1;obtain⟨A,r⟩:=aF (l:=s.d6) (i:=j) Ω;obtain⟨z,B⟩:=aF (l:=n.co) (i:=j) Ω;have F:=(f.var j A z r B).1;have G:=(p.ok.var j y z q B).1;have e:=p.gone j;unfold cf at e;rw[q,r]at e;have a:=w.2 j A u r E;rcases a with a|a
 .left;simp only[m7 a,Bool.true_or]at e;exact rc e
 .rw[G,<-F];exact .inr a
theorem GX{a:Λ}(e:aY k co s):dO k s a<=k:=by
 rw[wr e];split<;>omega
theorem oi.cons{l:List Nat}{q:Nat}(hi:i=(q:Int))(h:dX n s i x)(p:aY n.k n.co s)(B:cd s)(k:oi n (fa n s i x) s' l):oi n s s' (q::l):=by
 have r:=h.all p B;subst hi;have Q:cZ s (q:Int)=aL x:=by
  unfold cZ;rw[h.at_]
 have R:q∉l:=λS=>by
  have:=(k.mem q S).2;rw[r.gone]at this;simp at this
 have L:cf s q=rs:=by
  unfold cf;have:=h.at_;rw[u9]at this;rw[this];simp[h.there]
 refine⟨k.ok,k.pi,r.pg.F k.pg,λj=>?_,λj=>(k.tG j).F (r.tG j),Y2 k.d7 (by have:=r.d7;simp;omega),λj z=>?_,List.nodup_cons.2 ⟨R,k.nodup⟩,?_,λa c I M T=>?_⟩
 .rw[k.gone,r.gone,u9,Bool.or_assoc];congr 1;simp[T5]
 .rcases T5.1 z with rfl|z
  .exact⟨by have:=h.has;omega,L⟩
  .refine⟨(k.mem j z).1,?_⟩;have:=(k.mem j z).2;rw[r.gone,Bool.or_eq_false_iff]at this;exact this.1
 .obtain⟨E,U,V,W,X⟩:=k.elims;refine⟨eW n s (q:Int) x::E,by rw[U,r.elims];simp,by simp[V],λe he=>?_,λa I=>?_⟩
  .rcases T5.1 he with rfl|he
   .refine⟨h.wy,λv f=>(js.1 f).1,h.has,?_,h.prod p⟩;have:=kF (qy (i:=(q:Int)) p);have ah:(eW n s (q:Int) x).dn.length=(aA (aB n.co (bf n.co s (q:Int)))).toNat:=tB (F:=λA=>(et n.k s (q:Int) x A).2);show((eW n s (q:Int) x).dn.length:Int)=aA (aB n.co (bf n.co s (q:Int)));omega
   .exact W e he
  .rcases X a I with⟨f1,j,f2,f3⟩|⟨b,f1,f2,f3,f4,f5⟩
   .exact .inl ⟨by show(rZ n E a).bind _=ν;rw[f1];rfl,j,.tail _ f2,by rw[<-r.tG];exact f3⟩
   .have N:=h.SL p B f2;have he:rZ n (eW n s (q:Int) x::E) a=wB n (eW n s (q:Int) x) b:=by
     show(rZ n E a).bind _=_;rw[f1];rfl
    rw[he,N];by_cases J:aL x=[]
    .rw[m3 J];exact .inl ⟨rfl,q,.head _,by rw[Q];exact J⟩
    .rw[m5 J];have C:eK (fb n s (q:Int) x) b:=wA r.ok (h.qz p) (λj=>by rw[r.gone,h.rX p]) f2;obtain⟨_,Y⟩:=h.val p B C;obtain⟨v3,v4⟩:=Y J;refine .inr ⟨_,rfl,SM h p B f2 (ql v3),v4.F f3,λj z v f=>?_,λj z=>?_⟩
     .rw[u9,Y4]at f;by_cases e:q=j
      .subst e;have Z:=(x4.1 h.at_).1;have:=f2.1;have h1:=p.d6;have K:=r.ok.d6;rw[m3 rfl,m3 Ω]at f;cases f;rw[Q];exact v3
      .rw[m5 e]at f;rw[<-r.tG];exact f4 j ((T5.1 z).resolve_left λh=>e h.symm) v f
     .rw[T5,not_or]at z;rw[u9,X3 (λh=>z.1 h.symm)];exact f5 j z.2
 .have O:=SN h p B M;have C:eK (fb n s (q:Int) x) c:=wA r.ok (h.qz p) (λj=>by rw[r.gone,h.rX p]) O;have h1:=(h.val p B C).1;have Z:=(x4.1 h.at_).1;obtain⟨u,G⟩:=aF (l:=c) (i:=q) (by have:=M.1;omega);have aa:c.set q u=c:=by
   apply j5;intro j;rw[Y4];by_cases e:q=j
   .subst e;rw[m3 rfl,m3 (x4.1 G).1,G]
   .rw[m5 e]
  have ab:dO n.k (fa n s (q:Int) x) c<=dO n.k s c:=by
   rw[h1];by_cases hm:u∈aL x
   .have K:∀v∈aL x,v≠ -1/\dO n.k s (c.set (q:Int).toNat v)<=n.k:=λv f=>⟨ph v f,GX p⟩;have:=((nk K).1 (R6 _)).2 u hm;rw[u9,aa]at this;exact this
   .have K:∀v∈aL x,v≠ -1/\dO n.k s (c.set (q:Int).toNat v)<=n.k:=λv f=>⟨ph v f,GX p⟩;have ac:=((nk K).1 (R6 _)).1;have ad:kV s c=rs:=by
     unfold kV;rw[List.all_eq_false];refine⟨(x,u),x5 (i:=q) (T3.2 ⟨h.at_,G⟩),?_⟩;have N:=(M.2 q x u h.at_ G).resolve_left (by have:=h.there;omega);have P:dropped x.mask u=ro:=by
      cases P:dropped x.mask u with
      |true=>rfl
      |false=>exact m6 (jq.2 ⟨N,P⟩) hm
     unfold ik;rw[P];simp[h.there]
    rw[wr p (a:=c),ad];simpa using ac
  refine Int.le_trans (k.least a (c.set q (a.getD q 0)) I ?_ λj z=>?_) (Int.le_trans (Int.le_of_eq ?_) ab)
  .refine wA (s:=fa n s (q:Int) x) r.ok r.ok (λ_=>rfl) ⟨by rw[U4];exact O.1,λj y v H f=>?_⟩;rw[Y4]at f;by_cases e:q=j
   .subst e;left;have:=r.gone q;rw[L]at this;unfold cf at this;rw[H]at this;simpa using this
   .rw[m5 e]at f;exact O.2 j y v H f
  .by_cases e:q=j
   .subst e;have ae:=(x4.1 G).1;have ai:=I.1;have aj:=k.ok.d6;have ak:=p.d6;rw[Z3 ae,u5];obtain⟨w,hw⟩:=aF (l:=a) (i:=q) Ω;rw[hw];rfl
   .rw[X3 e];exact T j (by simp[z];exact λh=>e h.symm)
  .have f:∀v:Int,dO n.k (fa n s (q:Int) x) (c.set q v)=dO n.k (fa n s (q:Int) x) c:=λv=>by
    have af:eK (fb n s (q:Int) x) (c.set q v):=by
     refine⟨by rw[U4];exact C.1,λj y ag H f=>?_⟩;rw[Y4]at f;by_cases e:q=j
     .subst e;left;have:=h.rX p q;rw[L]at this;unfold cf at this;rw[H]at this;simpa using this
     .rw[m5 e]at f;exact C.2 j y ag H f
    rw[(h.val p B af).1,h1];rw[u9,ws λv _=>by rw[List.set_set]]
   exact f _
theorem zR(h:dX n s i x)(p:aY n.k n.co s)(r:cd s):goN (fa n s i x)+1=goN s:=by
 have q:=h.all p r;have h1:=p.d6;have w:=q.ok.d6;have key:∀(t:am),goN t=(Z2 t.d6.length).countP λj=>!cf t j:=λt=>by
  have:t.d6=(Z2 t.d6.length).map λj=>t.d6.getD j ⟨0,0,[]⟩:=by
   apply j5;intro j;rw[x8];by_cases a:j<t.d6.length
   .rw[List.getElem?_range a,x6 a];simp[a]
   .rw[Z9 Ω,Z9 Θ];rfl
  unfold goN
  conv=>lhs;rw[this]
  rw[List.countP_map];refine List.countP_congr λj a=>?_;have a:=V7.1 a;unfold cf;rw[x6 a];simp[a]
 rw[key,key,h1,w];have y:i.toNat<n.co.length:=by have:=h.has;omega
 have z:cf s i.toNat=rs:=by
  unfold cf;rw[h.at_];simp[h.there]
 have A:∀m,(Z2 m).countP (λj=>!cf (fa n s i x) j)+(if i.toNat<m then 1 else 0)=(Z2 m).countP (λj=>!cf s j):=λm=>by
  induction m with
  |zero=>simp
  |succ m f=>
   rw[List.range_succ,List.countP_append,List.countP_append,List.countP_singleton,List.countP_singleton,q.gone m];by_cases e:m=i.toNat
   .subst e;rw[m5 (Nat.lt_irrefl _)]at f;rw[m3 (Nat.lt_succ_self _),z];simp;omega
   .rw[ms e,Bool.or_false];by_cases hm:i.toNat<m
    .rw[m3 hm]at f;rw[m3 (show i.toNat<m+1 by omega)];omega
    .rw[m5 hm]at f;rw[m5 (show¬i.toNat<m+1 by omega)];omega
 have:=A n.co.length;rw[m3 y]at this;omega
theorem GY{most:Nat}:∀(m:Nat){s:am},aY n.k n.co s->cd s->oi n s (eX n most m s).1 (eX n most m s).2
 |0,s,a,f=>.refl a f
 |m+1,s,a,f=>by
  unfold eX;cases p:ip n s most with
  |none=>exact .refl a f
  |some i=>
   obtain⟨x,h,e⟩:=rY a (qA p).2;have j:=h.all a f;simp only;rw[e];exact oi.cons rfl h a f (GY m j.ok j.pi)
theorem GZ{most:Nat}:∀(m:Nat){s:am},aY n.k n.co s->cd s->goN s<=m->ip n (eX n most m s).1 most=ν
 |0,s,a,f,h=>by
  show ip n s most=ν;cases j:ip n s most with
  |none=>rfl
  |some i=>
   obtain⟨x,p,e⟩:=rY a (qA j).2;have:=zR p a f;omega
 |m+1,s,a,f,h=>by
  unfold eX;cases j:ip n s most with
  |none=>exact j
  |some i=>
   obtain⟨x,p,e⟩:=rY a (qA j).2;have q:=p.all a f;have:=zR p a f;simp only;rw[e];exact GZ m q.ok q.pi Ω
end
section
variable{w I:x3}{ac ad ak dx:Nat}{A R O M aE:ah}{A9:Nat->ah}{k:Int}{co:Λ}{U:List am}{n:aD}{s u:am}{t:av}{h:List av}{cs:List x1}
structure VP(w:x3)(ak:Nat)(A R:ah)(A9:Nat->ah)(aE O M:ah):Prop where
 o:∀r,O r->r<w.heap.size/\¬A r/\¬R r/\(∀q,¬A9 q r)/\¬aE r/\r≠ak/\¬M r
 m:∀r,M r->r<w.heap.size/\¬A r/\(∀q,¬A9 q r)/\¬aE r/\r≠ak
theorem ch.side{S:ah}(p:ch w ac ad ak A R A9 aE n s u t h cs)(f:af S w I)(e:∀r,r<w.heap.size->S r->¬A r/\¬R r/\(∀q,¬A9 q r)/\¬aE r/\r≠ak):ch I ac ad ak A R A9 aE n s u t h cs:=by
 have z:=f.size;exact⟨⟨p.e7.1.aa f λr a h U=>h.elim (e r a U).1 (e r a U).2.1,p.e7.2⟩,p.jN,p.box.aa f λU=>(e ak p.box.lt U).2.2.2.2 rfl,p.doc.aa f λr a h U=>h.elim (λ⟨q,h⟩=>(e r a U).2.2.1 q h) (e r a U).2.2.2.1,p.apart,
  λr a=>⟨λh=>(p.read r a).1 (oX (λo j U _=>f.aZ r o j U λx=>(e r (p.read r a).2.1 x).2.2.2.1 a) h),by have:=(p.read r a).2.1;omega,(p.read r a).2.2⟩,p.out⟩
theorem ch.G0(p:ch w ac ad ak A R A9 aE n s u t h cs):∀q r,A9 q r->¬aE r:=by
 obtain⟨_,_,_,_,_,_,_,_,_,_,_,_,_,a⟩:=p.doc;exact(a rfl).2
end
theorem G1{w0:x3}{out:x1}{g:Nat}{x:Int}(e:Ext w0 w)(hm:ao .i64 ae w g out l)(f:∀r,li out r->w0.heap.size<=r)(F:l.length<=1000000000)(p:∀v I q,Ext w0 I->ao .i64 ae I q v (l++[x])->(∀r,li v r->w0.heap.size<=r)->K v I):
  aC x7 (Y1 al 1 #[(0,Δ x)]) w λy J=>aC x7 (j6 #[al,al] al #[out,y]) J K:=by
 refine dr al.u ae.i rfl λv4 G H L a s=>?_;refine fU al.u ae.i rfl (hm.W a) s.ls Θ Θ λv5 A M B C E=>?_;have z:=(e.F a).size;exact p _ _ A ((e.F a).then E λr j he=>by have:=f r he;omega) B λr j=>(C r j).elim (f r) λh=>Ω
theorem SO{s:am}{i:Int}:cR s i (j+1)=if gQ s i j=ro then cR s i j++[(j:Int)]else cR s i j:=by
 unfold cR;rw[List.range_succ,List.filter_append];cases a:gQ s i j<;>simp[a]
theorem zS{s:am}{i:Int}:(cR s i j).length<=j:=by
 unfold cR;rw[o4];have:=List.length_filter_le (gQ s i) (Z2 j);rw[List.length_range]at this;exact this
theorem wC(x:bs):(aL x).length<=x.un.length:=by
 unfold aL;have:=List.length_filter_le (λv:Int=>!dropped x.mask v) ((Z2 x.un.length).map λv:Nat=>(v:Int));rw[o4,List.length_range]at this;exact this
def SP(w:x3)(g:Nat)(v:x1)(l:List iC):Prop:=∃E,bj kg 3 ca w g v E/\E.length=l.length/\∀(q:Nat)x e,E[q]?=σ x->l[q]?=σ e->x.v=e.v/\(∃g,ao .i64 ae w g x.aJ e.sc)/\∃g,ao .i64 ae w g x.bv e.dn
def G2(B:Nat)(w:x3)(g:Nat)(v:x1)(l:List iC):Prop:=∃E,bj kg 3 ca w g v E/\E.length=l.length/\∀(q:Nat)x e,E[q]?=σ x->l[q]?=σ e->x.v=e.v/\(∃g,B<=g/\ao .i64 ae w g x.aJ e.sc)/\∃g,B<=g/\ao .i64 ae w g x.bv e.dn
section
variable{w:x3}{ac ad:Nat}{A R:ah}{n:aD}{s:am}{t:av}
theorem SQ(h:bd w ac ad A R n s t)(am:tz s)(a2:s.elims.length<=100000):aj x7 Bv [Γ ac] w λv I=>Ext w I/\∃g,G2 w.heap.size I g v s.elims/\∀r,lc v r->w.heap.size<=r:=by
 obtain⟨⟨a6,a7,a8,ba,S⟩,_⟩:=h;obtain⟨_,_,_,_,_,E,_,_,an,_,_,_,_,P,U⟩:=id S;have bb:E.length=s.elims.length:=U.1;refine az func30 ?_;rw[cW dB.u];simp only[j0,aX];rw[aK bX.p 4 an rfl,e3 jB.u P];refine b2.range E.length (λj out V=>Ext w V/\∃g,G2 w.heap.size V g out (s.elims.take j)/\∀r,lc out r->w.heap.size<=r) Ω ⟨Ext.refl _,0,⟨[],bj.nil _ _ _ _ _,rfl,λq x e h=>by simp at h⟩,λr B=>(gm B).elim⟩ ?_ ?_
 .rintro j out V ap W ⟨z,g,⟨O,C,X,aq⟩,L⟩ au;obtain⟨x,Y⟩:=aF (l:=E) W;obtain⟨e,Q⟩:=aF (l:=s.elims) (i:=j) Ω;obtain⟨bc,Z⟩:=am e (x5 Q);have be:=S.W z;obtain⟨av,aw,ax⟩:=U.2 j x e Y Q;have f2:=aw.ls.W z;have f3:=ax.ls.W z;refine bC Ω ?_;rw[dm rfl jB.u ca.i (P.W z) W,bB ca.p ca.i rfl ((P.W z).range Y)];refine bx ca.i λge bf bg ay aA=>?_;refine cb (vs:=kg x) ca.i rfl rfl (by intro u J;simp[kg]at J;rcases J with rfl|rfl|rfl<;>first|rfl|exact f2.cells.2|exact f3.cells.2) aA λaB aC bh aD=>?_;have M:Ext V aB:=ay.put aC Ω;rw[bB ca.p ca.i rfl aD.range];refine(GA (v:=x.v) (f2.W M) (f3.W M) Ω Ω).X ?_;rintro _ bi _ ⟨aE,aG,aH,g1,bl,rfl,bm,bn,aa,ab⟩;let a:qe:=⟨x.v,aG,aH⟩;refine iV (f:=kg) (a:=a) jB.u ca.i Ω rfl rfl λbo bp aI bq N aJ=>?_;have G:=(M.F aE).F N;have br:=z.size;have bs:=G.size;have bt:=M.size;have bu:=N.size;have af:(s.elims.take j).length=j:=by rw[c7];omega
  refine jo (f:=kg) (a:=a) jB.u ca.i rfl (C.W G) (by simpa using aJ.sl) (by intro u J;simp[kg,a]at J;rcases J with rfl|rfl|rfl<;>first|rfl|exact aa.ls.cells.2|exact ab.ls.cells.2) Ω Ω λbw aL ag aN aO ah=>?_;have bz:∀r,lc out r->r=g/\r<V.heap.size:=λr B=>by obtain⟨ak,bA⟩:=C.li B;omega
  have aQ:Ext w ag:=(z.F G).then ah λr B he=>by have:=L r he;omega
  rw[aM];refine au _ _ ⟨aQ,aL,⟨O++[a],aN,by simp[X,af];omega,λq y f K H=>?_⟩,λr B=>(aO r B).elim (L r) λh=>Ω⟩;have aZ:∀{v:x1}{al:Nat}{l:Λ},w.heap.size<=al->ao .i64 ae aI al v l->∃g,w.heap.size<=g/\ao .i64 ae ag g v l:=λaR hm=>⟨_,aR,bk hm ah λr B he=>by
   obtain⟨ak,c,aS⟩:=dN (C.W G) he;exact cj hm aS Φ B ak⟩
  by_cases aT:q<O.length
  .rw[W8 aT]at K;rw[List.getElem?_take]at H;split at H
   .obtain⟨aU,⟨_,Z,aV⟩,_,aW,aY⟩:=aq q y f K (by rw[List.getElem?_take,m3 Ω];exact H);exact⟨aU,aZ Z (aV.W G),aZ aW (aY.W G)⟩
   .cases H
  .have a1:q=O.length:=by have:=(x4.1 K).1;simp at this;omega
   subst a1;rw[Y9 (p9 _),U5]at K;rw[X,af,List.getElem?_take,m3 Ω,Q]at H;cases K;cases H;exact⟨av,aZ Ω (aa.W N),aZ Ω (ab.W N)⟩
 .rintro out V ap ⟨z,g,C,L⟩;rw[aP,ai];refine⟨λh=>Ω,λ_=>⟨z,g,?_,L⟩⟩;rw[n9 Ω]at C;exact C
theorem SR(h:bd w ac ad A R n s t)(a:tz s)(f:s.elims.length<=100000):aj x7 Bv [Γ ac] w λv I=>Ext w I/\∃g,SP I g v s.elims/\∀r,lc v r->w.heap.size<=r:=by
 refine(SQ h a f).X ?_;rintro v I _ ⟨h1,g,⟨E,j,p,y⟩,z⟩;refine⟨h1,g,⟨E,j,p,λq x e B he=>?_⟩,z⟩;obtain⟨C,⟨_,_,G⟩,_,_,H⟩:=y q x e B he;exact⟨C,⟨_,G⟩,_,H⟩
end
theorem nl(h:l.Pairwise (·< ·)):ez l:=λi j x y a e f=>by
 obtain⟨h1,rfl⟩:=x4.1 e;obtain⟨p,rfl⟩:=x4.1 f;exact X9.1 h i j h1 p a
def nn(s:am)(j:Int):Λ:=match s.d7[j.toNat]? with
 |some f=>f.sc
 |none=>[]
section
variable{n:aD}{s:am}{i:Int}{k:Int}{co:Λ}
theorem qB{m:Nat}{j:Int}:j∈cR s i m↔ ∃q:Nat,q<m/\gQ s i q=ro/\j=(q:Int):=by
 unfold cR;rw[o8];constructor
 .rintro⟨q,e,rfl⟩;obtain⟨h1,a⟩:=U8.1 e;exact⟨q,V7.1 h1,a,rfl⟩
 .rintro⟨q,h1,a,rfl⟩;exact⟨q,U8.2 ⟨V7.2 h1,a⟩,rfl⟩
theorem SS{m:Nat}:(cR s i m).Nodup:=by
 unfold cR;have h:((Z2 m).filter (gQ s i)).Pairwise (·< ·):=List.Pairwise.filter _ List.pairwise_lt_range;unfold List.Nodup;rw[List.pairwise_map];exact h.imp λh=>Ω
theorem zT:∀m,m<=s.d7.length->(cR s i m).map (λj=>s.d7[j.toNat]?)=((s.d7.take m).filter λf=>decide (f.live≠0)&&decide (i∈f.sc)).map σ
 |0,_=>rfl
 |m+1,h=>by
  obtain⟨f,e⟩:=aF (l:=s.d7) (i:=m) Ω;have q:gQ s i m=(decide (f.live≠0)&&decide (i∈f.sc)):=by unfold gQ;rw[e]
  rw[SO,u7,e,l9,List.filter_append,l7,<-zT m Ω,q];by_cases a:(decide (f.live≠0)&&decide (i∈f.sc))=ro
  .rw[m3 a,l7,List.filter_cons_of_pos (p:=λf:bH=>decide (f.live≠0)&&decide (i∈f.sc)) a];simp[e]
  .rw[m5 a,List.filter_cons_of_neg (p:=λf:bH=>decide (f.live≠0)&&decide (i∈f.sc)) a];simp
theorem SU:(cR s i s.d7.length).length=(br s i).length:=by
 have:=congrArg List.length (zT (s:=s) (i:=i) s.d7.length (p9 _));rw[o6,o4,o4]at this;exact this
theorem zU{q:Nat}{j:Int}(h:(cR s i s.d7.length)[q]?=σ j):0<=j/\∃f,s.d7[j.toNat]?=σ f/\(br s i)[q]?=σ f/\f.live≠0/\i∈f.sc:=by
 obtain⟨p,h1,x,rfl⟩:=qB.1 (x5 h);obtain⟨f,r⟩:=aF (l:=s.d7) h1;have e:=congrArg (λl=>l[q]?) (zT (s:=s) (i:=i) s.d7.length (p9 _));simp only[x8,h,Z4,o6]at e;rw[u9,r]at e;have a:(br s i)[q]?=σ f:=by
  unfold br;cases a:(s.d7.filter λf=>decide (f.live≠0)&&decide (i∈f.sc))[q]? with
  |none=>rw[a]at e;cases e
  |some g=>rw[a]at e;cases e;rfl
 have w:=jS.1 (x5 a);exact⟨Ω,f,by rw[u9];exact r,a,w.2.1,w.2.2⟩
theorem SV{m:Λ}(x:aY k co s)(y:m.Perm ((cR s i s.d7.length).flatMap (nn s)))(U:m.Pairwise (·<= ·)):(dedup m m.length).filter (λv=>!decide (v=i))=bf co s i:=by
 obtain⟨h1,z⟩:=yP U (p9 _);refine rA (nl (List.Pairwise.filter _ h1.pair)) (nl tE) λv=>?_;rw[U8,z,o6,y.mem_iff,List.mem_flatMap,js];constructor
 .rintro⟨⟨j,A,a⟩,B⟩;obtain⟨q,e,h,rfl⟩:=qB.1 A;obtain⟨f,p⟩:=aF (l:=s.d7) e;unfold gQ at h;rw[p]at h;rw[V9]at h;unfold nn at a;rw[u9,p]at a;have r:=x5 p;have w:=(x.d7 f r).1;exact⟨⟨(w.scope.1 v a).1,w.d6 v a⟩,by simpa using B,f,r,by simpa using h.1,by simpa using h.2,a⟩
 .rintro⟨H,C,f,p,E,F,G⟩;obtain⟨q,e⟩:=c9.1 p;refine⟨⟨(q:Int),qB.2 ⟨q,(x4.1 e).1,?_,rfl⟩,?_⟩,by simpa using C⟩
  .unfold gQ;rw[e];simp[E,F]
  .unfold nn;rw[u9,e];exact G
def kX(s:am)(L:Λ):am:=L.foldl (λs j=>kQ s j.toNat) s
theorem SX:(kQ s j).d7=s.d7.mapIdx (λq f=>if q=j then{f with live:=0}else f)/\(kQ s j).d6=s.d6/\(kQ s j).zero=s.zero/\(kQ s j).elims=s.elims:=by
 unfold kQ;split
 .rename_i f a;refine⟨?_,rfl,rfl,rfl⟩;apply j5;intro q;rw[Y4,List.getElem?_mapIdx];by_cases e:j=q
  .subst e;rw[m3 rfl,m3 (x4.1 a).1,a];simp
  .rw[m5 e];cases s.d7[q]? with
   |none=>rfl
   |some g=>simp[show¬q=j from λh=>e h.symm]
 .rename_i a;refine⟨?_,rfl,rfl,rfl⟩;apply j5;intro q;rw[List.getElem?_mapIdx];cases p:s.d7[q]? with
  |none=>rfl
  |some g=>
   have:q≠j:=λe=>by subst e;rw[a]at p;cases p
   simp[this]
theorem zV:∀(L:Λ)(s:am),(∀j∈L,0<=j)->(kX s L).d7=s.d7.mapIdx (λq f=>if(q:Int)∈L then{f with live:=0}else f)/\(kX s L).d6=s.d6/\(kX s L).zero=s.zero/\(kX s L).elims=s.elims
 |[],s,_=>by
  refine⟨?_,rfl,rfl,rfl⟩;show s.d7=_;apply j5;intro q;rw[List.getElem?_mapIdx];cases s.d7[q]?<;>simp
 |j::L,s,h=>by
  obtain⟨h1,p,r,w⟩:=SX (s:=s) (j:=j.toNat);obtain⟨x,y,z,A⟩:=zV L (kQ s j.toNat) λq B=>h q (.tail _ B);have C:=h j (.head _);refine⟨?_,y.F p,z.F r,A.F w⟩;show(kX (kQ s j.toNat) L).d7=_;rw[x,h1];apply j5;intro q;rw[List.getElem?_mapIdx,List.getElem?_mapIdx,List.getElem?_mapIdx];cases s.d7[q]? with
  |none=>rfl
  |some f=>
   simp only[Z4,T5];by_cases e:q=j.toNat
   .rw[m3 e,m3 (Or.inl Ω)];split<;>rfl
   .rw[m5 e];by_cases a:(q:Int)∈L
    .rw[m3 a,m3 (.inr a)]
    .rw[m5 a,m5 (λh=>h.elim (λh=>e Ω) a)]
theorem SY:kX s (cR s i s.d7.length)=iI s i:=by
 obtain⟨h1,h,r,w⟩:=zV (cR s i s.d7.length) s λj z=>by obtain⟨q,_,_,rfl⟩:=qB.1 z;omega
 have:(kX s (cR s i s.d7.length)).d7=(iI s i).d7:=by
  rw[h1];apply j5;intro q;show _=(s.d7.map _)[q]?;rw[List.getElem?_mapIdx,x8];cases x:s.d7[q]? with
  |none=>rfl
  |some f=>
   simp only[Z4];congr 1;by_cases a:f.live≠0/\i∈f.sc
   .rw[m3 a,m3 (qB.2 ⟨q,(x4.1 x).1,by unfold gQ;rw[x];simp[a.1,a.2],rfl⟩)]
   .rw[m5 a,m5];intro hm;obtain⟨p,_,y,e⟩:=qB.1 hm;have:p=q:=Ω
    subst this;unfold gQ at y;rw[x]at y;exact a (by simpa using y)
 cases hk:kX s (cR s i s.d7.length);rw[hk]at this h r w;unfold iI;simp only at this h r w;rw[h,r,w,this];rfl
theorem SZ{q:Nat}{j:Int}(h:(cR s i s.d7.length)[q]?=σ j):0<=j/\eL (kX s ((cR s i s.d7.length).take q)) j.toNat=ro:=by
 obtain⟨e,f,r,_,w,_⟩:=zU h;refine⟨e,?_⟩;have h1:=(zV ((cR s i s.d7.length).take q) s λj x=>by obtain⟨q,_,_,rfl⟩:=qB.1 (U1 x);omega).1;have y:(j.toNat:Int)∉(cR s i s.d7.length).take q:=λhm=>by
  obtain⟨p,a⟩:=c9.1 hm;rw[List.getElem?_take]at a;split at a
  .rw[show((j.toNat:Nat):Int)=j by omega]at a;obtain⟨z,A⟩:=x4.1 a;obtain⟨B,C⟩:=x4.1 h;exact X9.1 (SS (s:=s) (i:=i) (m:=s.d7.length)) p q z B Ω (A.F (C.symm.F (by congr 1)))
  .cases a
 unfold eL;rw[h1,List.getElem?_mapIdx,r];simp only[Z4,m5 y];simp[w]
theorem S1{q:Nat}{j:Int}(h:(cR s i s.d7.length)[q]?=σ j):kQ (kX s ((cR s i s.d7.length).take q)) j.toNat=kX s ((cR s i s.d7.length).take (q+1)):=by
 unfold kX;rw[u7,h,l9,List.foldl_append];rfl
def bW(co:Λ)(i:Int)(L:List bH):Λ:=((Z2 co.length).map λv:Nat=>(v:Int)).filter λv=>decide (v=i)||L.any λf=>decide (v∈f.sc)
theorem km{L:List bH}:v∈bW co i L↔(0<=v/\v<co.length)/\(v=i\/∃f∈L,v∈f.sc):=by
 unfold bW;rw[U8,o8,Bool.or_eq_true,List.any_eq_true,pl];constructor
 .rintro⟨⟨q,e,rfl⟩,h⟩;have:=V7.1 e;exact⟨Ω,h.imp id λ⟨f,h1,a⟩=>⟨f,h1,by simpa using a⟩⟩
 .rintro⟨h1,h⟩;exact⟨⟨v.toNat,V7.2 Ω,Ω⟩,h.imp id λ⟨f,h1,a⟩=>⟨f,h1,by simpa using a⟩⟩
theorem mm{L:List bH}:ez (bW co i L):=by
 unfold bW;refine nl (List.Pairwise.filter _ ?_);rw[List.pairwise_map];exact List.pairwise_lt_range.imp λh=>Ω
theorem S2(h:0<=i/\i<co.length):bW co i []=[i]:=rA mm (nl Ξ) λv=>by
 rw[km];simp;omega
theorem S3{L:List bH}{f:bH}{d6:Λ}(j:∀v∈f.sc,0<=v/\v<co.length)(h:rz (bW co i L) f.sc d6):d6=bW co i (L++[f]):=rA h.1 mm λv=>by
 rw[h.2,km,km];constructor
 .rintro (⟨h1,p⟩|h1)
  .exact⟨h1,p.imp id λ⟨g,a,e⟩=>⟨g,List.mem_append_left _ a,e⟩⟩
  .exact⟨j v h1,.inr ⟨f,Ξ,h1⟩⟩
 .rintro⟨h1,rfl|⟨g,a,e⟩⟩
  .exact .inl ⟨h1,.inl rfl⟩
  .rcases o9.1 a with a|a
   .exact .inl ⟨h1,.inr ⟨g,a,e⟩⟩
   .cases b8.1 a;exact .inr e
theorem G3{e f d6:Λ}(s:ez e)(w:ez f)(x:∀v∈d6,0<=co.getD v.toNat 0)(h:rz e f d6):dE (aB co e) e (aB co f) f d6=aB co d6:=by
 have key:∀{l:Λ}(j:ez l)(p:Int),fi (aB co l) (ih l p)=if p∈l then co.getD p.toNat 0 else 0:=λ{l}j p=>by
  by_cases a:p∈l
  .rw[m3 a];obtain⟨q,r⟩:=c9.1 a;rw[p7 j r];unfold fi aB;rw[m3 Ω,u9,u5,x8,r];rfl
  .rw[m5 a,EN a];rfl
 unfold dE;refine V2 λp a=>?_;have:=x p a;rw[key s,key w];rcases(h.2 p).1 a with h1|h1
 .rw[m3 h1];split<;>omega
 .rw[m3 h1];split<;>omega
theorem Ta{a e d6:Λ}(j:ez a)(s:ez e):qa (aB co a) a (aB co e) e d6:=λp _ w x=>by
 obtain⟨q,f⟩:=c9.1 w;obtain⟨r,h⟩:=c9.1 x;rw[p7 j f,p7 s h];unfold fi aB;rw[m3 Ω,m3 Ω,u9,u9,u5,u5,x8,x8,f,h]
theorem Tb{e f d6:Λ}{F G:(Int->Int)->Int}(U:dh (aB co d6))(B:ez e)(C:ez f)(h:rz e f d6)(E:tA e F)(H:tA f G):
  n5 (aB co e) (er (aB co e) e F) e (aB co f) (er (aB co f) f G) f d6 k=er (aB co d6) d6 λA=>min (F A+G A) k:=by
 have I:∀v∈d6,1<=co.getD v.toNat 0:=λv a=>(U _ (o8.2 ⟨v,a,rfl⟩)).1;have p:∀{l:Λ},(∀v∈l,v∈d6)->dh (aB co l):=λJ z K=>by
  obtain⟨v,a,rfl⟩:=o8.1 K;exact U _ (o8.2 ⟨v,J v a,rfl⟩)
 have r:∀v∈e,v∈d6:=λv a=>(h.2 v).2 (.inl a);have s:∀v∈f,v∈d6:=λv a=>(h.2 v).2 (.inr a);unfold n5 er;rw[G3 B C (λv a=>by have:=I v a;omega) h];refine V2 λq j=>?_;have j:=V7.1 j;have L:=rg U j;have M:(b1 (aB co d6) (q:Int)).length=d6.length:=by rw[ix];simp[aB]
 have w:∀v∈d6,0<=fW d6 (b1 (aB co d6) (q:Int)) v/\fW d6 (b1 (aB co d6) (q:Int)) v<co.getD v.toNat 0:=qx.1 (by rw[zM h.1 M];exact L);have x:=tC (szs:=aB co e) (sc:=e) (F:=F) (A:=fW d6 (b1 (aB co d6) (q:Int))) (p r) E (qx.2 λv a=>w v (r v a));have y:=tC (szs:=aB co f) (sc:=f) (F:=G) (A:=fW d6 (b1 (aB co d6) (q:Int))) (p s) H (qx.2 λv a=>w v (s v a));unfold er at x y;exact congrArg (min · k) (congr (congrArg (·+ ·) x) y)
theorem G4{un:Λ}{L:List bH}(hi:0<=i/\i<co.length)(j:∀f∈L,∀v∈f.sc,0<=v/\v<co.length):tA (bW co i L) (dP k un i L):=λA B h=>
 GS (h i (km.2 ⟨hi,.inl rfl⟩)) λf a v e=>h v (km.2 ⟨j f a v e,.inr ⟨f,a,e⟩⟩)
theorem Tc{f:bH}:tA f.sc (gS f):=λA B h=>by
 unfold gS;rw[V2 h]
theorem zW(E:aY k co s)(hi:0<=i/\i<co.length)(x:(bW co i (br s i))[pos]?=σ i):
  (bW co i (br s i)).take pos++(bW co i (br s i)).drop (pos+1)=bf co s i/\bW co i (br s i)=(bf co s i).take pos++[i]++(bf co s i).drop pos:=by
 have y:=mm (co:=co) (i:=i) (L:=br s i);generalize F:bW co i (br s i)=l at x y;obtain⟨S,G⟩:=x4.1 x;have r:l=l.take pos++[i]++l.drop (pos+1):=by
  rw[<-G,X0];simp
 have z:∀v,v∈l↔v=i\/v∈bf co s i:=λv=>by
  rw[<-F,km];constructor
  .rintro⟨h1,rfl|⟨f,H,j⟩⟩
   .exact .inl rfl
   .exact zP E H j
  .rintro (rfl|h)
   .exact⟨hi,.inl rfl⟩
   .obtain⟨h1,A,f,I,J,K,M⟩:=js.1 h;exact⟨h1,.inr ⟨f,jS.2 ⟨I,J,K⟩,M⟩⟩
 have N:=y.pair;have p:=N;rw[r]at p;have O:(l.take pos++l.drop (pos+1)).Pairwise (·< ·):=by
  rw[X0,List.pairwise_append]at p;obtain⟨B,q,w⟩:=p;rw[List.singleton_append,List.pairwise_cons]at q;rw[List.pairwise_append];exact⟨B,q.2,λa P b Q=>w a P b (by simp[Q])⟩
 have R:i∉l.take pos++l.drop (pos+1):=λhm=>by
  rw[X0,List.pairwise_append]at p;obtain⟨B,q,w⟩:=p;rw[List.singleton_append,List.pairwise_cons]at q;rcases o9.1 hm with hm|hm
  .have:=w i hm i Ξ;omega
  .have:=q.1 i hm;omega
 have C:l.take pos++l.drop (pos+1)=bf co s i:=by
  refine rA (nl O) (nl tE) λv=>?_;constructor
  .intro j;have h1:v∈l:=by
    rw[r];rcases o9.1 j with h|h<;>simp[h]
   exact((z v).1 h1).resolve_left λe=>R (e▸j)
  .intro j;have h1:=(z v).2 (.inr j);rw[r,X0,o9,o9,b8]at h1;have A:=(js.1 j).2.1;rw[o9];exact h1.imp id λh=>h.resolve_left A
 refine⟨C,?_⟩;have T:(l.take pos).length=pos:=Θ
 rw[<-C,List.take_append_of_le_length Ω,n9 Ω,List.drop_append_of_le_length Ω,List.drop_of_length_le Ω,List.nil_append];exact r
theorem zX{k:Int}{f:Int->Int}:∀(l:Λ),(∀v∈l,0<=v)->∀(p:Int×Int),(p.1= -1\/0<=p.1)->l.foldl (oO f) p=((l.foldl (im f) (p.2,p.1)).2,(l.foldl (im f) (p.2,p.1)).1)
 |[],_,p,_=>rfl
 |v::l,h,p,r=>by
  have s:=h v (.head _);rw[List.foldl_cons,List.foldl_cons];by_cases a:p.1<0\/f v<p.2
  .have e:oO f p v=(v,f v):=m3 a;have j:im f (p.2,p.1) v=(f v,v):=m3 (a.imp (λh=>by show p.1= -1;omega) id);rw[e,j,zX (k:=k) l (λu q=>h u (.tail _ q)) (v,f v) (.inr s)]
  .have e:oO f p v=p:=m5 a;have j:im f (p.2,p.1) v=(p.2,p.1):=m5 λh=>a (h.imp (λh=>by have h:p.1= -1:=h;omega) id);rw[e,j,zX (k:=k) l (λu q=>h u (.tail _ q)) p r]
theorem Td{x:bs}(h:aY k co s)(hi:0<=i/\i<co.length)(H:s.d6[i.toNat]?=σ x)(I:(bW co i (br s i))[pos]?=σ i):
  gh (aB co (bW co i (br s i))) pos=aB co (bf co s i)/\
  (nT (aB co (bW co i (br s i))) (er (aB co (bW co i (br s i))) (bW co i (br s i)) (dP k x.un i (br s i))) k pos (aL x)).map (·.1)=er (aB co (bf co s i)) (bf co s i) (λA=>(et k s i x A).2)/\
  (nT (aB co (bW co i (br s i))) (er (aB co (bW co i (br s i))) (bW co i (br s i)) (dP k x.un i (br s i))) k pos (aL x)).map (·.2)=er (aB co (bf co s i)) (bf co s i) (λA=>(et k s i x A).1):=by
 obtain⟨h1,J⟩:=zW h hi I;have K:∀f∈br s i,∀v∈f.sc,0<=v/\v<co.length:=λf r v a=>by
  have C:=(h.d7 f (jS.1 r).1).1;exact⟨(C.scope.1 v a).1,C.d6 v a⟩
 have L:dh (aB co (bW co i (br s i))):=kd h.c5.2.2 λv a=>(km.1 a).1;have M:=qy (i:=i) h;have w:gh (aB co (bW co i (br s i))) pos=aB co (bf co s i):=by
  unfold gh aB;rw[<-S7,<-List.map_drop,<-l7,h1]
 have T:=h.d6;obtain⟨z,y⟩:=aF (l:=co) (i:=i.toNat) Ω;have U:=(h.var _ x z H y).1;have V:=h.c5.2.2 z (x5 y);have N:co.getD i.toNat 0=x.un.length:=by rw[u5,y];show z=_;omega
 have key:∀q:Nat,q<(aA (aB co (bf co s i))).toNat->sE (aB co (bW co i (br s i))) (er (aB co (bW co i (br s i))) (bW co i (br s i)) (dP k x.un i (br s i))) k pos (aL x) (b1 (aB co (bf co s i)) q)=
   ((et k s i x (fW (bf co s i) (b1 (aB co (bf co s i)) q))).2,(et k s i x (fW (bf co s i) (b1 (aB co (bf co s i)) q))).1):=λq p=>by
  have E:=rg M p;have F:(b1 (aB co (bf co s i)) (q:Int)).length=(bf co s i).length:=by rw[ix];simp[aB]
  have B:=zM (nl tE) F;generalize W:b1 (aB co (bf co s i)) (q:Int)=t at E F B;have O:∀v,rf t pos v=(bW co i (br s i)).map (fJ (fW (bf co s i) t) i v):=λv=>by
   have G:∀u∈bf co s i,fJ (fW (bf co s i) t) i v u=fW (bf co s i) t u:=λu j=>m5 (js.1 j).2.1;rw[J,l7,l7,List.map_singleton,V2 λu j=>G u (U1 j),V2 (l:=(bf co s i).drop pos) λu j=>G u (List.mem_of_mem_drop j),S7,List.map_drop,B];unfold rf fJ;rw[m3 rfl]
  have P:∀u∈bf co s i,0<=fW (bf co s i) t u/\fW (bf co s i) t u<co.getD u.toNat 0:=qx.1 (by rw[B];exact E);have Q:∀v∈aL x,bg (aB co (bW co i (br s i))) (er (aB co (bW co i (br s i))) (bW co i (br s i)) (dP k x.un i (br s i))) (rf t pos v)=dP k x.un i (br s i) (fJ (fW (bf co s i) t) i v):=λv a=>by
   have R:=ql a;rw[O];refine tC L (G4 hi K) (qx.2 λu j=>?_);unfold fJ;by_cases e:u=i
   .rw[m3 e,e,N];exact R
   .rw[m5 e];refine P u ?_;obtain⟨g1,S⟩:=km.1 j;obtain⟨f,r,a⟩:=S.resolve_left e;exact(zP h r a).resolve_left e
  unfold sE;rw[zX (k:=k) (aL x) (λv a=>(ql a).1) (-1,k) (.inl rfl)];show((gP k (aL x) _).2,(gP k (aL x) _).1)=_;rw[ws Q];rfl
 refine⟨w,?_,?_⟩
 .unfold nT er;rw[S4,w];refine V2 λq p=>?_;show(sE _ _ _ _ _ _).1=_;rw[show((Z2 (aA (aB co (bW co i (br s i)))).toNat).map λq:Nat=>dP k x.un i (br s i) (fW (bW co i (br s i)) (b1 (aB co (bW co i (br s i))) q)))=er (aB co (bW co i (br s i))) (bW co i (br s i)) (dP k x.un i (br s i))from rfl,key q (V7.1 p)]
 .unfold nT er;rw[S4,w];refine V2 λq p=>?_;show(sE _ _ _ _ _ _).2=_;rw[show((Z2 (aA (aB co (bW co i (br s i)))).toNat).map λq:Nat=>dP k x.un i (br s i) (fW (bW co i (br s i)) (b1 (aB co (bW co i (br s i))) q)))=er (aB co (bW co i (br s i))) (bW co i (br s i)) (dP k x.un i (br s i))from rfl,key q (V7.1 p)]
end
theorem wD{out:x1}{g:Nat}{x:Int}(hm:ao .i64 ap w g out l)(C:l.length<=1000000000000)(e:∀v I f,af (λr=>li out r) w I->ao .i64 ap I f v (l++[x])->(∀r,li v r->li out r\/w.heap.size<=r)->K v I):
  aC x7 (Y1 aw 1 #[(0,Δ x)]) w λy J=>aC x7 (j6 #[aw,aw] aw #[out,y]) J K:=by
 refine dr aw.u ap.i rfl λv4 E F G a j=>?_;refine fU aw.u ap.i rfl (hm.W a) j.ls Θ Θ λv5 p H q s A=>?_;have z:=a.size;exact e _ _ p ((a.aa _).F A) q λr B=>(s r B).imp id λh=>Ω
def pj(l:Λ):Λ:=(l.length:Int)::l
def qC(w:x3)(out v:x1)(l:Λ)(I:x3):Prop:=af (λr=>li out r) w I/\(∃g,ao .i64 ap I g v l)/\∀r,li v r->li out r\/w.heap.size<=r
theorem qC.F{J V:x3}{o v u:x1}{fx:Λ}(h:qC w o v l J)(k:qC J v u fx V):qC w o u fx V:=by
 obtain⟨h1,_,e⟩:=h;obtain⟨f,p,q⟩:=k;have z:=h1.size;have s:=f.size;exact⟨⟨Ω,λr x a U j=>f.aZ r x (h1.aZ r x a U j) U λh=>(e r h).elim j λh=>by have:=(Z5.1 a).1;omega⟩,p,λr a=>(q r a).elim (e r) λh=>.inr Ω⟩
theorem G5{k f:o5}{a:r9}{g:Nat}{v u:x1}{fx:Λ}(h:ao k e w g v l)(bi:ao f a w j u fx)(he:e≠a)(p:af (λr=>li u r) w I):ao k e I g v l:=bk h p λr q s=>by
 obtain⟨z,x⟩:=rK h r q;obtain⟨A,y⟩:=rK bi r s;exact he (eI x y)
theorem Te{k:o5}{a:r9}{g b:Nat}{u:x1}(f:ag w b a cs)(h:ao k e w g u l)(he:e≠a)(j:af (λr=>li u r) w I):ag I b a cs:=f.aa j λp=>by
 obtain⟨s,q⟩:=rK h b p;exact he (eI q f)
theorem wE{out bD:x1}{g f:Nat}{o:Λ}(hm:ao .i64 ap w g out o)(h:ao .i64 ae w f bD l)(M:o.length+l.length<=100000000000):aj x7 Jp [out,bD] w λv I=>qC w out v (o++pj l) I:=by
 refine az func97 ?_;rw[aS al.u h.ls];refine wD hm Ω λz J g1 j A B=>?_;have p:=G5 h hm Φ j;have C:qC w out z (o++[(l.length:Int)]) J:=⟨j,⟨g1,A⟩,B⟩;rw[aS al.u p.ls];refine b2.range l.length (λi a V=>qC w out a (o++(l.length:Int)::l.take i) V/\ao .i64 ae V f bD l) Ω ⟨by rw[List.take_zero];exact C,p⟩ ?_ ?_
 .rintro i a V E hi ⟨e,q⟩ G;obtain⟨x,r⟩:=aF (l:=l) hi;obtain⟨_,⟨N,s⟩,_⟩:=id e;refine bC Ω ?_;rw[be al.u ae.i Ψ q.ls r];refine wD s (by rw[p8,Y3,c7];omega) λv3 O H y K L=>?_;rw[aM];refine G _ _ ⟨e.F ⟨y,⟨H,?_⟩,L⟩,G5 q s Φ y⟩;rw[u7,r];simpa using K
 .rintro a V E ⟨e,_⟩;refine ci Ω ?_;rw[o6]at e;exact e
def fy(s:am)(sc t:Λ):Bool:=(sc.zip t).all λp=>match s.d6[p.1.toNat]? with
 |some x=>decide (p.2∈aL x)
 |none=>rs
section
variable{w:x3}{ac ad:Nat}{A R:ah}{n:aD}{s:am}{t:av}
theorem Tf{d9 aN:x1}{at_:Int}(h:bd w ac ad A R n s t)(f:aI .i64 w aJ sc)(P:aI .i64 w d9 szs)(Q:∀v∈sc,0<=v/\v<n.co.length)(S:aI .i64 w aN tl)(ap:tl.length=sc.length):
  aj x7 Jv [Γ ac,.agg #[aJ,d9,Δ at_],aN] w λr I=>r= .bool (fy s sc tl)/\Ext w I:=by
 have aq:=h.2.2.2.1.d6;refine az func103 ?_;refine bm λg1 J au M j=>?_;have j:ag J g1 dq [aJ,d9,Δ at_]:=by
  obtain⟨_,_,_,U⟩:=cP f;obtain⟨_,_,_,W⟩:=cP P;rw[U,W]at j ⊢;exact j
 rw[aQ dq.p 0 j rfl,aS al.u (f.W M)];refine b2.range sc.length (λi _ V=>Ext w V/\fy s (sc.take i) (tl.take i)=ro) f.le ⟨M,rfl⟩ ?_ ?_
 .rintro i X V Y hi ⟨z,a⟩ Z;obtain⟨v,B⟩:=aF (l:=sc) hi;obtain⟨y,G⟩:=aF (l:=tl) (i:=i) Ω;have N:=Q v (x5 B);obtain⟨x,C⟩:=aF (l:=s.d6) (i:=v.toNat) Ω;refine bC Ω ?_;rw[be al.u ae.i Ψ (f.W z) B];intro av aa _ _;have E:=z.F aa;refine pP rfl al.u ae.i (S.W E) G λb o ab=>?_;rw[ax Ψ ab];refine(lB (i:=v) (h.W E)).X ?_;rintro _ aw _ ⟨⟨b,m,rfl,H⟩,K⟩;refine⟨.inl K,?_⟩;refine(FY H.1).X ?_;rintro _ ay _ ⟨rfl,O⟩;obtain⟨hm,af⟩:=H.2.2 x N.1 C;have aA:=od H N.1 C;have ah:(decide (0<=y/\y<(m:Int))&&b.testBit y.toNat)=decide (y∈aL x):=by
   rw[af,hm];by_cases e:0<=y/\y<(x.un.length:Int)
   .rw[m7 e,V8,m7 Ω,V8,Int.toNat_of_nonneg e.1];have:=F6 e;rw[T1,pl];simpa using this.symm
   .rw[ms e,Bool.false_and];symm;refine ms λhm=>e ?_;unfold aL at hm;obtain⟨h1,_⟩:=U8.1 hm;obtain⟨q,ak,rfl⟩:=o8.1 h1;have:=V7.1 ak;omega
  have am:(sc.take (i+1)).zip (tl.take (i+1))=(sc.take i).zip (tl.take i)++[(v,y)]:=by
   rw[u7,u7,B,G,l9,l9,List.zip_append Θ];rfl
  have an:fy s (sc.take (i+1)) (tl.take (i+1))=decide (y∈aL x):=by
   unfold fy at a ⊢;rw[am,List.all_append,a,V8];simp[C]
  rw[ah,bA,bU];refine⟨λL=>?_,λL=>?_⟩
  .refine⟨?_,(E.F K).F O⟩;congr 1;symm;have ao:(v,y)∈sc.zip tl:=x5 (T3.2 ⟨B,G⟩);unfold fy;rw[List.all_eq_false];exact⟨_,ao,by simp only[C];simpa using L⟩
  .rw[aM];exact Z _ _ ⟨(E.F K).F O,by rw[an];simpa using L⟩
 .rintro X V Y ⟨z,a⟩;rw[aP,ai];refine⟨λh=>Ω,λ_=>⟨?_,z⟩⟩;rw[o6,n9 Ω]at a;rw[a]
end
def kY(x:bs):Λ:=if x.gone≠0 then[]else(aL x).map λv=>x.un.getD v.toNat 0
def mn(x:bs):Λ:=[x.gone]++pj (aL x)++kY x
def kZ(s:am)(f:bH):Λ:=if f.live≠0 then pj f.sc++((bl f.szs).filter (fy s f.sc)).map (bg f.szs f.cs)else[]
def oj(e:iC):Λ:=[-1,e.v]++pj e.sc++pj e.dn
def G6(s:am):Λ:=[s.zero]++s.d6.flatMap mn++s.d7.flatMap (kZ s)++s.elims.flatMap oj
theorem r0(l:Λ):(pj l).length=l.length+1:=rfl
def jc(w I:x3)(ac g1 go:Nat)(l:Λ):Prop:=Ext w I/\ag I g1 dB [Γ ac]/\∃v g,ag I go aw [v]/\ao .i64 ap I g v l/\∀r,li v r->w.heap.size<=r
section
variable{w J V:x3}{ac ad g1 go:Nat}{A R:ah}{n:aD}{s:am}{t:av}{l fx:Λ}
theorem jc.W(h:jc w J ac g1 go l)(a:Ext J V):jc w V ac g1 go l:=by
 obtain⟨h1,e,v,g,f,j,p⟩:=h;exact⟨h1.F a,e.W a,v,g,f.W a,j.W a,p⟩
theorem jc.put{v u:x1}{g:Nat}{K:Unit->x3->Prop}(j:Ext w J)(y:w.heap.size<=go)(f:ag J g1 dB [Γ ac])(e:ag J go aw [u])(hm:ao .i64 ap J g v l)(p:∀r,li v r->w.heap.size<=r)(q:∀V,af (λr=>r=go) J V->jc w V ac g1 go l->K () V):aC x7 (o7 aw (Γ go) v) J K:=by
 have h:=hm.ls.cells;refine bt (g:=go) (o:=0) aw.i h.1 h.2 e Ξ λV a z s=>q V a ⟨j.then a Ω,f.aa a λhe=>?_,v,g,s,bk hm a λr x he=>?_,p⟩
 .have he:=he;subst he;exact m6 (eI f e) Φ
 .have he:r=go:=he;subst he;obtain⟨c,b⟩:=rK hm r x;exact m6 (eI b e) Φ
theorem side{v:x1}{g b:Nat}(a:ag J b e cs)(hm:ao .i64 ap J g v l)(he:ap≠e)(f:af (λr=>li v r) J V):ag V b e cs:=Te a hm he f
theorem tH{u:x1}{b:Nat}(a:ag J b e cs)(h:ag J go aw [u])(he:aw≠e)(f:af (λr=>r=go) J V):ag V b e cs:=a.aa f (by grind [eI])
end
theorem kz{α β:Type}{f:α->List β}{L:List α}{b:Nat}(h:∀a∈L,(f a).length<=b):(L.flatMap f).length<=L.length*b:=by
 induction L with
 |nil=>simp
 |cons a L e=>
  rw[U7,p8,Y3,T7,Nat.one_mul];have:=h a Ξ;have:=e λa j=>h a (by simp[j]);omega
section
variable{w:x3}{ac ad:Nat}{A R:ah}{n:aD}{s:am}{t:av}
theorem Tg(a:aY k co s):∀x∈s.d6,(mn x).length<=66:=λx e=>by
 obtain⟨i,hi⟩:=c9.1 e;have f:=a.d6;have h:=(x4.1 hi).1;obtain⟨j,_⟩:=a.var i x _ hi (x6 Ω);have p:=a.c5.2.2 _ (Q4 (n:=i) Ω);have:=wC x;have q:(kY x).length<=(aL x).length:=by unfold kY;split<;>simp
 unfold mn;rw[p8,p8,r0];simp;omega
theorem Th(e:aY k co s):∀f∈s.d7,(kZ s f).length<=4103:=λf q=>by
 obtain⟨a,h,_⟩:=e.d7 f q;have r:dh f.szs:=by rw[h];exact kd e.c5.2.2 λv j=>⟨(a.scope.1 v j).1,a.d6 v j⟩
 have h1:=j2 r;have w:aA f.szs<=4096:=by rw[h];exact a.small
 have x:=List.length_filter_le (fy s f.sc) (bl f.szs);have p:=a.scope.2;have p:f.sc.length<=6:=p;unfold kZ;split
 .rw[p8,r0,o4];omega
 .simp
theorem G7(h:bd w ac ad A R n s t)(b7:Laid w)(B:tz s)(fL:s.d7.length<=100000)(fM:s.elims.length<=100000):aj x7 IR [Γ ac] w λv I=>Ext w I/\∃g,ao .i64 ap I g v (G6 s)/\∀r,li v r->w.heap.size<=r:=by
 have af:=h.2.2.2.1;have fN:=af.d6;have fO:=af.c5.2.1;have c2:=Tg af;have c3:=Th af;obtain⟨⟨fP,fQ,fR,fS,eg⟩,_⟩:=id h;obtain⟨_,_,_,_,b8,c4,_,_,c6,_,_,_,⟨b9,c8⟩,cc,c9⟩:=id eg;have fV:b8.length=s.d7.length:=c8.1;have fW:=c9.1;refine jj func26 ?_;refine bm λg1 J fX cd a7=>?_;have a7:=a7;rw[ax Ψ (a7.cell rfl),cW dB.u];simp only[j0,aX];rw[ax Ψ (a7.cell rfl)];refine(tp (h.W cd)).X ?_;rintro _ fY _ ⟨rfl,da⟩;refine dr aw.u ap.i rfl λv4 fZ gb gc db dc=>?_;refine bx aw.i λgo gd aO dd O=>?_;have gf:=cd.size;have z3:=da.size;have z4:=db.size;have bG:=(da.F db).F dd;have O:=O;refine jc.put (cd.F bG) Ω (a7.W bG) O (dc.W dd) (λr z=>by obtain⟨e,_⟩:=bE dc z;omega) λgg gh ce=>?_;rw[ax Ψ (ce.2.1.cell rfl)];refine(vT (h.W ce.1)).X ?_;rintro _ gi _ ⟨rfl,eh⟩;have aO:w.heap.size<=go:=Ω
 refine cm.range n.co.length (λi cg=>jc w cg ac g1 go ([s.zero]++(s.d6.take i).flatMap mn)) Ω (by rw[List.take_zero,List.flatMap_nil,V1];exact ce.W eh) ?_ ?_
 .rintro i cg ei hi S ej;obtain⟨x,aq⟩:=aF (l:=s.d6) (i:=i) Ω;have a8:([s.zero]++(s.d6.take i).flatMap mn).length<=100000:=by
   have:=kz (L:=s.d6.take i) (b:=66) λa ba=>c2 a (U1 ba);rw[c7]at this;rw[p8];have P:min i s.d6.length*66<=64*66:=V5 _ Ω;simp only[T4];omega
  generalize bb:[s.zero]++(s.d6.take i).flatMap mn=ah at S a8;have bc:[s.zero]++(s.d6.take (i+1)).flatMap mn=ah++mn x:=by
   rw[<-bb,u7,aq,l9,List.flatMap_append,List.flatMap_singleton,X0]
  refine bC Ω ?_;refine bx ae.i λbe ek gj em ch=>?_;have ch:ag ek be ae [Δ 0]:=ch;refine bt (g:=be) (o:=0) ae.i rfl rfl ch Ξ λgk en gl cj=>?_;have cj:=cj;have eo:=em.put en Ω;intro gm de _ _;have ck:=cj.W de;obtain⟨ai,bH,v,g,O,hm,au⟩:=S.W (eo.F de);obtain⟨gn,gp,gq,gu,aU,gv,L,gw,df,gx,ep,er,gA,gC⟩:=(h.W ai).1.parts;have N:∀{Q:x3}{K:x1->Prop},ag Q g1 dB [Γ ac]->K (Γ ac)->ab x7 (u4 dB (Γ g1)) Q K:=λB av=>by
   rw[ax Ψ (B.cell rfl)];exact av
  have bf:∀{Q:x3}{K:x1->Prop},ag Q be ae [Δ (i:Int)]->K (Δ (i:Int))->ab x7 (u4 ae (Γ be)) Q K:=λB av=>by
   rw[ax Ψ (B.cell rfl)];exact av
  rw[ax Ψ (O.Qz rfl)];refine N bH ?_;rw[aK bX.p 1 df rfl];refine N bH ?_;rw[aK bX.p 2 df rfl];refine bf ck ?_;rw[fm (y:=(i:Int)) (i:=i) rfl al.u ae.i Ψ er.ls (rL Ω)];refine N bH (bf ck ?_);have bJ:t.bO[gN s i+0]?=σ x.gone:=by rw[h.2.1,rD aq Ω];rfl
  refine(oV ep rfl bJ).X ?_;rintro _ gD _ ⟨rfl,cl⟩;refine⟨.inl cl,?_⟩;refine dr aw.u ap.i rfl λgE gF gI gJ dg es=>?_;refine⟨.inl (cl.F dg),?_⟩;have aP:=cl.F dg;have V:=hm.W aP;refine fU aw.u ap.i rfl V es.ls Θ Θ λcn et eu W cp X=>?_;have ev:=ai.size;have gK:=aP.size;have bh:∀r,li cn r->w.heap.size<=r:=λr z=>(cp r z).elim (au r) λh=>Ω
  have ak:=(ai.F aP).then X λr z he=>by have:=au r he;omega
  have di:=side (ck.W aP) V Φ X;have bK:=side (bH.W aP) V Φ X;have cq:=side (O.W aP) V Φ X;refine⟨.inr ⟨mP Ψ (di.cell rfl),mP Ψ (bK.cell rfl),trivial⟩,?_⟩;refine(lB (i:=(i:Int)) (h.W ak)).X ?_;rintro _ gL _ ⟨⟨gM,gO,rfl,dj⟩,bG⟩;refine pV.X ?_;rintro _ dl _ ⟨ew,dn,rfl,gP,cr⟩;have dp:=od dj Ω (by rw[u9];exact aq);have ds:=bG.F ew;have gQ:=wC x;have gR:=(af.var i x _ aq (x6 hi)).1;have gS:=af.c5.2.2 _ (Q4 hi);refine(EI (L:=aL x) (pU (g:=dn) dj.1) (λk vs w hk=>by
    obtain⟨v,az,rfl⟩:=hk;exact⟨v,by rw[<-dp,x8,az];rfl,rfl⟩) (λa b bJ dt=>⟨dt.1.aa bJ λh=>by have:=cr.lt;have h:dl.heap.size<=dn:=h;omega,gH bJ (λh=>by have h:dl.heap.size<=0:=h;have:=cr.lt;omega) dt.2⟩) ⟨cr,b7.W (ak.F ds)⟩ (by rw[<-dp,o4]) Ω).X ?_
  rintro gT gU _ ⟨ey,gV,_,ez⟩;have Y:=ds.F ey;refine(wE (W.W Y) ez Θ).X ?_;rintro bL ct _ ⟨E,⟨du,aC⟩,bi⟩;have eA:=ak.size;have gW:=Y.size;have bM:∀r,li bL r->w.heap.size<=r:=λr z=>(bi r z).elim (bh r) λh=>Ω
  have aD:=(ak.F Y).then E λr z he=>by have:=bh r he;omega
  have eB:=side (di.W Y) (W.W Y) Φ E;have cu:=side (bK.W Y) (W.W Y) Φ E;have bN:=side (cq.W Y) (W.W Y) Φ E;refine jc.put aD aO cu bN aC bM λcw aE bj=>?_;have dv:=tH eB bN Φ aE;refine N bj.2.1 (bf dv ?_);refine(lB (i:=(i:Int)) (h.W bj.1)).X ?_;rintro _ eC _ ⟨⟨eD,eE,rfl,dw⟩,eF⟩;refine pV.X ?_;rintro _ gX _ ⟨eH,dx,rfl,eI,eJ⟩;have dy:=eF.F eH;have dz:=od dw Ω (by rw[u9];exact aq);have dA:=bj.W dy;let dC:=ah++[x.gone]++pj (aL x);refine mz.old ⟨Nat,rs,la,#[Γ dx],_,_,_,_,λq I=>jc w I ac g1 go (dC++(kY x).take q)/\ag I be ae [Δ (i:Int)],λ_ _ _=>False,rfl,(pU (g:=dx) dw.1).s,?_,
   λ_ _ C h=>⟨h.1.W C,h.2.W C⟩,λ_ _ _ C h=>⟨h.1.W C,h.2.W C⟩,λ_ _ _ _ _ h=>h,⟨eJ,b7.W dA.1⟩,⟨by rw[List.take_zero,V1];exact dA,dv.W dy⟩,?_,?_,λ_ _ h=>h.elim,λ_ _ _ h=>h.elim⟩
  .rintro _ _ _ _ ⟨_,_,_,_,rfl⟩;rfl
  .rintro _ q _ dD ⟨dE,eK⟩ ⟨bP,rfl,y,bQ,eM⟩ ⟨bR,cz⟩;cases eM;intro gY cA _ _;have cB:=bR.W cA;have cC:=cz.W cA;have dF:(aL x)[q]?=σ (y:Int):=by rw[<-dz,x8,bQ];rfl
   have dG:=x5 dF;have gZ:0<=(y:Int)/\(y:Int)<x.un.length:=by
    unfold aL at dG;obtain⟨h1,_⟩:=U8.1 dG;obtain⟨j,aG,e⟩:=o8.1 h1;have:=V7.1 aG;omega
   refine N cB.2.1 (bf cC ?_);refine(ni (h.W cB.1)).X ?_;rintro _ g0 _ ⟨rfl,bT⟩;have eN:e8 n i y:=⟨Ω,Ω,Ω,by rw[u9,u5,x6 hi,Option.getD_some];omega⟩;have eO:gB s (i:Int).toNat (y:Int).toNat=x.un.getD y 0:=by
    rw[u9,u9];unfold gB;rw[aq]
   have bk:=cB.W bT;rw[m3 eN,eO,bo,bp];refine N bk.2.1 (bf (cC.W bT) ?_);refine(rM (h.W bk.1)).X ?_;rintro _ g2 _ ⟨rfl,bV⟩;have eP:(decide (0<=(i:Int))&&cf s (i:Int).toNat)=decide (x.gone≠0):=by
    rw[m7 Ω,V8,u9];unfold cf;rw[aq]
   have bW:=(cA.F bT).F bV;rw[eP,bA,bU];refine⟨λaH=>?_,λaH=>?_⟩
   .have aR:¬x.gone≠0:=by simpa using aH
    obtain⟨br,cD,v5,eQ,am,G,bs⟩:=bk.W bV;rw[ax Ψ (am.cell rfl)];have eR:((kY x).take q).length<=100:=by rw[c7];unfold kY;rw[m5 aR,o4];omega
    refine wD G (by simp only[dC,p8,r0,T4];omega) λeS eU eV H cE cF=>?_;have eW:=br.size;have cG:=br.then H λr z he=>by have:=bs r he;omega
    refine jc.put (g1:=g1) cG aO (side cD G Φ H) (side am G Φ H) cE (λr z=>(cF r z).elim (bs r) λh=>Ω) λcH bY aS=>?_;have eX:=tH (side ((cC.W bT).W bV) G Φ H) (side am G Φ H) Φ bY;have cI:=eI;have eY:∀{b:Nat}{e:r9}{cs:List x1},ag dD b e cs->ap≠e->aw≠e->ag cH b e cs:=λB h1 P=>tH (side (B.W bW) G h1 H) (side am G Φ H) P bY;refine⟨⟨eY dE Φ Φ,b7.W aS.1⟩,⟨?_,eX⟩,λh=>by cases h⟩;rw[u7,show(kY x)[q]?=σ (x.un.getD y 0) by unfold kY;rw[m5 aR,x8,dF];rfl,l9,<-X0];exact aS
   .have aR:x.gone≠0:=by simpa using aH
    refine⟨⟨dE.W bW,eK.W bW⟩,⟨?_,cz.W bW⟩,λh=>by cases h⟩;have e:kY x=[]:=by unfold kY;rw[m3 aR]
    rw[e,List.take_nil]at bk ⊢;exact bk.W bV
  .rintro q dD rfl ⟨bR,cz⟩;rw[aM];refine ej _ ?_;rw[bc];have:(kY x).take (fp eD eE).length=kY x:=n9 (by
    unfold kY;split
    .simp
    .rw[o4,<-dz,o4];exact p9 _)
   rw[this]at bR;unfold mn;rw[<-X0,<-X0];exact bR
 .rintro cg ei S;refine ci Ω ?_;rw[n9 Ω]at S;have eZ:([s.zero]++s.d6.flatMap mn).length<=100000:=by
   have:=kz c2;have P:s.d6.length*66<=64*66:=V5 _ Ω;rw[p8];simp only[T4];omega
  have N:∀{Q:x3}{K:x1->Prop},ag Q g1 dB [Γ ac]->K (Γ ac)->ab x7 (u4 dB (Γ g1)) Q K:=λB av=>by
   rw[ax Ψ (B.Qz rfl)];exact av
  refine N S.2.1 ?_;rw[aK bX.p 3 (c6.W S.1) rfl,e3 fe.u (b9.W S.1)];unfold G6;generalize[s.zero]++s.d6.flatMap mn=bD at S eZ;refine cm.range b8.length (λj cJ=>jc w cJ ac g1 go (bD++(s.d7.take j).flatMap (kZ s))) Ω (by rw[List.take_zero,List.flatMap_nil,V1];exact S) ?_ ?_
  .rintro j cJ e0 aG M e1;obtain⟨f,aV⟩:=aF (l:=s.d7) (i:=j) Ω;obtain⟨y,bQ⟩:=aF (l:=b8) aG;obtain⟨⟨⟨bI,aW⟩,_⟩,e2,_⟩:=c8.2 j y f bQ aV;have bZ:=e2.ls;obtain⟨aY,cK,_⟩:=af.d7 f (x5 aV);have b0:dh f.szs:=by rw[cK];exact kd af.c5.2.2 λv az=>⟨(aY.scope.1 v az).1,aY.d6 v az⟩
   have g3:f.sc.length<=6:=aY.scope.2;have e4:f.szs.length=f.sc.length:=by rw[cK];unfold aB;rw[o4]
   have e5:bS f.szs:=⟨Ω,b0⟩;have g4:=j2 b0;have g5:aA f.szs<=4096:=by rw[cK];exact aY.small
   have a8:(bD++(s.d7.take j).flatMap (kZ s)).length<=1000000000:=by
    have:=kz (L:=s.d7.take j) (b:=4103) λa ba=>c3 a (U1 ba);rw[c7]at this;have P:min j s.d7.length*4103<=100000*4103:=V5 _ Ω;rw[p8];omega
   generalize bb:bD++(s.d7.take j).flatMap (kZ s)=ah at M a8;have bc:bD++(s.d7.take (j+1)).flatMap (kZ s)=ah++kZ s f:=by
    rw[<-bb,u7,aV,l9,List.flatMap_append,List.flatMap_singleton,X0]
   refine bC Ω ?_;refine dk (λdH=>jc w dH ac g1 go (ah++kZ s f)) (λdH e6=>by rw[aM];exact e1 _ (by rw[bc];exact e6)) λay dI=>?_;rw[dm rfl fe.u dq.i (b9.W M.1) aG,bB dq.p dq.i rfl ((b9.W M.1).range bQ)];refine bx ae.i λaZ bq g6 b2 a1=>?_;have a1:ag bq aZ ae [Δ 0]:=a1;refine bx dq.i λe7 cU g7 dJ dK=>?_;refine bt (g:=aZ) (o:=0) ae.i rfl rfl (a1.W dJ) Ξ λe9 dL g8 cL=>?_;have cL:=cL;have g9:=b2.size;have ha:=a1.lt;have cM:=(aW.W M.1).ls;have fa:=bZ.W M.1;refine cb (vs:=oW y) dq.i rfl rfl (by intro u bu;simp[oW]at bu;rcases bu with rfl|rfl|rfl<;>first|rfl|exact cM.cells.2|exact fa.cells.2) (dK.aa dL λhe=>by have he:=he;omega) λfb dM hb fc=>?_;have dN:=cL.aa dM λhe=>by have he:=he;omega
   have fd:=((b2.F dJ).then dL λr z he=>by have he:r=aZ:=he;omega).put dM Ω;have cN:=M.W fd;have dO:∀{Q:x3}{K:x1->Prop},ag Q aZ ae [Δ (j:Int)]->K (Δ (j:Int))->ab x7 (u4 ae (Γ aZ)) Q K:=λB av=>by
    rw[ax Ψ (B.cell rfl)];exact av
   refine N cN.2.1 (dO dN ?_);refine(rN (h.W cN.1)).X ?_;rintro _ ff _ ⟨rfl,bw⟩;have dP:=cN.W bw;have fg:(decide (0<=(j:Int))&&eL s (j:Int).toNat)=decide (f.live≠0):=by
    rw[m7 Ω,V8,u9];unfold eL;rw[aV]
   rw[fg,bA,bU];refine⟨λaH=>dI _ ?_,λaH=>?_⟩
   .have aR:¬f.live≠0:=by simpa using aH
    unfold kZ;rw[m5 aR,V1];exact dP
   have cI:f.live≠0:=by simpa using aH
   obtain⟨cO,fh,hc,ge,cP,bz,dQ⟩:=id dP;have fi:=dN.W bw;have dR:=fc.W bw;rw[ax Ψ (cP.Qz rfl),aQ dq.p 0 dR rfl];refine(wE bz (aW.W cO) Ω).X ?_;rintro bL ct _ ⟨E,⟨du,aC⟩,bi⟩;have hd:=cO.size;have aD:Ext w ct:=cO.then E λr z he=>by have:=dQ r he;omega
   refine jc.put (w:=w) (g1:=g1) aD aO (side fh bz Φ E) (side cP bz Φ E) aC (λr z=>(bi r z).elim (dQ r) λh=>Ω) λcw aE bj=>?_;have dS:∀{b:Nat}{e:r9}{cs:List x1},ag ff b e cs->ap≠e->aw≠e->ag cw b e cs:=λB h1 P=>tH (side B bz h1 E) (side cP bz Φ E) P aE;have fj:=dS fi Φ Φ;have dT:=dS dR Φ Φ;rw[aT dq.p rfl,bB (cs:=[y.d9]) bn.p bn.i rfl (λq u bP=>by
    cases q with
    |zero=>cases bP;exact dT.cell (o:=0+1) rfl
    |succ q=>simp at bP)]
   refine p1.X ?_;rintro _ hf _ ⟨cQ,dU,rfl,hg,fk⟩;have cR:=bj.W cQ;have fo:=p0 (g:=dU) (B0:=w.heap.size) (sv:=y.d9) e5;refine mA.old ⟨Nat,rs,kt,#[Γ dU],_,_,_,_,λq I=>jc w I ac g1 go (ah++pj f.sc++(((bl f.szs).take q).filter (fy s f.sc)).map (bg f.szs f.cs))/\ag I aZ ae [Δ (j:Int)]/\ag I e7 dq [y.aJ,y.d9,Δ (y.at_:Int)],λ_ _ _=>False,rfl,fo.s,
    ?_,λ_ _ C h=>⟨h.1.W C,h.2.1.W C,Y2 h.2.2 C.size⟩,λ_ _ _ C h=>⟨h.1.W C,h.2.1.W C,h.2.2.W C⟩,λ_ _ _ _ _ h=>h,⟨fk,bZ.W cR.1,cR.1.size⟩,⟨by rw[List.take_zero,List.filter_nil,List.map_nil,V1];exact cR,fj.W cQ,dT.W cQ⟩,?_,?_,λ_ _ h=>h.elim,λ_ _ _ h=>h.elim⟩
   .rintro _ _ _ _ ⟨_,_,_,_,rfl,_⟩;rfl
   .rintro _ aN q _ dV ⟨dW,fq,fs⟩ ⟨bP,rfl,hh,gt,ft,hj,dX⟩ ⟨b3,cS,cT⟩;cases ft;have b4:(bl f.szs)[q]?=σ (b1 f.szs (q:Int)):=re b0 Ω;generalize b1 f.szs (q:Int)=tl at b4 dX;intro hl b5 _ _;have cV:=b3.W b5;have dY:=(dX.W b5).ls;refine N cV.2.1 (dO (cS.W b5) ?_);refine(tr (h.W cV.1) dY).X ?_;rintro _ hn _ ⟨rfl,cX⟩;have fu:=kG b0 b4;have fv:(jO s j tl).isSome=ro:=by unfold jO;rw[aV];simp only;rw[m3 cI,fu];rfl
    have fw:o2 s j tl=bg f.szs f.cs tl:=by unfold o2;rw[aV]
    have bF:=cV.W cX;rw[m3 fv,fw,bo,bp];refine N bF.2.1 ?_;have dZ:=b5.F cX;rw[bB dq.p dq.i rfl (cT.W dZ).range];refine(Tf (h.W bF.1) ((aW.W bF.1).ls) (bZ.W bF.1) (λv az=>⟨(aY.scope.1 v az).1,aY.d6 v az⟩) (dY.W cX) (by rw[xO b4,e4])).X ?_;rintro _ ho _ ⟨rfl,ea⟩;have eb:=bF.W ea;have a2:=dZ.F ea;have ec:((bl f.szs).take (q+1)).filter (fy s f.sc)=((bl f.szs).take q).filter (fy s f.sc)++(if fy s f.sc tl=ro then[tl]else[]):=by
     rw[u7,b4,l9,List.filter_append];congr 1;cases an:fy s f.sc tl<;>simp[an]
    rw[bU];refine⟨λcY=>?_,λcY=>?_⟩
    .obtain⟨br,cD,v5,eQ,am,G,bs⟩:=eb;rw[ax Ψ (am.cell rfl)];have eR:(((bl f.szs).take q).filter (fy s f.sc)).length<=4096:=by
      have:=List.length_filter_le (fy s f.sc) ((bl f.szs).take q);rw[c7]at this;omega
     refine wD G (by simp only[p8,r0,o4];omega) λeS eU eV H cE cF=>?_;have eW:=br.size;have cG:=br.then H λr z he=>by have:=bs r he;omega
     refine jc.put cG aO (side cD G Φ H) (side am G Φ H) cE (λr z=>(cF r z).elim (bs r) λh=>Ω) λcH bY aS=>?_;have cZ:∀{b:Nat}{e:r9}{cs:List x1},ag dV b e cs->ap≠e->aw≠e->ag cH b e cs:=λB h1 P=>tH (side (B.W a2) G h1 H) (side am G Φ H) P bY;refine⟨⟨cZ dW Φ Φ,bZ.W aS.1,aS.1.size⟩,⟨?_,cZ cS Φ Φ,cZ cT Φ Φ⟩,λh=>by cases h⟩;rw[ec,m3 cY,l7,List.map_singleton,<-X0];exact aS
    .refine⟨⟨dW.W a2,fq.W a2,Y2 fs a2.size⟩,⟨?_,cS.W a2,cT.W a2⟩,λh=>by cases h⟩;rw[ec,m5 (by rw[cY];decide),V1];exact eb
   .rintro q dV rfl ⟨b3,_⟩;refine dI _ ?_;rw[n9 Ω]at b3;unfold kZ;rw[m3 cI,<-X0];exact b3
  .rintro cJ e0 M;refine ci Ω ?_;rw[n9 Ω]at M;have fx:(bD++s.d7.flatMap (kZ s)).length<=1000000000:=by
    have:=kz (b:=4103) c3;have P:s.d7.length*4103<=100000*4103:=V5 _ Ω;rw[p8];omega
   refine N M.2.1 ?_;rw[aK bX.p 4 (c6.W M.1) rfl,e3 jB.u (cc.W M.1)];generalize bD++s.d7.flatMap (kZ s)=b6 at M fx;refine cm.range c4.length (λj c0=>jc w c0 ac g1 go (b6++(s.elims.take j).flatMap oj)) Ω (by rw[List.take_zero,List.flatMap_nil,V1];exact M) ?_ ?_
   .rintro j c0 fz aG Z fA;obtain⟨e,he⟩:=aF (l:=s.elims) (i:=j) Ω;obtain⟨x,C⟩:=aF (l:=c4) aG;obtain⟨bw,⟨⟨bI,aW⟩,_⟩,⟨hp,ed⟩,_⟩:=c9.2 j x e C he;obtain⟨hq,dK⟩:=B e (x5 he);have a8:(b6++(s.elims.take j).flatMap oj).length<=10000000000:=by
     have:=kz (L:=s.elims.take j) (f:=oj) (b:=6004) λa ba=>by
      obtain⟨h1,P⟩:=B a (U1 ba);unfold oj;simp only[p8,r0,Y3,List.length_nil];omega
     rw[c7]at this;have P:min j s.elims.length*6004<=100000*6004:=V5 _ Ω;rw[p8];omega
    generalize bb:b6++(s.elims.take j).flatMap oj=ah at Z a8;have bc:b6++(s.elims.take (j+1)).flatMap oj=ah++oj e:=by
     rw[<-bb,u7,he,l9,List.flatMap_append,List.flatMap_singleton,X0]
    refine bC Ω ?_;rw[dm rfl jB.u ca.i (cc.W Z.1) aG,bB ca.p ca.i rfl ((cc.W Z.1).range C)];refine bx ca.i λge bq hr b2 a1=>?_;have cM:=(aW.W Z.1).ls;have fB:=(ed.W Z.1).ls;refine cb (vs:=kg x) ca.i rfl rfl (by intro u bu;simp[kg]at bu;rcases bu with rfl|rfl|rfl<;>first|rfl|exact cM.cells.2|exact fB.cells.2) a1 λcU fD hs a6=>?_;have fE:=b2.put fD Ω;intro e9 ee _ _;have a6:=a6.W ee;obtain⟨ai,U,v,g,O,hm,au⟩:=Z.W (fE.F ee);rw[ax Ψ (O.cell rfl),aQ ca.p 0 a6 rfl,aQ ca.p 1 a6 rfl,aQ ca.p 2 a6 rfl,bw];refine uR (l:=[-1,e.v]) aw.u ap.i Ω rfl Ψ λht hu fb hv aI fF=>?_;refine⟨.inl aI,?_⟩;have V:=hm.W aI;refine fU aw.u ap.i rfl V fF.ls Θ Θ λcn et eu W cp X=>?_;have ev:=ai.size;have hx:=aI.size;have bh:∀r,li cn r->w.heap.size<=r:=λr z=>(cp r z).elim (au r) λh=>Ω
    have ak:=(ai.F aI).then X λr z he=>by have:=au r he;omega
    have c1:=side (a6.W aI) V Φ X;have bK:=side (U.W aI) V Φ X;have cq:=side (O.W aI) V Φ X;refine⟨.inr ⟨mP Ψ (c1.cell rfl),Go.Vc.kK λK=>aT ca.p rfl,mP Ψ (c1.cell rfl),Go.Vc.kK λK=>aT ca.p rfl,trivial⟩,?_⟩;refine(wE W (aW.W ak) Θ).X ?_;rintro bL ct _ ⟨E,⟨du,aC⟩,bi⟩;have eA:=ak.size;have bM:∀r,li bL r->w.heap.size<=r:=λr z=>(bi r z).elim (bh r) λh=>Ω
    have aD:=ak.then E λr z he=>by have:=bh r he;omega
    have fG:=side c1 W Φ E;have cu:=side bK W Φ E;have bN:=side cq W Φ E;refine⟨.inr ⟨mP Ψ (fG.cell rfl),Go.Vc.kK λK=>aT ca.p rfl,trivial⟩,?_⟩;refine(wE aC (ed.W aD) (by simp[r0];omega)).X ?_;rintro hy cw _ ⟨aE,⟨hz,fH⟩,fI⟩;have hA:=aD.size;have fJ:=aD.then aE λr z he=>by have:=bM r he;omega
    refine jc.put fJ aO (side cu aC Φ aE) (side bN aC Φ aE) fH (λr z=>(fI r z).elim (bM r) λh=>Ω) λeC hB fK=>?_;rw[aM];refine fA _ ?_;rw[bc];unfold oj;rw[<-X0,<-X0];exact fK
   .rintro c0 fz Z;refine ci Ω ?_;rw[n9 Ω]at Z;obtain⟨ai,U,v,g,O,hm,au⟩:=Z;rw[ax Ψ (O.cell rfl)];intro hC ef _;exact⟨ai.F ef,g,hm.W ef,au⟩
end
end Go.Proofs.YtkcigodpbndobaaGreatDoor
namespace Go.Vc
open Go Go.RowKit Go.Shelf Go.Proofs Go.Sort
theorem Ti{g m:Nat}{os:Array Obj}(a:ag w g e cs)(s:l.length<=cs.length):
  ag (Sort.grow (putRow (X2 .i64) (Sort.ahead w m) g 0 l.toArray) os) g e (ints .i64 l++cs.drop l.length)/\∀r,r<w.heap.size->r≠g->(Sort.grow (putRow (X2 .i64) (Sort.ahead w m) g 0 l.toArray) os).heap[r]?=w.heap[r]?:=by
 have p:=a.lt;have f:∀r,r<w.heap.size->(Sort.grow (putRow (X2 .i64) (Sort.ahead w m) g 0 l.toArray) os).heap[r]?=(w.heap.modify g (onCells (putCells (X2 .i64) 0 l.toArray)))[r]?:=λr j=>by
  show((w.heap.modify g (onCells (putCells (X2 .i64) 0 l.toArray)))++os)[r]?=_
  grind
 refine⟨?_,λr j q=>?_⟩
 .unfold ag at a ⊢;rw[f g p,Array.getElem?_modify,m3 rfl,a];show σ (Obj.cells (putCells (X2 .i64) 0 l.toArray cs.toArray) e (0,0))=_;refine congrArg σ (congrArg (λc=>Obj.cells c e (0,0)) ?_);apply Array.ext
  .simp[Sort.putCells,ints];omega
  .intro i h1 x;have h1:i<cs.length:=by simpa[Sort.putCells]using h1
   simp only[Sort.putCells,Array.getElem_mapIdx,List.getElem_toArray,List.size_toArray];by_cases h:i<l.length
   .rw[m3 Ω,List.getElem_append_left (by simpa[ints]using h)];simp[ints,h]
   .rw[m5 Ω,List.getElem_append_right (by simp[ints];omega)];simp[ints];congr 1;omega
 .rw[f r j,Array.getElem?_modify,m5 (λe=>q e.symm)]
theorem Tj{P:X5}{B:Ren}(L:Lays.n189 P B){g:Nat}{v:x1}(h:ao .i64 e w g v l)(W:l.length<1000000):
  aj P (B.f 189) [v] w λ_ I=>af (λr=>r=g) w I/\∃m,m.Perm l/\m.Pairwise (·<= ·)/\ao .i64 e I g v m:=by
 have G:=enters_of L.f189 Ψ rfl;have H:∀p c,v= .slice p 0 c->l=[]->aj P (B.f 189) [v] w λ_ I=>af (λr=>r=g) w I/\∃m,m.Perm l/\m.Pairwise (·<= ·)/\ao .i64 e I g v m:=λp c J R=>by
  refine .code G ?_;rw[J];refine(calls_of_every_depth λD=>AnyS.slices_Sort_int_none_in L D p c w).X ?_;rintro X I ⟨rfl,rfl⟩;exact⟨_,rfl,cC.refl _,af.refl _ _,l,.refl _,by rw[R];exact .nil,by rw[<-J];exact h⟩
 obtain⟨Y,⟨s,S⟩|⟨c,cs,s,z,Z,hm,K,C⟩⟩:=id h
 .exact H _ _ s (Z0 S)
 by_cases M:l=[]
 .refine H (σ ⟨g,0,ν⟩) c ?_ M;rw[s,M];rfl
 have K:cs.length=c:=by simpa using K
 have C:cs.take l.length=ints .i64 l:=by simpa using C
 have T:Go.Sort.Holds (X2 .i64) w g 0 l.toArray:=by
  intro j A;have A:j<l.length:=by simpa using A
  have h1:cs[j]?=σ (Δ l[j]):=by
   have:(cs.take l.length)[j]?=σ (Δ l[j]):=by
    rw[C];simp[ints,A]
   rw[List.getElem?_take,m3 A]at this;exact this
  refine⟨?_,?_⟩
  .have:=z.cell h1;rw[W7,this];simp[A]
  .grind [x3.frozen?,ag]
 have N:=calls_of_every_depth λD=>AnyS.slices_Sort_int_in L D g 0 c l w T z.lt Ω;rw[<-s]at N;refine .code G (N.X ?_);rintro _ I ⟨rfl,n,os,rfl⟩;have E:(l.mergeSort λx y=>decide (x<=y)).length=l.length:=List.length_mergeSort l;obtain⟨V,O⟩:=Ti (m:=n) (os:=os) (l:=l.mergeSort λx y=>decide (x<=y)) z Ω;have Q:w.heap.size<=(Sort.grow (putRow (X2 .i64) (Sort.ahead w n) g 0 (l.mergeSort λx y=>decide (x<=y)).toArray) os).heap.size:=by
  show w.heap.size<=((w.heap.modify g _)++os).size;simp
 refine⟨_,rfl,⟨rfl,⟨rfl,Nat.le_add_right _ _⟩,rfl,Q,λr o q U=>?_⟩,⟨Q,λr o q _ F=>?_⟩,_,List.mergeSort_perm l (λx y=>decide (x<=y)),?_,?_⟩
 .have F:r≠g:=λhe=>by subst he;unfold ag at z;rw[z]at q;cases q;cases U
  rw[O r (Z5.1 q).1 F];exact q
 .rw[O r (Z5.1 q).1 F];exact q
 .have:=List.pairwise_mergeSort (le:=λx y:Int=>decide (x<=y)) (λa b c h1 aa=>by simp at*;omega) (λa b=>Θ) l;exact this.imp λh=>by simpa using h
 .refine⟨by simp[ints],.inr ⟨c,_,by rw[s,E],V,Ω,hm,?_,?_⟩⟩
  .simp[ints,E];omega
  .rw[V0,E,List.take_append_of_le_length (by simp[ints]),n9 (by simp[ints])]
end Go.Vc
namespace Go.Vc
open Go Go.RowKit
theorem Tk{P:X5}{t f:r9}{k:o5}{b c:Nat}{z x:x1}{base:Option Q0}{m:Λ}(p:P.underlying t=σ (.slice e))(hi:aR P e 1 b z)(C:z.cells.size=1)(h:aI k w (.slice base l.length c) l)(E:aI k w x m)(hm:0<m.length)(q:c<l.length+m.length)(F:(l.length+m.length)*b<=140737488355328)(G:l.length+m.length<=9223372036854775807)(H:∀r I,Ext w I->ao k e I w.heap.size r (l++m)->K r I):aC P (j6 #[t,t] f #[.slice base l.length c,x]) w K:=by
 obtain⟨i,hi,s,rfl,J⟩:=hi;obtain⟨L,X,Y,Z,aa,he,ab,ac,y,M⟩:=id h;cases he;have N:(ints k l).length=l.length*i.size:=by rw[L,s]
 have O:(j9.firstCells i.size l.length (.slice base l.length c)).run P w.drew= .ok (ints k l).toArray w.drew:=by
  cases A:base with
  |none=>
   have Q:l=[]:=by
    cases l with
    |nil=>rfl
    |cons a l=>have:=y Ξ;rw[A]at this;cases this
   subst Q;exact run_firstCells_none _ _ _ _ _
  |some a=>
   refine run_firstCells_some (w:=w.drew) i.size l.length a l.length c (ints k l) N λj u B=>?_;have R:0<l.length:=by have:=(x4.1 B).1;simp[ints]at this;omega
   have:=y R;rw[A]at this;cases this;rw[W5];exact M j u B
 have S:Src P i.size t x m.length (ints k m) w:=by
  rw[s];exact b4.src E p (kx _ _) hm
 have T:=run_append_grow_src w t t f e i z p hi J base l.length c (ints k l) O x m.length (ints k m) S q Ω (growslice_fits q F);have U:l.length+m.length<=grownCap w (l.length+m.length) c e:=grownCap_ge w _ _ _;have V:=grownCap_le_maxLen w (l.length+m.length) c e (by simpa[maxLen]using G);have W:Ext w (w.drew.alloc (.cells ((ints k l++ints k m).toArray++S8 z.cells (grownCap w (l.length+m.length) c e-(l.length+m.length))) e)):=(r3 w _).F (qH _ _);refine .of T ((qG w _ (Nat.le_succ _)).F (qI _ _)) (H _ _ W ⟨by simp[ints],.inr ⟨_,((ints k l++ints k m).toArray++S8 z.cells (grownCap w (l.length+m.length) c e-(l.length+m.length))).toList,?_,?_,?_,V,?_,?_⟩⟩)
 .rw[p8]
 .show _=_;rw[Array.toArray_toList];exact heap_alloc_new w.drew _
 .rw[p8];exact U
 .simp[ints,size_zeroCells,C];omega
 .simp[ints];rw[<-X0];exact List.take_left' Ξ
end Go.Vc
namespace Go.Proofs.YtkcigodpbndobaaGreatDoor
open Go Go.Vc Go.RowKit Go.Proofs Go.Proofs.Tryz
set_option maxRecDepth 100000
theorem Tl{v:x1}{g:Nat}(h:ao .i64 ae w g v l)(a:l.length<1000000):
  aj x7 BP [v] w λ_ I=>af (λr=>r=g) w I/\∃m,m.Perm l/\m.Pairwise (·<= ·)/\ao .i64 ae I g v m:=Tj NX h a
section
variable{w:x3}{ac ad:Nat}{A R:ah}{n:aD}{s:am}{t:av}
theorem G8{bD:x1}(h:bd w ac ad A R n s t)(j:aI .i64 w bD l)(L:∀v∈l,0<=v/\v<n.co.length)(X:l.length<=1000):
  aj x7 Jg [Γ ac,bD] w λr I=>Ext w I/\∃g,w.heap.size<=g/\ao .i64 ae I g r (aB n.co l):=by
 have p:=h.2.2.2.1;have Y:=p.d6;refine az func84 ?_;rw[aS al.u j];refine ky al.u ae.i Ω Ω λgz J Z B M=>?_;have a:=ao.of (n:=l.length) (bZ.full M Ξ (by simp[maxLen];omega));generalize (x1.slice (σ ⟨gz,0,ν⟩) l.length l.length)=N at*;have q:(aB n.co l).length=l.length:=by simp[aB]
 rw[aS al.u (j.W B)];refine cm.range l.length (λi V=>Ext w V/\ao .i64 ae V gz N (upto (aB n.co l) 0 i)) Ω ⟨B,by rw[nU,q];exact a⟩ ?_ ?_
 .rintro i V O hi ⟨e,f⟩ P;refine bC Ω ?_;obtain⟨v,y⟩:=aF (l:=l) hi;have Q:=L v (x5 y);rw[be al.u ae.i Ψ (j.W e) y];refine(lB (i:=v) (h.W e)).X ?_;rintro _ aa _ ⟨⟨b,m,rfl,S⟩,C⟩;refine uW.X ?_;rintro _ ab _ ⟨rfl,E⟩;obtain⟨x,G⟩:=aF (l:=s.d6) (i:=v.toNat) Ω;obtain⟨z,a⟩:=aF (l:=n.co) (i:=v.toNat) Ω;have hm:=(S.2.2 x Q.1 G).1;have af:=(p.var _ x z G a).1;have ag:=p.c5.2.2 z (x5 a);have ah:(upto (aB n.co l) 0 i).length=l.length:=by rw[mS,q]
  have H:=(f.W C).W E;rw[iy rfl al.u ae.i H Ω];refine iz ae.i H Ω λai U _ K=>?_;rw[aM];have W:(aB n.co l)[i]?=σ (m:Int):=by
   unfold aB;rw[x8,y,Z4,u5,a];show σ z=_;congr 1;omega
  rw[nW W]at K;exact P _ ⟨((e.F C).F E).put U Ω,K⟩
 .rintro V O ⟨e,f⟩;refine ci Ω ⟨e,gz,Ω,?_⟩;rw[<-q,nV]at f;exact f
theorem G9(a:aY k co s)(j:Int):(nn s j).length<=6:=by
 unfold nn;split
 .rename_i f e;exact(a.d7 f (x5 e)).1.scope.2
 .simp
theorem Ha{i:Int}(h:bd w ac ad A R n s t)(aD:s.d7.length<=1000):aj x7 Jj [Γ ac,Δ i] w λr I=>Ext w I/\∃g,w.heap.size<=g/\ao .i64 ae I g r (bf n.co s i):=by
 have K:=h.2.2.2.1;refine az func89 ?_;refine bm λai J aE B M=>?_;rw[ax Ψ (M.cell rfl)];refine(wj (h.W B)).X ?_;rintro aG V _ ⟨C,aH,Q,_⟩;have aI:=B.size;have aJ:=C.size;have aK:=M.lt;have aL:(cR s i s.d7.length).length<=s.d7.length:=zS;have S:∀q,(((cR s i s.d7.length).take q).flatMap (nn s)).length<=6000:=λq=>by
  have h1:=kz (L:=(cR s i s.d7.length).take q) (f:=nn s) (b:=6) λa _=>G9 K a;rw[c7]at h1;omega
 rw[aS al.u Q.ls];refine b2.range (cR s i s.d7.length).length (λj out E=>Ext V E/\∃g,V.heap.size<=g/\ao .i64 ae E g out (((cR s i s.d7.length).take j).flatMap (nn s))) Ω ⟨Ext.refl _,V.heap.size,p9 _,ao.nil _ _ _ _⟩ ?_ ?_
 .rintro q out E ak am ⟨e,g,y,G⟩ an;refine bC Ω ?_;obtain⟨j,N⟩:=aF (l:=cR s i s.d7.length) am;obtain⟨aN,f,W,_,_,_⟩:=zU N;have ap:j=((j.toNat:Nat):Int):=Ω
  rw[be al.u ae.i Ψ (Q.ls.W e) N,ap];refine(rQ (h.W ((B.F C).F e)) W).X ?_;rintro sv aq _ ⟨O,gs,aO,au⟩;have X:nn s j=f.sc:=by unfold nn;rw[W]
  have av:=G9 K j;rw[X]at av;have Y:=S q;refine jD al.u ae.i rfl (G.W O) au.ls Ω Ω λaP aw Z aQ H P=>?_;rw[aM];have z3:=e.size;have z4:=O.size;refine an _ _ ⟨(e.F O).put P y,aw,Ω,?_⟩;rw[u7,N,l9,List.flatMap_append,List.flatMap_singleton,X];exact H
 .rintro out E ak ⟨e,g,y,G⟩;refine ci Ω ?_;have Y:=S (cR s i s.d7.length).length;rw[o6]at G Y;refine(Tl G Ω).X ?_;rintro _ aq _ ⟨ay,m,ab,U,aA⟩;have aR:=ab.length_eq;refine(EV aA Ω).X ?_;rintro a1 Z _ ⟨P,H⟩;rw[j1];have aT:=EK m m.length;have z3:=e.size;have af:Ext V Z:=(e.put ay y).put P y;have aU:ai<V.heap.size:=Ω
  have ag:∀r,li a1 r->r=g:=λr z=>(bE H z).1;refine(Gw (p:=λx=>decide (x=i)) H Ω λI x aB _=>?_).X ?_
  .refine az func178 ?_;rw[ax Ψ ((((M.W C).W af).aa aB λz=>by have:=ag _ z;omega).cell rfl),bh];exact⟨rfl,Ext.refl _⟩
  .rintro r aV _ ⟨aC,ah,_⟩;refine⟨(B.F C).F (af.put (aC.X λr _ z=>ag r z) y),g,Ω,?_⟩;rw[SV K ab U]at ah;exact ah
theorem Hb{i:Int}(h:bd w ac ad A R n s t)(a:s.d7.length<=1000):aj x7 IP [Γ ac,Δ i] w λr I=>r=Δ ((bf n.co s i).length:Int)/\Ext w I:=by
 refine az func22 ?_;refine(Ha h a).X ?_;rintro _ J _ ⟨e,g,_,hm⟩;rw[aS al.u hm.ls];exact⟨rfl,e⟩
theorem Tm(l:Λ)(z:Int):aA (l++[z])=z*aA l:=by
 rw[q0];simp[aA,Int.mul_comm]
theorem zY{i:Int}(h:bd w ac ad A R n s t)(Y:s.d7.length<=1000):aj x7 IQ [Γ ac,Δ i,Δ most] w λr I=>r=Δ (dz n s i most)/\Ext w I:=by
 have M:=h.2.2.2.1;refine az func23 ?_;rw[cW dB.u];simp only[j0,aX];refine aV (λv J=>v= .bool (decide (¬(md n s i=ro/\0<=most/\most<=3)))/\Ext w J) ?_ ?_
 .rintro _ J ⟨rfl,e⟩;rw[ai];refine⟨λZ=>⟨by unfold dz;rw[m3 Z],e⟩,λz=>?_⟩;have z:=Z6.1 z;have aa:0<=i/\i<n.co.length:=by
   have:=z.1;unfold md at this;simp at this;omega
  refine(Ha (h.W e) Y).X ?_;rintro bD V _ ⟨E,g,B,hm⟩;have j:=e.F E;have G:dz n s i most=if most<((bf n.co s i).length:Int)\/4096<n.co.getD i.toNat 0*aA (aB n.co (bf n.co s i))then 12 else 0:=by
   unfold dz;rw[m5 (λh=>h z)]
  have aT:(bf n.co s i).length<=64:=by
   have h1:=List.length_filter_le (λv=>decide (v≠i)&&(br s i).any λf=>decide (v∈f.sc)) ((Z2 n.co.length).map λv:Nat=>(v:Int));have N:=M.c5.2.1;unfold bf;simp only[o4,List.length_range]at h1;omega
  rw[aS al.u hm.ls,bL,ai];refine⟨λaU=>⟨by rw[G,m3 (.inl Ω)],j⟩,λaW=>?_⟩;rw[aS al.u hm.ls,aS al.u hm.ls];have O:=hm.ls;obtain⟨_,aY,aZ,base,cap,q,ab,a1,_⟩:=id O;subst q;rw[eA al.u ae.i iP mJ Ca Ω (p9 _) ab];have af:aI .i64 V (.slice base (bf n.co s i).length (bf n.co s i).length) (bf n.co s i):=by
   obtain⟨ag,b,o,a2,a6,he,a7,a8,ah,am⟩:=id O;cases he;exact⟨ag,b,o,base,_,rfl,p9 _,Ω,ah,am⟩
  have an:(x1.slice (if(bf n.co s i).length=0 then base else base.map λx=>x.add (0*1)) ((bf n.co s i).length-0) ((bf n.co s i).length-0))= .slice base (bf n.co s i).length (bf n.co s i).length:=by
   have:(base.map λx:Q0=>x.add (0*1))=base:=by
    cases base with
    |none=>rfl
    |some a=>simp[Q0.add]
   rw[this];simp
  rw[an];refine dr al.u ae.i rfl λv3 ba bb bc P ao=>?_;refine Tk al.u ae.i rfl (af.W P) ao.ls Ξ Ξ Θ Θ λv4 be ap aq=>?_;have Q:=P.F ap;have S:∀v∈bf n.co s i++[i],0<=v/\v<n.co.length:=λv q=>by
   rcases o9.1 q with q|q
   .exact (js.1 q).1
   .cases b8.1 q;exact aa
  refine(G8 (h.W (j.F Q)) aq.ls S Θ).X ?_;rintro bg bh _ ⟨au,bi,_,av⟩;refine(Cr av.ls).X ?_;rintro _ bj _ ⟨aw,bk,ax,aC⟩;have U:=((j.F Q).F au).F aw;have aD:∀x∈aB n.co (bf n.co s i++[i]),1<=x/\x<=32:=kd M.c5.2.2 S;have W:bS (aB n.co (bf n.co s i++[i])):=⟨by simp[aB];omega,aD⟩;have bl:aA (aB n.co (bf n.co s i++[i]))=n.co.getD i.toNat 0*aA (aB n.co (bf n.co s i)):=by
   unfold aB;rw[l7,List.map_singleton,Tm]
  by_cases aE:4096<aA (aB n.co (bf n.co s i++[i]))
  .rw[ax W aE,bo,bp];refine bx bn.i λak aF aG H K=>?_;refine cb (vs:=[.slice ν 0 0]) bn.i rfl rfl (by simp[x1.oneCell']) K λaH L aJ aK=>?_;rw[bJ,ai];exact⟨λ_=>⟨by rw[G,m3 (.inr Ω)],U.F (H.put L Ω)⟩,λh=>m6 Φ h⟩
  .obtain⟨bm,aN,rfl,_,aL⟩:=aC W Ω;rw[bo,bp];refine bx bn.i λak aF aG H K=>?_;refine cb (vs:=[aN]) bn.i rfl rfl (by intro u aM;rw[b8.1 aM];exact aL.ls.cells.2) K λaH L aJ aK=>?_;rw[bJ,ai];exact⟨λh=>m6 rfl h,λ_=>⟨by rw[G,m5 Ω],U.F (H.put L Ω)⟩⟩
 .intro ay y;rw[aP,ai];have C:∀{p:Prop}[Decidable p],¬p->(x1.bool ro)= .bool (decide ¬p):=λh=>by rw[m7 h]
  refine⟨λaO=>y _ _ ⟨C λh=>by have:=h.1;unfold md at this;simp at this;omega,Ext.refl _⟩,λaO=>?_⟩;refine(vT h).X ?_;rintro _ J _ ⟨rfl,e⟩;rw[cI,ai];refine⟨λh1=>y _ _ ⟨C λh=>by have:=h.1;unfold md at this;simp at this;omega,e⟩,λh1=>?_⟩;refine(rM (i:=i) (h.W e)).X ?_;rintro _ V _ ⟨rfl,E⟩;have j:=e.F E;rw[m7 Ω,V8,bU];refine⟨λB=>y _ _ ⟨C λh=>by have:=h.1;unfold md at this;simp[B]at this,j⟩,λB=>?_⟩;rw[aP,ai];refine⟨λN=>y _ _ ⟨C λh=>Ω,j⟩,λN=>?_⟩;rw[bL];refine y _ _ ⟨?_,j⟩;have aQ:md n s i=ro:=by
   unfold md;rw[m7 ⟨Ω,Ω⟩,B];rfl
  congr 1;rw[decide_eq_decide];exact⟨λX aR=>Ω,λX=>Decidable.byContradiction λaR=>X ⟨aQ,Ω,Ω⟩⟩
def ol(s:am)(l:Λ):Int:=match kW s l with
 |some j=>j
 |none=>-1
theorem Tn{bD:x1}(h:bd w ac ad A R n s t)(p:aI .i64 w bD l):aj x7 BU [Γ ac,bD] w λr I=>r=Δ (ol s l)/\Ext w I:=by
 refine(Rz h p).X ?_;rintro _ J _ ⟨⟨r,rfl,x⟩,y⟩;refine⟨?_,y⟩;rcases x with⟨rfl,a⟩|⟨j,f,rfl,e,z,B,a⟩
 .have:kW s l=ν:=List.findIdx?_eq_none_iff.2 λf e=>by
   have:=a f e;simp only[Bool.and_eq_false_iff,decide_eq_false_iff_not];exact Classical.not_and_iff_not_or_not.1 this
  unfold ol;rw[this]
 .obtain⟨C,rfl⟩:=x4.1 e;have:kW s l=σ j:=List.findIdx?_eq_some_iff_getElem.2 ⟨C,by simp[z,B],λq E=>by
   have:=a q _ E (x6 Ω);simpa using this⟩
  unfold ol;rw[this]
end
def fX(s:am)(sc:Λ)(pos:Int)(v:Int):Nat->Nat->Λ->List (Λ)
 |0,_,tl=>[tl]
 |m+1,p,tl=>if(p:Int)=pos then fX s sc pos v m (p+1) (tl.set p v)else(cZ s (sc.getD p 0)).flatMap λx=>fX s sc pos v m (p+1) (tl.set p x)
theorem wF{α:Type}{l:List α}{p:Nat}{x:α}(h:p<l.length):(l.set p x).take (p+1)=l.take p++[x]:=by
 grind [u7,List.take_set_of_le]
theorem wG{s:am}{sc:Λ}{pos:Nat}{v:Int}:∀(m p:Nat)(tl:Λ),sc.length=p+m->tl.length=sc.length->fX s sc pos v m p tl=(jP (me s pos v (sc.drop p) p)).map (tl.take p++ ·)
 |0,p,tl,h1,e=>by
  grind [fX,me,jP]
 |m+1,p,tl,h1,e=>by
  have f:p<sc.length:=Ω
  obtain⟨u,q⟩:=aF (l:=sc) f;have h:sc.drop p=u::sc.drop (p+1):=by grind [X1]
  have j:sc.getD p 0=u:=by grind
  rw[h];unfold fX me;rw[jP];by_cases a:p=pos
  .rw[m3 Ω,m3 a,List.flatMap_singleton,wG m (p+1) (tl.set p v) Ω (by grind),S4,wF Ω]
   grind [V2]
  .rw[m5 Ω,m5 a,j,List.map_flatMap];congr 1;funext x;rw[wG m (p+1) (tl.set p x) Ω (by grind),S4,wF Ω]
   grind [V2]
theorem To{s:am}{m p:Nat}{a:Λ}(h1:sc.length=p+m)(e:tl.length=sc.length)(f:a.length=sc.length)(h:a.take p=tl.take p):fX s sc pos v m p a=fX s sc pos v m p tl:=by
 grind [wG]
theorem Tp{s:am}(h:tl.length=sc.length):fX s sc pos v sc.length 0 tl=cQ s sc pos v:=by
 rw[wG sc.length 0 tl Ω h];unfold cQ;simp
section
variable{w:x3}{ac ad:Nat}{A R:ah}{n:aD}{s:am}{t:av}
theorem zZ{i:Int}(h:bd w ac ad A R n s t):aj x7 K9 [Γ ac,Δ i,Δ v] w λr I=>Ext w I/\r=Δ (if(eF s i v).isSome=ro then 0 else 1):=by
 have M:=h.2.2.2.1.d6;refine az func254 ?_;rw[cW dB.u];simp only[j0,aX];refine aV (λr J=>r= .bool (!(eF s i v).isSome)/\Ext w J) ?_ ?_
 .rintro _ J ⟨rfl,C⟩;rw[bU];exact⟨λp=>⟨C,by rw[m5 (by simpa using p)]⟩,λp=>⟨C,by rw[m3 (by simpa using p)]⟩⟩
 intro ay E;refine(rM h).X ?_;rintro _ V _ ⟨rfl,q⟩;rw[bU];refine⟨λa=>E _ _ ⟨?_,q⟩,λa=>?_⟩
 .rw[V9,pl]at a;have y:eF s i v=ν:=by
   unfold eF;rw[m3 a.1];have z:=a.2;unfold cf at z;cases e:s.d6[i.toNat]? with
   |none=>rfl
   |some x=>
    rw[e]at z;simp only;rw[m5 λh=>by simp[h.1]at z]
  rw[y];rfl
 refine(lB (i:=i) (h.W q)).X ?_;rintro _ N _ ⟨⟨b,m,rfl,B⟩,H⟩;refine(FY B.1).X ?_;rintro _ O _ ⟨rfl,K⟩;rw[bA];refine E _ _ ⟨?_,(q.F H).F K⟩;congr 2;by_cases f:0<=i/\i<n.co.length
 .obtain⟨x,e⟩:=aF (l:=s.d6) (i:=i.toNat) Ω;rw[RC B f.1 e];unfold eF;rw[m3 f.1,e];have L:x.gone=0:=by
   rw[m7 f.1,V8]at a;unfold cf at a;rw[e]at a;simpa using a
  simp only;by_cases j:v∈aL x
  .rw[m7 j,m3 ⟨L,j⟩];rfl
  .rw[ms j,m5 λh=>j h.2];rfl
 .obtain⟨rfl,rfl⟩:=B.2.1 f;have y:eF s i v=ν:=by
   unfold eF;by_cases G:0<=i
   .rw[m3 G,Z9 Ω]
   .rw[m5 G]
  rw[y,ms Ω];rfl
def Tq(s:am)(j pos v:Int)(u e:Int):Prop:=(e=0/\∃f x,eU s j pos v=σ (f,u,x))\/(e=1/\eU s j pos v=ν)
theorem Hc{j pos:Int}(h:bd w ac ad A R n s t):aj x7 K2 [Γ ac,Δ j,Δ pos,Δ v] w λr I=>Ext w I/\∃u e,r= .tuple #[Δ u,Δ e]/\Tq s j pos v u e:=by
 refine az func245 ?_;rw[cW dB.u];simp only[j0,aX];have key:∀(K:x1->x3->Prop),(∀r I,Ext w I->(∀f,0<=j->s.d7[j.toNat]?=σ f->aI .i64 I r f.sc)->K r I)->aj x7 ux [Γ ac,Δ j] w K:=λK Y=>by
  by_cases Z:0<=j/\j<s.d7.length
  .obtain⟨f,p⟩:=aF (l:=s.d7) (i:=j.toNat) Ω;have:=rQ h p;rw[show((j.toNat:Nat):Int)=j by omega]at this;refine this.X ?_;rintro r J _ ⟨C,g,_,hm⟩;exact Y r J C λL _ aa=>by rw[p]at aa;cases aa;exact hm.ls
  .refine (RA h Z).X ?_;rintro r J _ ⟨rfl,C⟩;exact Y _ J C λf E p=>m6 ⟨E,by have:=(x4.1 p).1;omega⟩ Z
 refine key _ λr J C ab=>?_;have O:∀{P:Prop},(¬∃f u,0<=j/\0<=pos/\s.d7[j.toNat]?=σ f/\f.live≠0/\f.sc[pos.toNat]?=σ u)->(eU s j pos v=ν->P)->P:=λz ap=>ap (by
  cases M:eU s j pos v with
  |none=>rfl
  |some q=>
   obtain⟨f,u,x⟩:=q;obtain⟨Q,S,a3,a4,a5,_⟩:=pd M;exact m6 ⟨f,u,Q,S,a3,a4,a5⟩ z)
 refine aV (λaf V=>Ext J V/\((af= .bool ro/\eU s j pos v=ν)\/(af= .bool rs/\∃f u,0<=j/\0<=pos/\s.d7[j.toNat]?=σ f/\f.live≠0/\f.sc[pos.toNat]?=σ u))) ?_ ?_
 .rintro _ V ⟨U,⟨rfl,z⟩|⟨rfl,f,u,E,ag,p,aq,G⟩⟩
  .rw[bY];exact⟨C.F U,0,1,rfl,.inr ⟨rfl,z⟩⟩
  .rw[aX];intro au B _ _;have ah:=(ab f E p).W (U.F B);refine pP Ω al.u ae.i ah G λb o av=>?_;rw[ax Ψ av,fm (y:=pos) (i:=pos.toNat) Ω al.u ae.i Ψ ah G];have ak:=(C.F U).F B;refine(zZ (h.W ak)).X ?_;rintro _ aA _ ⟨am,rfl⟩;refine⟨.inl am,ak.F am,u,_,rfl,?_⟩;have M:eU s j pos v=(eF s u v).map λx=>(f,u,x):=by
    unfold eU;rw[m3 ⟨E,ag⟩,p];simp only;rw[m3 aq,G]
   cases an:eF s u v with
   |none=>exact .inr ⟨rfl,by rw[M,an];rfl⟩
   |some x=>exact .inl ⟨rfl,f,x,by rw[M,an];rfl⟩
 intro ay N;refine(rN (h.W C)).X ?_;rintro _ au _ ⟨rfl,B⟩;have same:∀{f L:bH},s.d7[j.toNat]?=σ f->s.d7[j.toNat]?=σ L->L=f:=λa b=>by rw[a]at b;exact(Z7 b).symm
 rw[bA,bU];refine⟨λW=>O (λ⟨f,u,Q,S,a3,a4,a5⟩=>?_) λz=>N _ _ ⟨B,.inl ⟨rfl,z⟩⟩,λX=>?_⟩
 .unfold eL at W;rw[a3]at W;simp[Q,a4]at W
 have X:0<=j/\eL s j.toNat=ro:=by simpa using X
 obtain⟨E,H⟩:=X;obtain⟨f,p,aw⟩:∃f,s.d7[j.toNat]?=σ f/\f.live≠0:=by
  unfold eL at H;cases p:s.d7[j.toNat]? with
  |none=>rw[p]at H;cases H
  |some f=>rw[p]at H;exact⟨f,rfl,by simpa using H⟩
 rw[aP,ai];refine⟨λaB=>O (λ⟨_,_,_,S,_⟩=>Ω) λz=>N _ _ ⟨B,.inl ⟨rfl,z⟩⟩,λag=>?_⟩;rw[aS al.u ((ab f E p).W B),cI];by_cases ao:(f.sc.length:Int)<=pos
 .refine O (λ⟨L,u,_,_,a3,_,a5⟩=>?_) λz=>N _ _ ⟨B,.inl ⟨by rw[m7 ao],z⟩⟩;obtain rfl:=same p a3;have:=(x4.1 a5).1;omega
 .obtain⟨u,G⟩:=aF (l:=f.sc) (i:=pos.toNat) Ω;exact N _ _ ⟨B,.inr ⟨by rw[ms ao],f,u,E,Ω,p,aw,G⟩⟩
theorem wH(h:bd w ac ad A R n s t):aj x7 K3 [Γ ac,Δ c,Δ most] w λr I=>Ext w I/\r=Δ (eg n.k c most):=by
 refine az func246 ?_;refine(nh h).X ?_;rintro _ J _ ⟨rfl,a⟩;refine lk.X ?_;rintro _ V _ ⟨rfl,e⟩;have hi:cJ c n.k↔0<=c/\c<=n.k:=⟨λh=>h.2,λj=>⟨h.2.2.2.1.dH,j⟩⟩;unfold eg;rw[bA,bU];refine⟨λf=>⟨a.F e,?_⟩,λf=>?_⟩
 .have:¬cJ c n.k:=by simpa using f
  rw[m3 λh=>this (hi.2 h)]
 .have:cJ c n.k:=by simpa using f
  rw[m5 λh=>h (hi.1 this),bL,ai];exact⟨λh=>⟨a.F e,by rw[m3 h]⟩,λh=>⟨a.F e,by rw[m5 h]⟩⟩
theorem Tr{b:Int}(hk:right k)(f:0<=a/\a<=k)(j:0<=b/\b<=k)(s:a=k\/b<=a):aj x7 Lr [Δ a,Δ b,Δ k] w λv I=>v= .tuple #[Δ (dV k a b),Δ 0]/\Ext w I:=by
 have x:1<=k/\k<=2147483648:=hk;refine az func293 ?_;refine aV (λr J=>r= .bool rs/\Ext w J) ?_ ?_
 .rintro _ J ⟨rfl,e⟩;unfold dV;rw[aX,bh,ai];refine⟨λh=>⟨by rw[m3 h],e⟩,λh=>?_⟩;rw[m5 h,bL,ai];refine⟨λy=>Ω,λ_=>?_⟩;rw[dR,lm Ω Ω];exact⟨rfl,e⟩
 intro ay p;refine lk.X ?_;rintro _ J _ ⟨rfl,e⟩;rw[m7 (show cJ a k from⟨hk,f⟩),bA,Y6,aX];refine lk.X ?_;rintro _ V _ ⟨rfl,q⟩;rw[m7 (show cJ b k from⟨hk,j⟩),bA,Y6];exact p _ _ ⟨rfl,e.F q⟩
theorem wI(h:bd w ac ad A R n s t)(e:0<=a/\a<=n.k)(f:0<=c/\c<=n.k)(j:a=n.k\/c<=a):aj x7 pB [Γ ac,Δ a,Δ c] w λr I=>r=Δ (dV n.k a c)/\Ext w I:=by
 refine az func248 ?_;refine(nh h).X ?_;rintro _ J _ ⟨rfl,p⟩;refine(Tr h.2.2.2.1.dH e f j).X ?_;rintro _ V _ ⟨rfl,q⟩;rw[bo,bp];exact⟨rfl,p.F q⟩
theorem tI(h:bd w ac ad A R n s t)(e:0<=a/\a<=n.k)(f:0<=c/\c<=n.k):aj x7 pC [Γ ac,Δ a,Δ c] w λr I=>r=Δ (dW n.k a c)/\Ext w I:=by
 refine az func249 ?_;refine(nh h).X ?_;rintro _ J _ ⟨rfl,j⟩;refine(F5 e f h.2.2.2.1.dH).X ?_;rintro _ V _ ⟨rfl,p⟩;rw[bo,bp];exact⟨rfl,j.F p⟩
end
def pk(w:x3)(ac gs bI bu aU:Nat)(aJ:x1)(pos v:Int):Prop:=ag w gs dB [Γ ac]/\ag w bI al [aJ]/\ag w bu ae [Δ pos]/\ag w aU ae [Δ v]
theorem pk.aa{S:ah}{gs bI bu aU:Nat}{pos:Int}(h:pk w ac gs bI bu aU aJ pos v)(a:af S w I)(e:¬S gs/\¬S bI/\¬S bu/\¬S aU):pk I ac gs bI bu aU aJ pos v:=
 ⟨h.1.aa a e.1,h.2.1.aa a e.2.1,h.2.2.1.aa a e.2.2.1,h.2.2.2.aa a e.2.2.2⟩
theorem pk.W{gs bI bu aU:Nat}{pos:Int}(h:pk w ac gs bI bu aU aJ pos v)(a:Ext w I):pk I ac gs bI bu aU aJ pos v:=h.aa (a.aa λ_=>False) (by grind)
def gC(ac ad:Nat)(R:ah)(n:aD)(s:am)(gs bI bu aU:Nat)(aJ:x1)(sc:Λ)(pos v:Int)(B0:Nat)(D:Nat->Prop)(w:x3):Prop:=
 pk w ac gs bI bu aU aJ pos v/\(gs<B0/\bI<B0/\bu<B0/\aU<B0)/\aI .i64 w aJ sc/\(∀r,li aJ r->r<B0)/\(Laid w/\B0<=w.heap.size)/\∃A s' t',bd w ac ad A R n s' t'/\(∀i,cZ s' i=cZ s i)/\∀r,A r\/R r->r<B0\/D r
section
variable{ac ad gs bI bu aU B0:Nat}{R:ah}{n:aD}{s:am}{aJ:x1}{sc:Λ}{pos v:Int}
theorem gC.W(h:gC ac ad R n s gs bI bu aU aJ sc pos v B0 D w)(a:Ext w I):gC ac ad R n s gs bI bu aU aJ sc pos v B0 D I:=by
 obtain⟨h1,f,j,p,e,A,s',t',q,r,x⟩:=h;exact⟨h1.W a,f,j.W a,p,⟨e.1.W a,Y2 e.2 a.size⟩,A,s',t',q.W a,r,x⟩
def lE(w:x3)(l gy gt gtb ga:Nat)(iJ:Array x1)(q:Nat)(tl:Λ):Prop:=ag w gy B1 [.func (.yield l) #[] #[]]/\ag w gtb al [.slice (σ ⟨gt,0,ν⟩) q q]/\ag w ga qV [.func (.func pD) #[] iJ]/\
 ao .i64 ae w gt (.slice (σ ⟨gt,0,ν⟩) q q) tl
theorem lE.aa{S:ah}{l q:Nat}{iJ:Array x1}(h:lE w l gy gt gtb ga iJ q tl)(f:af S w I)(j:¬S gy/\¬S gtb/\¬S ga/\¬S gt):lE I l gy gt gtb ga iJ q tl:=
 ⟨h.1.aa f j.1,h.2.1.aa f j.2.1,h.2.2.1.aa f j.2.2.1,bk h.2.2.2 f λr p=>by
  obtain⟨a,_,_,e,s⟩:=p
  grind⟩
theorem lE.W{l q:Nat}{iJ:Array x1}(h:lE w l gy gt gtb ga iJ q tl)(a:Ext w I):lE I l gy gt gtb ga iJ q tl:=h.aa (a.aa λ_=>False) (by grind)
theorem Ts(U:aI .i64 w aJ sc):aj x7 BZ [Γ ac,aJ,Δ pos,Δ v] w λr I=>Ext w I/\∃gs bI bu aU,r= .func (.func nF) #[] #[Γ bI,Γ bu,Γ aU,Γ gs]/\pk I ac gs bI bu aU aJ pos v/\w.heap.size<=gs/\w.heap.size<=bI/\w.heap.size<=bu/\w.heap.size<=aU:=by
 obtain⟨_,_,_,x⟩:=cP U;refine az func292 ?_;refine bm λgs J z q h=>?_;refine bm λbI V A j a=>?_;refine bm λbu B C e p=>?_;refine bm λaU s E f y=>?_;have h:ag s gs dB [Γ ac]:=((ag.W h j).W e).W f;have a:ag s bI al [aJ]:=by rw[x]at a ⊢;exact(ag.W a e).W f
 have p:=ag.W p f;rw[j1];have G:=q.size;have H:=j.size;have z3:=e.size;exact⟨((q.F j).F e).F f,gs,bI,bu,aU,rfl,⟨h,a,p,y⟩,Ω,Ω,Ω,Ω⟩
theorem gC.own{S:ah}(h:gC ac ad R n s gs bI bu aU aJ sc pos v B0 D w)(f:af S w I)(F:∀r,S r->B0<=r/\¬D r):gC ac ad R n s gs bI bu aU aJ sc pos v B0 D I:=by
 obtain⟨h1,y,z,j,p,A,s',t',q,B,C⟩:=h;have no:∀{r:Nat},r<B0->¬S r:=by grind
 refine⟨h1.aa f (by grind),y,jk z f λr x a n c e E=>?_,j,⟨?_,Y2 p.2 f.size⟩,A,s',t',⟨q.1.aa f λr _ x U=>?_,q.2⟩,B,C⟩
 .exact no (j r ⟨a,n,c,e,E⟩) x
 .exact gH f (no Ω) p.1
 grind
def Tt(P:(Nat->Prop)->x3->Prop)(ay:(Nat->Prop)->Nat->x3->Prop)(L:List (Λ))(l B:Nat):Prop:=∀(D:Nat->Prop)(k:Nat)tl aN I,(∀r,D r->B<=r/\r<I.heap.size)->B<=I.heap.size->P D I->L[k]?=σ tl->aI .i64 I aN tl->ay D k I->
 jg x7 l [aN] I λu a=>u= .bool ro/\(∃D',(∀r,D' r->D r\/I.heap.size<=r/\r<a.heap.size)/\(∀r,D r->D' r)/\P D' a/\ay D' (k+1) a)/\cC I a/\I.heap.size<=a.heap.size/\af (λr=>r<B\/D r) I a
def tJ(D:Nat->Prop)(B gy gtb ga gt:Nat):Prop:=(B<=gy/\¬D gy)/\(B<=gtb/\¬D gtb)/\(B<=ga/\¬D ga)/\B<=gt/\¬D gt
theorem tJ.go{D':Nat->Prop}{m bK:Nat}(h:tJ D B gy gtb ga gt)(a:∀r,D' r->D r\/m<=r/\r<bK)(hm:gy<m/\gtb<m/\ga<m/\gt<m):tJ D' B gy gtb ga gt:=
 have f:∀{g:Nat},g<m->¬D g->¬D' g:=by grind
 ⟨⟨h.1.1,f hm.1 h.1.2⟩,⟨h.2.1.1,f hm.2.1 h.2.1.2⟩,⟨h.2.2.1.1,f hm.2.2.1 h.2.2.1.2⟩,h.2.2.2.1,f hm.2.2.2 h.2.2.2.2⟩
theorem lE.lt{l q:Nat}{iJ:Array x1}(h:lE w l gy gt gtb ga iJ q tl):gy<w.heap.size/\gtb<w.heap.size/\ga<w.heap.size/\gt<w.heap.size:=
 ⟨h.1.lt,h.2.1.lt,h.2.2.1.lt,(bE h.2.2.2 ⟨_,_,_,rfl,rfl⟩).2⟩
def AtR(l gy gt gtb ga:Nat)(iJ:Array x1)(P:(Nat->Prop)->x3->Prop)(ay:(Nat->Prop)->Nat->x3->Prop)(S:ah)(D:Nat->Prop)(w:x3)(sl k p:Nat)(tl:Λ)(I:x3):Prop:=
 w.heap.size<=I.heap.size/\∃D' a,a.length=sl/\a.take p=tl.take p/\lE I l gy gt gtb ga iJ sl a/\((∀r,D' r->D r\/w.heap.size<=r/\r<I.heap.size)/\∀r,D r->D' r)/\P D' I/\ay D' k I/\af S w I
section
variable{l gy gt gtb ga B:Nat}{iJ:Array x1}{P:(Nat->Prop)->x3->Prop}{ay:(Nat->Prop)->Nat->x3->Prop}{S T:ah}{D:Nat->Prop}{w J V:x3}{sl k p:Nat}{tl:Λ}
theorem AtR.own(A:∀D T J V,af T J V->(∀r,T r->B<=r/\¬D r)->P D J->P D V)(e:∀D k J V,af (λr=>B<=r/\¬D r) J V->fL B J V->ay D k J->ay D k V)(h:AtR l gy gt gtb ga iJ P ay S D w sl k p tl J)(a:af T J V)(f:fL B J V)(C:∀r,T r->r<w.heap.size/\¬D r/\B<=r/\S r/\r≠gy/\r≠gtb/\r≠ga/\r≠gt):AtR l gy gt gtb ga iJ P ay S D w sl k p tl V:=by
 obtain⟨j,D',q,h1,s,x,⟨E,F⟩,G,y,z⟩:=h;have H:∀r,T r->B<=r/\¬D' r:=by grind
 exact⟨Y2 j a.size,D',q,h1,s,x.aa a (by grind),
  by grind [Nat.lt_of_lt_of_le,af.size],by grind,e D' k J V (a.X (by grind)) f y,z.F (a.X (by grind))⟩
theorem AtR.base{w0:x3}(h:AtR l gy gt gtb ga iJ P ay S D w sl k p tl J)(a:Ext w0 w)(e:∀r,r<w0.heap.size->S r->T r):AtR l gy gt gtb ga iJ P ay T D w0 sl k p tl J:=by
 obtain⟨f,D',j,h1,q,s,⟨x,y⟩,z,A,B⟩:=h;exact⟨Y2 a.size f,D',j,h1,q,s,⟨λr C=>(x r C).imp id λh=>⟨Y2 a.size h.1,h.2⟩,y⟩,z,A,((a.aa S).F B).X e⟩
theorem AtR.comp{a:Nat->Prop}{e:Λ}{x:Int}(E:∀r,r<B\/D r\/r=gt->S r)(F:∀r,a r->D r\/w.heap.size<=r/\r<J.heap.size)(G:∀r,D r->a r)(f:af S w J)(H:e.take p=tl.take p)(h:AtR l gy gt gtb ga iJ P ay (λr=>r<B\/a r\/r=gt) a J sl k (p+1) (e.set p x) V):AtR l gy gt gtb ga iJ P ay S D w sl k p tl V:=by
 obtain⟨j,D',q,h1,s,y,⟨I,K⟩,z,A,C⟩:=h;have U:=f.size;refine⟨Y2 U j,D',q,h1,?_,y,⟨λr L=>?_,by grind⟩,z,A,?_⟩
 .have:=congrArg (List.take p) s
  grind [List.take_set_of_le]
 .grind
 .refine ((f.X (by grind)).F (C.X λr _ h=>?_):af (λr=>S r\/w.heap.size<=r) w V).X (by grind)
  grind
end
theorem Tu{α β:Type}{l:List α}{a:α->List β}{i:Nat}{y:α}{z:β}(h:l[j]?=σ y)(hi:(a y)[i]?=σ z):(l.flatMap a)[((l.take j).flatMap a).length+i]?=σ z:=by
 have p:=(x4.1 h).1;have e:l=l.take j++y::l.drop (j+1):=by
  grind [List.take_append_drop,X1]
 conv=>lhs;rw[e,List.flatMap_append,U7]
 have f:=(x4.1 hi).1;have el:((l.take j++y::l.drop (j+1)).take j)=l.take j:=by grind
 rw[el,Y9 Ω,Nat.add_sub_cancel_left,W8 f];exact hi
theorem Tv{t:r9}{b o:Nat}{x:x1}{K:x1->Prop}(a:lh x7 t=ro)(h:w.cell? ⟨b,o,ν⟩=σ x):ab x7 (do loadVar t (<-asAddr (.pointer (σ ⟨b,o,ν⟩)))) w K=K x:=ab.of λI f=>by
 have bi:=jY f h;unfold lh at a;cases e:x7.underlying t with
 |none=>grind
 |some d=>
  rw[e]at a;cases d<;>first|(cases a;done)|simp[asAddr,loadVar,isAgg,run_underlying e,bi]
def np(bI gy gtb bu aU ga gs:Nat):Array x1:=#[Γ bI,Γ gy,Γ gtb,Γ bu,Γ aU,Γ ga,Γ gs]
def wJ(p:Nat)(bI gy gtb bu aU ga gs:Nat):List x1:=[Δ (p:Int),Γ bI,Γ gy,Γ gtb,Γ bu,Γ aU,Γ ga,Γ gs]
theorem Tw{l:Nat}{L:List (Λ)}{ay:(Nat->Prop)->Nat->x3->Prop}(bT:0<=pos)(bU:∀u∈sc,0<=u/\u<n.co.length)(cX:sc.length<=6)(cY:B0<=B)(c0:gt≠gy/\gt≠gtb/\gt≠ga)(P:∀D k J V,af (λr=>B<=r/\¬D r) J V->fL B J V->ay D k J->ay D k V)(bV:Tt (gC ac ad R n s gs bI bu aU aJ sc pos v B0) ay L l B):
  ∀(q p:Nat)(tl:Λ)(k:Nat)(D:Nat->Prop)(w:x3),sc.length=p+q->tl.length=sc.length->(∀r,D r->B<=r/\r<w.heap.size)->B<=w.heap.size->tJ D B gy gtb ga gt->lE w l gy gt gtb ga (np bI gy gtb bu aU ga gs) sc.length tl->gC ac ad R n s gs bI bu aU aJ sc pos v B0 D w->ay D k w->
   (∀i x,(fX s sc pos v q p tl)[i]?=σ x->L[k+i]?=σ x)->
   aj x7 pD (wJ p bI gy gtb bu aU ga gs) w λr I=>r= .bool ro/\AtR l gy gt gtb ga (np bI gy gtb bu aU ga gs) (gC ac ad R n s gs bI bu aU aJ sc pos v B0) ay (λr=>r<B\/D r\/r=gt) D w sc.length (k+(fX s sc pos v q p tl).length) p tl I:=by
 obtain⟨a,rfl⟩:=T0 bT;have Z:∀D T J V,af T J V->(∀r,T r->B<=r/\¬D r)->gC ac ad R n s gs bI bu aU aJ sc a v B0 D J->gC ac ad R n s gs bI bu aU aJ sc a v B0 D V:=λD T J V aP c1 h=>h.own aP (by grind);have aQ:∀{M:x3}{K:x1->Prop},ag M bI al [aJ]->K aJ->ab x7 (u4 al (Γ bI)) M K:=λaR aT=>by rw[ax Ψ (aR.cell rfl)];exact aT
 have aV:∀{aW p:Nat}{tl:Λ}{D:Nat->Prop}{w V M:x3}{f:Nat}{b:Bool},Ext w V->w.heap.size<=f->f<V.heap.size->(∀r,D r->B<=r/\r<w.heap.size)->B<=w.heap.size->(gy<w.heap.size/\gtb<w.heap.size/\ga<w.heap.size/\gt<w.heap.size)->
   AtR l gy gt gtb ga (np bI gy gtb bu aU ga gs) (gC ac ad R n s gs bI bu aU aJ sc a v B0) ay (λr=>r<B\/D r\/r=gt\/r=f) D V sc.length aW p tl M->ag M f ir [.bool b]->
   aC x7 (o7 ir (Γ f) (.bool ro)) M λ(_:Unit)aY=>ab x7 (do loadVar ir (<-asAddr (Γ f))) aY λr=>w5 w.heap.size aY λbi=>r= .bool ro/\AtR l gy gt gtb ga (np bI gy gtb bu aU ga gs) (gC ac ad R n s gs bI bu aU aJ sc a v B0) ay (λr=>r<B\/D r\/r=gt) D w sc.length aW p tl bi:=by
  intro aW p tl D w V M f b C bj an U ah ao a1 a2;have bW:∀r,r=f->r<V.heap.size/\¬D r/\B<=r/\(r<B\/D r\/r=gt\/r=f)/\r≠gy/\r≠gtb/\r≠ga/\r≠gt:=by
   grind
  refine aC.cD (bt ir.i rfl rfl a2 Ξ λaY bX c2 a6 bY=>?_);have a6:=a6;have bZ:=a1.own Z P bX bY.o bW;rw[Tv Ψ (a6.cell rfl)];intro bi b0 b1;refine⟨rfl,((bZ.own Z P (b0.aa λ_=>False) (b1.2.X ah) λ_ h=>h.elim).base C λr ap h=>?_)⟩
  grind
 intro q;induction q with
 |zero=>
  intro p tl k D w b2 aB U ah G aq a7 a8 au;refine jj func320 ?_;refine aC.cD (bm λg1 J b3 av z ba=>?_);refine aC.cD (bx ir.i λf V bj W N bb=>?_);have C:=av.F W;have b4:=av.size;have b5:=W.size;have z:=ag.W z W;have N:=N;have an:=N.lt;have aD:=P D k w V (C.aa _) (ba.F bb).o a8;have H:=a7.W C;have E:=aq.W C;rw[ax Ψ (z.cell rfl)];refine aQ H.1.2.1 ?_;rw[aS al.u H.2.2.1,bh,ai];refine⟨λ_=>?_,λh=>m6 Ω h⟩;rw[ax Ψ (E.1.cell rfl),ax Ψ (E.2.1.cell rfl)];have b6:=au 0 tl rfl;refine(show jg x7 l [.slice (σ ⟨gt,0,ν⟩) sc.length sc.length] V _ from jg.X (bV D k tl _ V (by grind) Ω H b6 E.2.2.2.ls aD) ?_);rintro _ b7 ⟨rfl,⟨D',d1,d2,b8,b9⟩,ca,cb,bc⟩;refine⟨ca,?_⟩;have ao:=aq.lt;have bk:∀{g:Nat},w.heap.size<=g->¬D g:=by grind
  have aE:∀{g:Nat},B<=g->¬D g->¬(g<B\/D g):=by grind
  have a2:=N.aa bc (by grind);have a1:AtR l gy gt gtb ga (np bI gy gtb bu aU ga gs) (gC ac ad R n s gs bI bu aU aJ sc a v B0) ay (λr=>r<B\/D r\/r=gt\/r=f) D V sc.length (k+1) p tl b7:=
   ⟨cb,D',tl,aB,rfl,E.aa bc ⟨aE G.1.1 G.1.2,aE G.2.1.1 G.2.1.2,aE G.2.2.1.1 G.2.2.1.2,aE G.2.2.2.1 G.2.2.2.2⟩,⟨d1,d2⟩,b8,b9,bc.X (by grind)⟩
  exact aV C Ω an U ah ao a1 a2
 |succ q bl=>
  intro p tl k D w b2 aB U ah G aq a7 a8 au;refine jj func320 ?_;refine aC.cD (bm λg1 J b3 av z ba=>?_);refine aC.cD (bx ir.i λf V bj W N bb=>?_);have C:=av.F W;have b4:=av.size;have b5:=W.size;have z:=ag.W z W;have N:=N;have an:=N.lt;have h1:=z.lt;have aD:=P D k w V (C.aa _) (ba.F bb).o a8;have H:=a7.W C;have E:=aq.W C;have ao:=aq.lt;have bk:∀{g:Nat},w.heap.size<=g->¬D g:=by grind
  rw[ax Ψ (z.cell rfl)];refine aQ H.1.2.1 ?_;rw[aS al.u H.2.2.1,bh,ai];refine⟨λh=>m6 h Ω,λ_=>?_⟩;rw[ax Ψ (z.cell rfl),ax Ψ (H.1.2.2.1.cell rfl),bh,ai];have bn:∀{M:x3}{K:x1->Prop},ag M gtb al [.slice (σ ⟨gt,0,ν⟩) sc.length sc.length]->K (.slice (σ ⟨gt,0,ν⟩) sc.length sc.length)->ab x7 (u4 al (Γ gtb)) M K:=λaR aT=>by rw[ax Ψ (aR.cell rfl)];exact aT
  have bo:∀{D:Nat->Prop}(r:Nat),tJ D B gy gtb ga gt->r=gt->B<=r/\¬D r:=λr h e=>e▸⟨h.2.2.2.1,h.2.2.2.2⟩;refine⟨λhe=>?_,λcc=>?_⟩
  .refine bn E.2.1 ?_;rw[ax Ψ (z.cell rfl),ax Ψ (H.1.2.2.2.cell rfl),iy rfl al.u ae.i E.2.2.2 Ω];refine aC.cD (iz ae.i E.2.2.2 Ω λaG S c3 cd ce=>?_);have bp:lE aG l gy gt gtb ga (np bI gy gtb bu aU ga gs) sc.length (tl.set p v):=⟨E.1.aa S Ω,E.2.1.aa S Ω,E.2.2.1.aa S Ω,cd⟩;have cf:=Z D _ _ _ S (by grind) H;have cg:=P D k V aG (S.X (by grind)) ce.o aD;have ch:=z.aa S Ω;have ci:=N.aa S Ω;rw[ax Ψ (bp.2.2.1.cell rfl),ax Ψ (ch.cell rfl),aM,lm Ω Ω];have hw:fX s sc a v (q+1) p tl=fX s sc a v q (p+1) (tl.set p v):=by rw[fX,m3 he]
   rw[hw];rw[hw]at au;refine(show aj x7 pD (wJ (p+1) bI gy gtb bu aU ga gs) aG _ from aj.X (bl (p+1) (tl.set p v) k D aG Ω (by grind) (by grind) Ω G bp cf cg au) ?_);rintro _ cj c4 ⟨rfl,br⟩;have ck:ag cj f ir [.bool rs]:=by
    obtain⟨_,_,_,_,_,_,_,_,_,cl⟩:=br;exact ci.aa cl (by grind)
   exact aV C Ω an U ah ao (AtR.comp (by grind) (by grind) (λ_ h=>h) (S.X Ω) rfl br) ck
  intro c5 aH _ cm;have aI:=H.W aH;obtain⟨A,s',t',bs,cn,c6⟩:=id aI.2.2.2.2.2;obtain⟨u,bd⟩:=aF (l:=sc) (i:=p) Ω;obtain⟨cp,c7⟩:=bU u (x5 bd);have c8:=bs.2.2.2.1.d6;obtain⟨x,bw⟩:=aF (l:=s'.d6) (i:=u.toNat) Ω;rw[ax Ψ (aI.1.1.cell rfl)];refine aQ aI.1.2.1 ?_;rw[ax Ψ ((z.W aH).cell rfl),be al.u ae.i Ψ aI.2.2.1 bd];refine(lB (i:=u) bs).X ?_;rintro _ c9 cq ⟨⟨b,da,rfl,bz⟩,bB⟩;refine(pV).X ?_;rintro _ aK cr ⟨ct,bC,rfl,db,bD⟩;have bE:=od bz cp bw;have cu:cZ s (sc.getD p 0)=aL x:=by
   rw[<-cn,u5,bd,Option.getD_some];unfold cZ;rw[bw]
  have bF:fX s sc a v (q+1) p tl=(aL x).flatMap λy=>fX s sc a v q (p+1) (tl.set p y):=by rw[fX,m5 cc,cu]
  have X:=(aH.F bB).F ct;have cw:=(cm.F cq).F cr;have z12:=X.size;have dc:=(aH.F bB).size;have dd:=bD.lt;have bG:B<=aK.heap.size:=Ω
  have cz:=P D k V aK (X.aa _) cw.o aD;have bH:=H.W X;have bJ:=E.W X;refine⟨Nat,rs,rs,la,#[Γ bC],0,_,_,λ_=>_,λ_ j I=>AtR l gy gt gtb ga (np bI gy gtb bu aU ga gs) (gC ac ad R n s gs bI bu aU aJ sc a v B0) ay (λr=>r<B\/D r\/r=gt) D aK sc.length (k+(((aL x).take j).flatMap λy=>fX s sc a v q (p+1) (tl.set p y)).length) p tl I/\ag I g1 ae [Δ (p:Int)]/\ag I f ir [.bool rs],
   λ_ _ _ _=>False,rfl,(pU (g:=bC) bz.1).s.x,?_,λ_ _ _ ak h=>⟨h.1.W ak,h.2.W ak⟩,?_,by grind,⟨bD,bH.2.2.2.2.1.1⟩,?_,?_,?_,λ_ _ _ h=>h.elim,by grind⟩
  .rintro _ _ _ _ ⟨_,_,_,_,rfl⟩;rfl
  .rintro _ j bq cU aP cA ⟨Y,aw,O⟩;have ak:=aP.W (by grind);exact⟨Y.own Z P (ak.aa λ_=>False) (cA.X bG) λ_ h=>h.elim,aw.W ak,O.W ak⟩
  .exact⟨⟨p9 _,D,tl,aB,rfl,bJ,⟨by grind,λ_ h=>h⟩,bH,by simpa using cz,af.refl _ _⟩,z.W X,N.W X⟩
  .rintro _ _ j _ de _ _ ⟨cB,df⟩ ⟨dg,rfl,y,cC,cE⟩ ⟨cF,bK,cG⟩;cases cE;intro bL az cH _;have bM:(aL x)[j]?=σ (y:Int):=by rw[<-bE,x8,cC];rfl
   have cI:=cF.own Z P (az.aa λ_=>False) (cH.2.X bG) λ_ h=>h.elim;obtain⟨dh,aA,aN,Y,aw,O,⟨aO,cJ⟩,cK,cL,cM⟩:=cI;have cN:=bJ.lt;have bf:=G.go aO cN;have bN:∀r,aA r->B<=r/\r<bL.heap.size:=λr ap=>(aO r ap).elim (λh=>⟨(U r h).1,by have:=(U r h).2;omega⟩) Ω;refine bn O.2.1 ?_;rw[ax Ψ ((bK.W az).cell rfl),iy rfl al.u ae.i O.2.2.2 Ω];refine aC.cD (iz ae.i O.2.2.2 Ω λam Q di cO cP=>?_);have bO:lE am l gy gt gtb ga (np bI gy gtb bu aU ga gs) sc.length (aN.set p y):=⟨O.1.aa Q Ω,O.2.1.aa Q Ω,O.2.2.1.aa Q Ω,cO⟩;have cQ:=Z aA _ _ _ Q (λr h=>bo r bf h) cK;have cR:=P aA _ bL am (Q.X λr _ h=>bo r bf h) cP.o cL;have bP:ag am g1 ae [Δ (p:Int)]:=(bK.W az).aa Q Ω;have cS:ag am f ir [.bool rs]:=(cG.W az).aa Q Ω;have cT:=(cB.W az).aa Q Ω;rw[ax Ψ (bO.2.2.1.cell rfl),ax Ψ (bP.cell rfl),aM,lm Ω Ω];have bQ:fX s sc a v q (p+1) (aN.set p (y:Int))=fX s sc a v q (p+1) (tl.set p (y:Int)):=To Ω (by rw[U4];exact aB) (by rw[U4];exact Y) (by rw[wF Ω,wF Ω,aw]);refine(show aj x7 pD (wJ (p+1) bI gy gtb bu aU ga gs) am _ from aj.X (bl (p+1) (aN.set p y) _ aA am Ω (by rw[U4];exact Y) (λr ap=>⟨(bN r ap).1,by have:=(bN r ap).2;omega⟩) Ω bf bO cQ cR λi dj hi=>?_) ?_)
   .rw[bQ]at hi;rw[Nat.add_assoc];refine au _ _ ?_;rw[bF];exact Tu bM hi
   rintro _ dk dl ⟨rfl,bR⟩;rw[bA,Y6,aX];have bS:=AtR.comp (λr h=>h) (λr h=>(aO r h).imp id Ω) cJ (cM.F (Q.X Ω)) aw bR;obtain⟨_,_,_,_,_,_,_,cV,_,bg⟩:=bR;have aZ:∀{g:Nat},w.heap.size<=g->g<aK.heap.size->¬(g<B\/aA g\/g=gt):=λcW dm h=>by
    rcases h with h|h|h
    .omega
    .exact (aO _ h).elim (bk cW) Ω
    .omega
   refine⟨⟨cT.aa bg (aZ Ω Ω),cV.2.2.2.2.1.1⟩,⟨?_,bP.aa bg (aZ Ω Ω),cS.aa bg (aZ Ω Ω)⟩,by grind⟩;have e:k+(((aL x).take j).flatMap λy=>fX s sc a v q (p+1) (tl.set p y)).length+(fX s sc a v q (p+1) (aN.set p (y:Int))).length=k+(((aL x).take (j+1)).flatMap λy=>fX s sc a v q (p+1) (tl.set p y)).length:=by
    rw[bQ,u7,bM,l9,List.flatMap_append,List.flatMap_singleton,p8];omega
   rw[e]at bS;exact bS
  .rintro _ j dn rfl ⟨Y,aw,O⟩;rw[n9 (by rw[<-bE,o4];omega),<-bF]at Y;exact aV C Ω an U ah ao (Y.base X (by grind)) O
end
section
variable{ac ad gs bI bu aU B0:Nat}{R:ah}{n:aD}{s:am}{aJ:x1}{sc:Λ}{v:Int}
theorem Hd{e:Nat}(W:∀u∈sc,0<=u/\u<n.co.length)(X:sc.length<=6):
  se x7 ro rs nF [Γ bI,Γ bu,Γ aU,Γ gs] 0 (λk=>k=(cQ s sc e v).length)
   (λk vs Y w=>Y=k+1/\∃tl aN,(cQ s sc e v)[k]?=σ tl/\vs=[aN]/\aI .i64 w aN tl) (gC ac ad R n s gs bI bu aU aJ sc e v B0):=by
 refine⟨nF.enters,λl ay a1 w Z _ ah hj ai=>?_⟩;have E:∀D k J V,af (λr=>w.heap.size<=r/\¬D r) J V->fL w.heap.size J V->ay D k J->ay D k V:=λD k J V aj ak=>Z D k J V (aj.X λr _ h=>⟨rfl,h⟩) ak;have U:=hj.2.2.1;have am:=hj.2.2.2.2.1.2;obtain⟨_,_,_,a2⟩:=cP U;refine sq func319 ?_;refine aC.cD (bm λgy J a6 p G an=>?_);have ap:∀{H:x3}{K:x1->Prop},ag H bI al [aJ]->K aJ->ab x7 (u4 al (Γ bI)) H K:=λaq au=>by rw[ax (v:=aJ) Ψ (aq.Qz rfl)];exact au
 refine ap (hj.1.2.1.W p) ?_;rw[aS al.u (U.W p)];refine aC.cD (ky (k:=.i64) al.u ae.i Ω Ω λgt V a7 A M av=>?_);refine aC.cD (bx al.i λgtb a8 ba q N aw=>?_);refine aC.cD (bt al.i rfl rfl N (by simp[T9]) λbb C bc az aA=>?_);refine aC.cD (bx qV.i λga bd be f O aB=>?_);rw[j1];refine aC.cD (bt qV.i rfl rfl O (by simp[T9]) λa y bf aD aE=>?_);have bg:=p.size;have bh:=A.size;have z3:=q.size;have z5:=f.size;have bi:=G.lt;have bj:=M.lt;have bk:=N.lt;have bl:=O.lt;have aF:ag a gy B1 [.func (.yield l) #[] #[]]:=(((((ag.W G A).W q).aa C Ω).W f).aa y Ω);have aG:ag a gt ae (ints .i64 (r8 sc.length 0)):=((((M.W q).aa C Ω).W f).aa y Ω);have aH:ag a gtb al [.slice (σ ⟨gt,0,ν⟩) sc.length sc.length]:=((ag.W az f).aa y Ω);have P:ag a ga qV [.func (.func pD) #[] (np bI gy gtb bu aU ga gs)]:=aD;rw[ax (v:=.func (.func pD) #[] (np bI gy gtb bu aU ga gs)) Ψ (P.Qz rfl)];have hm:ao .i64 ae a gt (.slice (σ ⟨gt,0,ν⟩) sc.length sc.length) (r8 sc.length 0):=by
  have:=bZ.full (n:=sc.length) (k:=1) aG Ξ (by simp only[maxLen];omega);unfold ao;rw[List.length_replicate];exact this
 have aK:=(p.F A).F q;have Q:af (λr=>w.heap.size<=r/\¬False) w a:=(((aK.aa _).F (C.X λr _ h=>⟨by have h:r=gtb:=h;omega,id⟩)).F (f.aa _)).F (y.X λr _ h=>⟨by have h:r=ga:=h;omega,id⟩);have aL:cC w a:=((((an.F av).F aw).F aA).F aB).F aE;have aM:gC ac ad R n s gs bI bu aU aJ sc e v B0 (λ_=>False) a:=hj.own Q λr aO=>⟨Ω,aO.2⟩;have S:=Tp (s:=s) (sc:=sc) (pos:=e) (v:=v) (tl:=r8 sc.length 0) Ξ;refine(show gT x7 pD (wJ 0 bI gy gtb bu aU ga gs) a _ from(Tw (L:=cQ s sc e v) (B:=w.heap.size) (l:=l) (gy:=gy) (gt:=gt) (gtb:=gtb) (ga:=ga) (pos:=e) Ω W X am ⟨Ω,Ω,Ω⟩ E ?_ sc.length 0 (r8 sc.length 0) 0 (λ_=>False) a Ω Ξ (λ_ h=>h.elim) Ω ⟨⟨Ω,id⟩,⟨Ω,id⟩,⟨Ω,id⟩,Ω,id⟩ ⟨aF,aH,P,hm⟩ aM (E _ _ _ _ Q aL.o ai) λi x hi=>?_).free.X ?_)
 .intro D k tl aN I aP aQ aR aT aV z;refine jg.X (ah D k (k+1) [aN] I aP aQ aR ⟨rfl,tl,aN,aT,rfl,aV⟩ z) ?_;rintro u bn (⟨h1,aW,aX,aY,aZ⟩|⟨h,_⟩)
  .exact⟨h1,aW,aX (.inr rfl),aY,aZ rfl⟩
  .cases h
 .rw[S]at hi;rw[W7];exact hi
 .rintro _ bo ⟨_,rfl,_,D',_,_,_,_,_,_,z,_⟩;rw[S,W7]at z;exact .inl ⟨D',_,rfl,z⟩
end
def He(m gs bI bu aU:Nat)(aJ:x1):Prop:=(m<=gs/\m<=bI/\m<=bu/\m<=aU)/\∀r,li aJ r->m<=r
section
variable{ac ad gs bI bu aU B0 m:Nat}{A R:ah}{n:aD}{s s':am}{t:av}{aJ:x1}{sc:Λ}{pos v:Int}{w I:x3}
theorem bd.lt(h:bd w ac ad A R n s t){r:Nat}(a:A r\/R r):r<w.heap.size:=by
 obtain⟨⟨j,p,q,x,⟨_,_,e,f⟩,_⟩,_⟩:=h;exact a.elim (f r) (e r)
theorem gC.put{D' S:Nat->Prop}(h:gC ac ad R n s gs bI bu aU aJ sc pos v B0 D w)(j:af S w I)(hm:He m gs bI bu aU aJ)(y:∀r,S r->r<m\/B0<=r)(z:Laid I)(B:bd I ac ad A R n s' t)(C:∀i,cZ s' i=cZ s i)(E:∀r,A r\/R r->r<B0\/D' r):gC ac ad R n s gs bI bu aU aJ sc pos v B0 D' I:=by
 obtain⟨h1,f,p,q,F,_⟩:=h;have no:∀{r:Nat},m<=r->r<B0->¬S r:=λh1 f p=>by have:=y _ p;omega
 exact⟨h1.aa j ⟨no hm.1.1 f.1,no hm.1.2.1 f.2.1,no hm.1.2.2.1 f.2.2.1,no hm.1.2.2.2 f.2.2.2⟩,f,jk p j λr G a n c e x=>no (hm.2 r ⟨a,n,c,e,x⟩) (q r ⟨a,n,c,e,x⟩) G,q,⟨z,Y2 F.2 j.size⟩,A,s',t,B,C,E⟩
theorem Hf{f:bH}{y:x3->Prop}(h:bd w ac ad A R n s t)(B:Laid w)(C:s.d7[j]?=σ f)(E:∀aJ gs bI bu aU I,Ext w I->He w.heap.size gs bI bu aU aJ->gC ac ad R n s gs bI bu aU aJ f.sc pos v I.heap.size (λ_=>False) I->K (.func (.func nF) #[] #[Γ bI,Γ bu,Γ aU,Γ gs]) I):
  aj x7 ux [Γ ac,Δ (j:Int)] w λaJ J=>(Ext w J\/y J)/\aj x7 BZ [Γ ac,aJ,Δ pos,Δ v] J K:=by
 refine(rQ h C).X ?_;rintro aJ J _ ⟨q,g,G,hm⟩;refine⟨.inl q,(Ts hm.ls).X ?_⟩;rintro _ V _ ⟨x,gs,bI,bu,aU,rfl,a,H,L,M,N⟩;have p:=q.F x;have O:=q.size;have z:=p.size;refine E aJ gs bI bu aU V p ⟨⟨Ω,Ω,Ω,Ω⟩,λr e=>(bE hm e).1▸G⟩ ⟨a,⟨a.1.lt,a.2.1.lt,a.2.2.1.lt,a.2.2.2.lt⟩,hm.ls.W x,λr e=>?_,⟨B.W p,p9 _⟩,A,s,t,h.W p,λ_=>rfl,λr e=>.inl ?_⟩
 .have:=bE hm e;have:=x.size;omega
 .have:=h.lt e;omega
end
section
variable{k:Int}{co:Λ}{s:am}{f:bH}{j pos:Nat}{v:Int}{tl:Λ}
theorem wK{m:Nat}(a:s.d7[j]?=σ f)(e:f.live≠0)(hm:ct f.szs tl 0=σ (m:Int)):(jO s j tl).isSome=ro/\o2 s j tl=bg f.szs f.cs tl:=by
 unfold jO o2;rw[a];simp[e,hm]
end
section
variable{w:x3}{ac ad:Nat}{A R:ah}{n:aD}{s:am}{t:av}
theorem Tx{f:bH}(h:bd w ac ad A R n s t)(ah:Laid w)(N:s.d7[j]?=σ f)(ay:f.live≠0)(az:∀u,f.sc[pos]?=σ u->v∈cZ s u):
  aj x7 K4 [Γ ac,Δ (j:Int),Δ (pos:Int),Δ v] w λr I=>r=Δ (oh n.k s f pos v)/\Ext w I:=by
 have ai:=h.2.2.2.1;have ak:=x5 N;obtain⟨O,aR,_⟩:=ai.d7 f ak;refine jj func247 ?_;refine bm λg1 J aS P y=>?_;refine bm λal V aT K L=>?_;have y:=ag.W y K;have L:=L;rw[ax Ψ (y.cell rfl)];refine(nh (h.W (P.F K))).X ?_;rintro _ aV _ ⟨rfl,Q⟩;refine bx ap.i λS aW aX U am=>?_;have aY:=P.size;have a1:=K.size;have z3:=Q.size;have z4:=U.size;have a2:=y.lt;have a6:=L.lt;have a7:=am.lt;refine bt ap.i rfl rfl am (by simp[T9]) λa8 W ba X=>?_;have X:=X;intro an z _ _;have bb:=z.size;have ao:=Q.F U;have Y:=((((P.F K).F Q).F U).then W (by rintro r p rfl;omega)).F z;have Z:ag an g1 dB [Γ ac]:=((y.W ao).aa W Ω).W z;have aq:ag an al ae [Δ (j:Int)]:=((L.W ao).aa W Ω).W z;have au:=X.W z;have bc:=au.lt;rw[ax Ψ (Z.cell rfl),ax Ψ (Z.cell rfl),ax Ψ (aq.cell rfl)];refine Hf (h.W Y) (ah.W Y) N λaJ gs bI bu aU aA B aB aD=>?_;have be:=B.size;refine⟨Nat,ro,rs,nF,#[Γ bI,Γ bu,Γ aU,Γ gs],0,_,_,_,λD k I=>Ext w I/\ag I g1 dB [Γ ac]/\ag I al ae [Δ (j:Int)]/\ag I S ap [Δ ((((cQ s f.sc pos v).take k).map (bg f.szs f.cs)).foldl min n.k)],
  λ_ _ _ _=>False,rfl,Hd (λu av=>⟨(O.scope.1 u av).1,O.d6 u av⟩) O.scope.2,?_,λ_ _ _ aE h=>h.W aE,?_,λ_ _ _ _ _ _ _ h=>h,aD,?_,?_,?_,λ_ _ _ h=>h.elim,λ_ _ _ _ h=>h.elim⟩
 .rintro _ _ _ _ ⟨_,_,_,_,rfl,_⟩;rfl
 .rintro D k bq cU M bf ⟨q,C,E,x⟩;have aZ:∀{g:Nat}{e:r9}{cs:List x1},g<aA.heap.size->ag bq g e cs->ag cU g e cs:=λbh aF=>aF.aa M λh=>by have:=h.2.1;omega
  exact⟨q.then M λr p h=>by have:=h.2.1;omega,aZ Ω C,aZ Ω E,aZ Ω x⟩
 .exact⟨Y.F B,Z.W B,aq.W B,au.W B⟩
 .rintro aN D k bi bj bk bl aG ⟨rfl,tl,bn,aw,e,aH⟩ ⟨q,C,E,x⟩;cases e;intro br G _ aI;obtain⟨m,hm⟩:=wo ai ak az (x5 aw);obtain⟨aK,M⟩:=wK N ay hm;rw[ax Ψ ((C.W G).cell rfl),ax Ψ ((E.W G).cell rfl)];refine(tr (h.W (q.F G)) (aH.W G)).X ?_;rintro _ bs aL ⟨rfl,aM⟩;have a:=G.F aM;rw[m3 aK,M,bo,bp,ax Ψ ((x.W a).cell rfl),nJ];refine aC.cD (bt ap.i rfl rfl (x.W a) Ξ λbw H bz ab aO=>?_);have bA:=a.size;have af:=(q.F a).then H (by rintro r p rfl;omega);have aP:=h.W af;refine⟨⟨D,λr h=>.inl h,λ_ h=>h,(aG.W a).put H aB (λr p=>.inl (by have p:r=S:=p;omega)) (ah.W af) aP (λ_=>rfl) λr p=>.inl (by have:=h.lt p;omega),af,(C.W a).aa H Ω,(E.W a).aa H Ω,?_⟩,aI.F (aL.lL.F aO.lL),(a.aa _).F (H.X λr _ h=>.inl (by have h:r=S:=h;omega))⟩;have ab:=ab;rw[u7,aw,l9,l7,List.foldl_append];exact ab
 .rintro D k bB rfl ⟨q,C,E,x⟩;rw[ax Ψ (x.cell rfl)];intro bC aQ _;refine⟨?_,q.F aQ⟩;rw[n9 (p9 _)];rfl
end
def z1(w:x3)(a:Nat)(cap:Array x1)(e:Λ)(of:Λ->Int):Prop:=∀(I:x3)(aN:x1)(tl:Λ),af (λr=>w.heap.size<=r) w I->aI .i64 I aN tl->cX e tl->aj x7 a (aN::cap.toList) I λr f=>r=Δ (of tl)/\Ext I f
def pm(a:Λ)(of:Λ->Int):Λ:=(Z2 (aA a).toNat).map λ(q:Nat)=>of (b1 a q)
section
variable{w:x3}{ac ad:Nat}{A R:ah}{n:aD}{s:am}{t:av}
theorem bd.side{S:ah}(h:bd w ac ad A R n s t)(a:af S w I)(e:∀r,r<w.heap.size->¬S r):bd I ac ad A R n s t:=⟨h.1.aa a λr f _=>e r f,h.2⟩
theorem z6(a:aY k co s)(e:∀v∈sc,0<=v/\v<co.length)(f:sc.length<=6):bS (aB co sc):=⟨by simp[aB];omega,kd a.c5.2.2 e⟩
theorem Hg{X:Nat}{cap:Array x1}{of:Λ->Int}(h:bd w ac ad A R n s t)(aH:aI .i64 w aJ sc)(Y:∀v∈sc,0<=v/\v<n.co.length)(aK:sc.length<=6)(aL:aA (aB n.co sc)<=4096)(aM:z1 w X cap (aB n.co sc) of)(aO:∀tl,cX (aB n.co sc) tl->0<=of tl/\of tl<=n.k):
  aj x7 BQ [Γ ac,aJ,.func (.func X) #[] cap] w λr I=>Ext w I/\∃g Z sv,r=Γ g/\w.heap.size<=g/\w.heap.size<=Z/\ce I g Z sv (aB n.co sc) n.k (pm (aB n.co sc) of):=by
 have ab:=h.2.2.2.1;have hk:=ab.dH;have f:=z6 ab Y aK;have bf:=prod_bound f;refine jj func179 ?_;refine bm λbg J bh j ae=>?_;refine(G8 (h.W j) (aH.W j) Y Ω).X ?_;rintro bi V _ ⟨C,gz,bj,aP⟩;refine(nh (h.W (j.F C))).X ?_;rintro _ bl _ ⟨rfl,E⟩;refine(sx (aP.ls.W E)).X ?_;rintro _ G _ ⟨ag,_,_,_,aQ⟩;obtain⟨ah,a,H,rfl,bn,bq,br,K⟩:=aQ f aL ⟨hk,Ω,Ω⟩;obtain⟨N,M⟩:∃N:Nat,(aA (aB n.co sc)).toNat=N:=⟨_,rfl⟩;rw[M]at K;rw[bo,bp];refine bx dv.i λaR bs aS aT p=>?_;refine bt dv.i rfl rfl p (by simp[T9]) λaU aV bu p=>?_;have O:Ext G aU:=aT.put aV Ω;have aW:=(C.F E).F ag;have aX:=aW.F O;have ai:=K.W O;rw[ax Ψ (p.cell rfl)];refine(nY ai).X ?_;rintro _ bw _ ⟨rfl,ak⟩;refine p1.X ?_;rintro _ P _ ⟨al,am,rfl,bz,Q⟩;have S:=ak.F al;have an:=aX.F S;have ao:=j.F an;have ap:=ai.W S;have bA:=j.size;have bB:=C.size;have z3:=E.size;have z4:=ag.size;have z46:=O.size;have bC:=ak.size;have bD:=al.size;have bE:=ae.lt;have bF:=p.lt;have bG:=Q.lt;obtain⟨⟨bH,bI,bJ,aq,bK⟩,⟨bL,aY,_⟩,_,bM⟩:=id ap;have bN:a<G.heap.size:=by obtain⟨⟨_,_,_,_,q⟩,_⟩:=id K;exact iA q Θ
 have bO:aR=G.heap.size:=aS;let L:=pm (aB n.co sc) of;have au:L.length=N:=by simp[L,pm,M]
 have aZ:=ae.W an;have av:=p.W S;have aw:=p0 (g:=am) (B0:=P.heap.size) (sv:=H) f;rw[M]at aw;refine mA.old ⟨Nat,rs,kt,#[Γ am],0,_,_,_,λq I=>af (λr=>r=a) P I/\ce I ah a H (aB n.co sc) n.k (upto L 0 q),λ_ _ _=>False,rfl,aw.s,
  ?_,λ_ _ e h=>⟨h.1.W e,h.2.1.W e,Y2 h.2.2 e.size⟩,λ_ _ _ e h=>⟨h.1.F (e.aa _),h.2.W e⟩,λ_ _ _ _ _ h=>h,⟨Q,aq.ls,p9 _⟩,⟨af.refl _ _,?_⟩,?_,?_,λ_ _ h=>h.elim,λ_ _ _ h=>h.elim⟩
 .rintro _ _ _ _ ⟨_,_,_,_,rfl,_⟩;rfl
 .rw[nU,au];exact ap
 .rintro _ aN q _ bP ⟨_,_,bQ⟩ ⟨ay,rfl,bR,gt,a1,bS,a2⟩ ⟨a6,a7⟩;cases a1;intro bT a8 _ _ az ba _ _;have U:=a8.F ba;have x:af (λr=>r=a) P az:=a6.F (U.aa _);rw[ax Ψ ((av.aa x Ω).cell rfl),ax Ψ ((aZ.aa x Ω).cell rfl)];have aC:=rg (s:=aB n.co sc) f.2 (q:=q) Ω;have aD:=a2.W U;refine aj.X (aM az aN (b1 (aB n.co sc) q) ((ao.aa _).F (x.X λr _ y=>by have y:r=a:=y;omega)) aD.ls aC) ?_;rintro _ bU _ ⟨rfl,z⟩;refine⟨.inl z,?_⟩;refine(Cy ((a7.W U).W z) (aD.W z).ls).X ?_;rintro _ bV _ ⟨_,bb,aE⟩;have bc:L[q]?=σ (of (b1 (aB n.co sc) q)):=by
   simp only[L,pm];rw[x8,List.getElem?_range Ω];rfl
  have be:q3 (aB n.co sc) (b1 (aB n.co sc) q) n.k (of (b1 (aB n.co sc) q)) (upto L 0 q)=upto L 0 (q+1):=by
   unfold q3;rw[rb f.2 Ω Ω];simp only;rw[m3 ⟨hk,aO _ aC⟩,u9,nW bc]
  rw[be]at aE;have B:=(x.F (z.aa _)).F bb;refine⟨⟨Q.aa B Ω,?_,Y2 (p9 _) B.size⟩,⟨B,aE⟩,λh=>by cases h⟩;exact(bk aq B λr y he=>aY ((show r=a from he)▸y)).ls
 .rintro q bW ay ⟨aF,W⟩;rw[show q=N from ay]at W;rw[ax Ψ ((av.aa aF Ω).cell rfl)];intro bX aG _;rw[<-au,nV]at W;exact⟨(ao.put aF Ω).F aG,ah,a,H,rfl,Ω,Ω,W.W aG⟩
theorem Hh{co:Λ}(p:Int->Bool):∀(l:Λ),(∀v∈l,1<=co.getD v.toNat 0)->aA (aB co (l.filter p))<=aA (aB co l)/\1<=aA (aB co (l.filter p))
 |[],_=>⟨R6 _,R6 1⟩
 |v::l,h=>by
  obtain⟨h1,q⟩:=Hh p l λu j=>h u (.tail _ j);have a:=h v (.head _);have e:aA (aB co (v::l))=co.getD v.toNat 0*aA (aB co l):=rfl;have hm:1*aA (aB co l)<=co.getD v.toNat 0*aA (aB co l):=V6 a Ω;rw[e];cases f:p v with
  |true=>
   rw[List.filter_cons_of_pos f];show co.getD v.toNat 0*aA (aB co (l.filter p))<=_/\1<=co.getD v.toNat 0*aA (aB co (l.filter p));have r:=Int.mul_le_mul_of_nonneg_left h1 (show 0<=co.getD v.toNat 0 by omega);have s:1*aA (aB co (l.filter p))<=co.getD v.toNat 0*aA (aB co (l.filter p)):=V6 a Ω;omega
  |false=>
   rw[List.filter_cons_of_neg (by simp[f])];omega
theorem Ty{i:Int}{L M:List bH}(a:aY k co s)(j:∀f∈L,f∈M):aA (aB co (bW co i L))<=aA (aB co (bW co i M))/\(bW co i L).length<=(bW co i M).length:=by
 have e:bW co i L=(bW co i M).filter λv=>decide (v∈bW co i L):=rA mm (nl (List.Pairwise.filter _ mm.pair)) λv=>by
  rw[U8,pl];refine⟨λh=>⟨?_,h⟩,λh=>h.2⟩;obtain⟨h1,p⟩:=km.1 h;exact km.2 ⟨h1,p.imp id λ⟨f,q,r⟩=>⟨f,j f q,r⟩⟩
 rw[e];refine⟨(Hh _ _ λv w=>?_).1,List.length_filter_le _ _⟩;have h1:=(km.1 w).1;have:=kd (sc:=[v]) a.c5.2.2 (λu x=>by rw[b8.1 x];exact h1) _ (.head _);exact this.1
theorem Hi{of:Λ->Int}(a:ez sc):pm (aB co sc) of=er (aB co sc) sc λA=>of (sc.map A):=by
 unfold pm er;refine V2 λq _=>?_;show of _=of (sc.map (fW sc _));rw[zM a (by rw[ix];simp[aB])]
theorem dX.un{i:Int}{x:bs}(hm:dX n s i x)(h:aY n.k n.co s):∃pos:Nat,(bW n.co i (br s i))[pos]?=σ i/\(bW n.co i (br s i)).length<=4/\aA (aB n.co (bW n.co i (br s i)))<=4096:=by
 obtain⟨pos,a⟩:=c9.1 (km (co:=n.co) (L:=br s i).2 ⟨hm.has,.inl rfl⟩:i∈bW n.co i (br s i));obtain⟨h1,f⟩:=zW h hm.has a;refine⟨pos,a,?_,?_⟩
 .have:=hm.wy;rw[f];simp;omega
 .have e:aA (aB n.co (bW n.co i (br s i)))=n.co.getD i.toNat 0*aA (aB n.co (bf n.co s i)):=by
   rw[f];unfold aB;rw[l7,l7,q0,q0];have j:aA ((bf n.co s i).map λv=>n.co.getD v.toNat 0)=aA (((bf n.co s i).take pos).map λv=>n.co.getD v.toNat 0)*aA (((bf n.co s i).drop pos).map λv=>n.co.getD v.toNat 0):=by
    rw[<-q0,<-l7,List.take_append_drop]
   rw[j];show _*(n.co.getD i.toNat 0*1)*_=_;rw[Int.mul_one,Int.mul_comm (aA (((bf n.co s i).take pos).map λv=>n.co.getD v.toNat 0)),Int.mul_assoc]
  rw[e];exact hm.small
theorem Tz{i:Int}{x:bs}(h:bd w ac ad A R n s t)(hm:dX n s i x):aj x7 Jk [Γ ac,Δ i] w λr I=>Ext w I/\∃g e sv aJ aU,r= .tuple #[Γ g,aJ]/\(w.heap.size<=g/\w.heap.size<=e/\w.heap.size<=aU)/\
  ce I g e sv (aB n.co (bW n.co i (br s i))) n.k (er (aB n.co (bW n.co i (br s i))) (bW n.co i (br s i)) (dP n.k x.un i (br s i)))/\ao .i64 ae I aU aJ (bW n.co i (br s i)):=by
 have H:=h.2.2.2.1;have hk:=H.dH;obtain⟨c0,aG,c1⟩:=hm.size H;obtain⟨pos,c2,c3,c4⟩:=hm.un H;have bb:∀f∈br s i,∀v∈f.sc,0<=v/\v<n.co.length:=λf X v E=>by
  have z:=(H.d7 f (jS.1 X).1).1;exact⟨(z.scope.1 v E).1,z.d6 v E⟩
 have bc:∀{l sc:Λ}{F:(Int->Int)->Int},(∀A,0<=F A/\F A<=n.k)->∀c∈er l sc F,cJ c n.k:=λbY c z=>⟨hk,GJ bY c z⟩;refine az func90 ?_;refine bm λg1 J c5 aG O=>?_;refine bm λbf V c6 aH ak=>?_;have O:=O.W aH;have P:=aG.F aH;have c7:=aG.size;have c8:=aH.size;have c9:=O.lt;have da:=ak.lt;have am:=S2 (co:=n.co) hm.has;have bZ:∀I,Ext V I->z1 I BR #[Γ g1,Γ bf] (aB n.co [i]) (λtl=>x.un.getD (tl.getD 0 0).toNat 0):=λI an bh aN tl z aK Y=>by
  have db:=an.size;have aL:∀r,r<I.heap.size->¬(I.heap.size<=r):=λr b0 h=>Ω
  obtain⟨y,rfl⟩:∃y,tl=[y]:=by
   have:=sF Y
   match tl,this with
   |[y],_=>exact⟨y,rfl⟩
  have bi:=(yc.1 Y).1;refine az func180 ?_;intro b1 Z _ _;have aO:bd b1 ac ad A R n s t:=((h.W (P.F an)).side z aL).W Z;rw[ax Ψ ((((O.W an).aa z Ω).W Z).cell rfl),ax Ψ ((((ak.W an).aa z Ω).W Z).cell rfl),fm (i:=0) (y:=0) rfl al.u ae.i Ψ (aK.W Z) rfl];refine(ni (i:=i) (v:=y) aO).X ?_;rintro _ b2 _ ⟨rfl,aP⟩;have b3:e8 n i y:=⟨hm.has.1,hm.has.2,bi.1,bi.2⟩;rw[m3 b3,bo,bp];refine⟨?_,Z.F aP⟩;unfold gB;rw[hm.at_];rfl
 have b4:∀v∈[i],0<=v/\v<n.co.length:=λv E=>by rw[b8.1 E];exact hm.has
 have b5:aA (aB n.co [i])<=4096:=by
  show n.co.getD i.toNat 0*1<=4096;omega
 have b6:∀tl,cX (aB n.co [i]) tl->0<=x.un.getD (tl.getD 0 0).toNat 0/\x.un.getD (tl.getD 0 0).toNat 0<=n.k:=λtl _=>zO H hm.at_;have b7:pm (aB n.co [i]) (λtl=>x.un.getD (tl.getD 0 0).toNat 0)=er (aB n.co [i]) [i] (dP n.k x.un i []):=Hi (nl Ξ);refine jA (λu v ap=>Ext V ap/\∃g e sv aU,u=Γ g/\(V.heap.size<=g/\V.heap.size<=e/\V.heap.size<=aU)/\ce ap g e sv (aB n.co (bW n.co i [])) n.k (er (aB n.co (bW n.co i [])) (bW n.co i []) (dP n.k x.un i []))/\ao .i64 ae ap aU v (bW n.co i [])) ?_ ?_
 .rintro u v ap ⟨aq,g,e,sv,aU,rfl,aQ,B,S⟩;rw[ax Ψ ((O.W aq).cell rfl),ax Ψ ((ak.W aq).cell rfl)];refine(wj (h.W (P.F aq))).X ?_;rintro dc b9 _ ⟨aR,dd,bj,_⟩;rw[aS al.u bj.ls];have aT:=aq.F aR;refine k8.range (cR s i s.d7.length).length (λq u v U=>Ext b9 U/\∃g e sv aU,u=Γ g/\(V.heap.size<=g/\V.heap.size<=e/\V.heap.size<=aU)/\
   ce U g e sv (aB n.co (bW n.co i ((br s i).take q))) n.k (er (aB n.co (bW n.co i ((br s i).take q))) (bW n.co i ((br s i).take q)) (dP n.k x.un i ((br s i).take q)))/\ao .i64 ae U aU v (bW n.co i ((br s i).take q)))
   (by have:=zS (s:=s) (i:=i) (j:=s.d7.length);have:=qi h.2.1 h.2.2.1;have z:=rE s;have ca:∀(L:List bH),L.length<=(L.flatMap fT).length:=λL=>by
            induction L with
            |nil=>exact p9 _
            |cons a L de=>rw[U7,p8,Y3];have:(fT a).length=a.cs.length+1:=rfl;omega
       have:=ca s.d7;omega)
   ⟨Ext.refl _,g,e,sv,aU,rfl,aQ,B.W aR,S.W aR⟩ ?_ ?_
  .rintro q u v U cb cc ⟨W,g,e,sv,aU,rfl,aQ,B,S⟩ cd;refine bC Ω ?_;obtain⟨j,bk⟩:=aF (l:=cR s i s.d7.length) cc;obtain⟨df,f,X,bl,cf,dg⟩:=zU bk;have bn:=x5 bl;have aV:=(jS.1 bn).1;obtain⟨au,cg,f2⟩:=H.d7 f aV;rw[be al.u ae.i Ψ (bj.ls.W W) bk];refine bx ae.i λch dh di cj av=>?_;refine bt ae.i rfl rfl av Nat.zero_lt_one λck cl dj av=>?_;have bu:Ext U ck:=cj.put cl Ω;intro dk aw _ _;have bw:=(aT.F W).F bu;have ab:=bw.F aw;have bz:=av.W aw;have dl:=bw.size;have z28:=ab.size;have dm:=aw.size;have dn:=av.lt;rw[ax Ψ ((O.W ab).cell rfl),ax Ψ ((O.W ab).cell rfl),ax Ψ (bz.cell rfl),j1];have aW:j=((j.toNat:Nat):Int):=Ω
   rw[aW];refine(rQ (h.W (P.F ab)) X).X ?_;rintro aJ aX _ ⟨af,bI,_,cm⟩;refine⟨.inl af,?_⟩;have aC:=ab.F af;have bA:=bz.W af;have cn:z1 aX Kl #[Γ g1,Γ ch] (aB n.co f.sc) (bg f.szs f.cs):=λbh aN tl z aK Y=>by
    have z9:=af.size;have aL:∀r,r<aX.heap.size->¬(aX.heap.size<=r):=λr b0 h=>Ω
    refine az func181 ?_;have aO:bd bh ac ad A R n s t:=(h.W (P.F aC)).side z aL;rw[ax Ψ (((O.W aC).aa z Ω).cell rfl),ax Ψ ((bA.aa z Ω).cell rfl),aW];refine(tr aO aK).X ?_;rintro _ b2 _ ⟨rfl,aP⟩;rw[<-cg]at Y;obtain⟨m,bB⟩:=Y;have dp:=mL (mg H aV).1 bB;have cp:ct f.szs tl 0=σ ((m.toNat:Nat):Int):=by rw[bB];congr 1;omega
    obtain⟨cq,cr⟩:=wK X cf cp;rw[m3 cq,cr,bo,bp];exact⟨rfl,aP⟩
   have aY:∀v∈f.sc,0<=v/\v<n.co.length:=bb f bn;refine(Hg (h.W (P.F aC)) cm.ls aY au.scope.2 au.small cn λtl _=>(qb hk λc z=>⟨hk,au.gM c z⟩).2).X ?_;rintro _ dq _ ⟨aZ,ds,dt,du,rfl,dv,dw,bE⟩;have bF:=aC.F aZ;rw[ax Ψ ((O.W bF).cell rfl),ax Ψ ((bA.W aZ).cell rfl),aW];refine(rQ (h.W (P.F bF)) X).X ?_;rintro dx dy _ ⟨bG,dz,_,cu⟩;have ag:ez f.sc:=nl au.up;have cw:pm (aB n.co f.sc) (bg f.szs f.cs)=er (aB n.co f.sc) f.sc (gS f):=Hi ag;rw[cw]at bE;have aD:=((bu.F aw).F af).F (aZ.F bG);have bJ:∀g∈(br s i).take q,g∈br s i:=λg N=>U1 N;have cz:∀{M:List bH},(∀g∈M,g∈br s i)->∀A,0<=dP n.k x.un i M A/\dP n.k x.un i M A<=n.k:=λcA A=>wv H (λg N=>(jS.1 (cA g N)).1) hm.at_;refine(EY (B.W aD) (bE.W bG) (S.W aD).ls cu.ls hk (bc (cz bJ)) (bc λA=>wu H aV)).X ?_;rintro _ dA _ ⟨cB,_,cC⟩;have bK:∀{sc:Λ}(bL:ez sc)(bM:∀v∈sc,0<=v),Fits (aB n.co sc) sc:=λbL bM=>⟨by simp[aB],EL bL bM⟩;obtain⟨d6,a1,_,cD⟩:=cC ⟨bK mm λv E=>(km.1 E).1.1,bK ag λv E=>(aY v E).1⟩;obtain⟨_,_,_,bN⟩:=cD (Ta mm ag);have bO:=S3 aY a1;have bP:(br s i).take q++[f]=(br s i).take (q+1):=by rw[u7,bl];rfl
   rw[bP]at bO;subst bO;have cE:∀g∈(br s i).take (q+1),g∈br s i:=λg N=>U1 N;obtain⟨dC,dD⟩:=Ty (i:=i) H cE;have a2:bS (aB n.co (bW n.co i ((br s i).take (q+1)))):=z6 H (λv E=>(km.1 E).1) Ω;have cF:=G3 (co:=n.co) mm ag (λv E=>by have:=a2.2 _ (o8.2 ⟨v,E,rfl⟩);omega) a1;have cG:=Tb (k:=n.k) a2.2 mm ag a1 (G4 (k:=n.k) (un:=x.un) hm.has λg N=>bb g (bJ g N)) Tc;rw[cF,cG]at bN;obtain⟨cH,cI,cK,dE,rfl,bQ,⟨dF,dG⟩,cL,dI,cM⟩:=bN rfl a2 Ω;rw[gX,gY,gZ,aM];have z5:=W.size;have dJ:=aT.size;have dK:=aD.size;have cN:(λA=>min (dP n.k x.un i ((br s i).take q) A+gS f A) n.k)=dP n.k x.un i ((br s i).take (q+1)):=by
    funext A;unfold dP;rw[<-bP,List.foldl_append];rfl
   rw[cN]at bQ;exact cd _ _ _ ⟨W.F (aD.F cB),cH,cI,cK,cL,rfl,⟨Ω,Ω,Ω⟩,bQ,cM⟩
  .rintro u v U cb ⟨W,g,e,sv,aU,rfl,aQ,B,S⟩;refine ci Ω ?_;rw[SU,o6]at B S;exact⟨P.F (aT.F W),g,e,sv,v,aU,rfl,⟨Ω,Ω,Ω⟩,B,S⟩
 .intro ay a6;intro a7 Q _ _;have cO:=(O.W Q).Qz rfl;have bR:=(ak.W Q).Qz rfl;rw[ax Ψ cO,ax Ψ bR,j1,ax Ψ bR];have dL:=Q.size;have m1:∀{bq:x3}{bD:x1}{K:x1->x3->Prop},Ext a7 bq->aI .i64 bq bD [i]->(∀g e sv cU,Ext bq cU->a7.heap.size<=g->a7.heap.size<=e->ce cU g e sv (aB n.co (bW n.co i [])) n.k (er (aB n.co (bW n.co i [])) (bW n.co i []) (dP n.k x.un i []))->K (Γ g) cU)->
    aj x7 BQ [Γ ac,bD,.func (.func BR) #[] #[Γ g1,Γ bf]] bq K:=λa8 cP cQ=>by
   refine(Hg (h.W (P.F (Q.F a8))) cP b4 Ξ b5 (bZ _ (Q.F a8)) b6).X ?_;rintro _ cU _ ⟨cS,g,e,sv,rfl,N,ba,B⟩;rw[b7]at B;have dM:=a8.size;refine cQ g e sv cU cS Ω Ω ?_;rw[am];exact B
  refine⟨?_,?_⟩
  .refine dr al.u ae.i rfl λcT cV cW cY p aE=>?_;refine⟨.inl p,?_,?_⟩
   .refine m1 p aE.ls λg e sv bT G N ba B=>?_;refine⟨.inl (p.F G),?_⟩;refine dr al.u ae.i rfl λbU ah bV bX C ai=>?_;have cZ:=(p.F G).size;refine⟨.inl ((p.F G).F C),a6 _ _ _ ⟨Q.F ((p.F G).F C),g,e,sv,ah,rfl,⟨Ω,Ω,Ω⟩,B.W C,by rw[am];exact ai⟩⟩
   .refine dr al.u ae.i rfl λbU ah bV bX C ai=>?_;refine⟨.inl (p.F C),?_⟩;refine m1 (p.F C) (aE.W C).ls λg e sv bT G N ba B=>?_;have cZ:=p.size;refine⟨.inl ((p.F C).F G),a6 _ _ _ ⟨Q.F ((p.F C).F G),g,e,sv,ah,rfl,⟨Ω,Ω,Ω⟩,B,by rw[am];exact ai.W G⟩⟩
  .refine dr al.u ae.i rfl λbU ah bV bX C ai=>?_;refine⟨.inl C,?_⟩;refine dr al.u ae.i rfl λcT cV cW cY p aE=>?_;refine⟨.inl (C.F p),?_⟩;refine m1 (C.F p) aE.ls λg e sv bT G N ba B=>?_;refine⟨.inl ((C.F p).F G),a6 _ _ _ ⟨Q.F ((C.F p).F G),g,e,sv,ah,rfl,⟨Ω,Ω,Ω⟩,B,by rw[am];exact(ai.W p).W G⟩⟩
end
def qD(szs t:Λ):Int:=(ct szs t 0).getD 0
def nq(s:am)(f:bH)(pos:Nat)(v:Int):Λ:=(cQ s f.sc pos v).map (qD f.szs)
def mo(s:am)(sc:Λ)(pos:Nat)(v:Int)(t:Λ):Bool:=decide (t.getD pos 0=v)&&fy s sc t
section
variable{k:Int}{co:Λ}{s:am}{f:bH}{pos:Nat}{v:Int}
theorem TA:fy s sc t=ro↔ ∀(p:Nat)u w,sc[p]?=σ u->t[p]?=σ w->w∈cZ s u:=by
 unfold fy;rw[List.all_eq_true];constructor
 .intro h p u w e hw;have:=h (u,w) (x5 (T3.2 ⟨e,hw⟩));unfold cZ;cases a:s.d6[u.toNat]? with
  |none=>simp[a]at this
  |some x=>simpa[a]using this
 .rintro h ⟨u,w⟩ hm;obtain⟨p,f⟩:=c9.1 hm;obtain⟨h1,j⟩:=T3.1 f;have:=h p u w h1 j;unfold cZ at this;simp only;cases a:s.d6[u.toNat]? with
  |none=>rw[a]at this;cases this
  |some x=>rw[a]at this;simpa using this
theorem TB(r:aY k co s)(C:f∈s.d7)(E:pos<f.sc.length)(x:∀u,f.sc[pos]?=σ u->v∈cZ s u):cQ s f.sc pos v=(bl f.szs).filter (mo s f.sc pos v):=by
 obtain⟨y,z,_⟩:=r.d7 f C;have q:=zu r (λu a=>⟨(y.scope.1 u a).1,y.d6 u a⟩) x;rw[<-z]at q;have h1:∀t∈bl f.szs,(qk (qm s pos v f.sc 0) t=ro↔t∈cQ s f.sc pos v):=λt j=>by rw[q,U8];exact⟨λh=>⟨j,h⟩,λh=>h.2⟩
 rw[q];refine List.filter_congr λt j=>?_;have F:t.length=f.sc.length:=by rw[uJ j,z];simp[aB]
 rw[T1,h1 t j,zx,mo,V9,pl,TA];constructor
 .rintro⟨_,h⟩;obtain⟨u,a⟩:=aF (l:=f.sc) E;obtain⟨w,hw⟩:=aF (l:=t) (i:=pos) Ω;have A:=h pos u w a hw;rw[m3 rfl]at A;refine⟨by rw[u5,hw];exact A,λp u' I B G=>?_⟩;have:=h p u' I B G;split at this
  .rename_i e;subst e;rw[this];exact x u' B
  .exact this
 .rintro⟨h1,H⟩;refine⟨F,λp u w a hw=>?_⟩;split
  .rename_i e;subst e;rw[u5,hw]at h1;exact h1
  .exact H p u w a hw
end
section
variable{w:x3}{eB:x1}{k:Int}{co:Λ}{s:am}
theorem TC{j pos:Int}(h:lC w eB k co s)(ac:aY k co s)(ao:cd s):aj x7 Lo [eB,Δ j,Δ pos,Δ v] w λr I=>Ext w I/\∃u,r= .tuple #[Δ u,.bool (eU s j pos v).isSome]:=by
 have aI:=ac.d6;refine az func289 ?_;refine bm λg1 J aJ K ap=>?_;have ad:=h.box K ap;obtain⟨d9,aK,aM,aN,aO,aR,L,aU,_,aq,aW,aZ,af,a1⟩:=id ad;refine aV (λr V=>Ext J V/\((r= .bool ro/\eU s j pos v=ν)\/(r= .bool rs/\∃f u,0<=j/\0<=pos/\s.d7[j.toNat]?=σ f/\f.live≠0/\f.sc[pos.toNat]?=σ u))) ?_ λay G=>?_
 .rintro _ V ⟨B,⟨rfl,z⟩|⟨rfl,f,u,M,ag,e,ah,A⟩⟩
  .rw[bY,z];exact⟨K.F B,0,rfl⟩
  .rw[aX];have ak:=x5 e;have N:=x5 A;obtain⟨am,a2,_⟩:=ac.d7 f ak;have O:=(am.scope.1 u N).1;have a8:=am.d6 u N;have O:=O;obtain⟨x,Q⟩:=aF (l:=s.d6) (i:=u.toNat) Ω;rw[aQ a6.p 6 (L.W B) rfl];refine nR (i:=j.toNat) Ω gE.u fO.i (b6 af B) (by rw[x8,e];rfl) λb o cs R S=>?_;obtain⟨au,av,v3,rfl,h1,aw,aA⟩:=rS S;rw[aT fO.p rfl,aT a7.p rfl,ax Ψ (R 0 _ rfl),fm (y:=pos) (i:=pos.toNat) Ω al.u ae.i Ψ (fw h1) A,aQ a6.p 3 (L.W B) rfl];refine pK (i:=u.toNat) rfl Ω dL.u al.i Ψ (b6 aq B) (by rw[x8,Q];rfl) λba aB=>?_;refine(zq (fw aB)).X ?_;rintro _ bb _ ⟨rfl,aC⟩;refine⟨(K.F B).F aC,u,?_⟩;have aD:=ao f ak ah u N x Q;have U:eU s j pos v=(eF s u v).map λx=>(f,u,x):=by
    unfold eU;rw[m3 ⟨M,ag⟩,e];simp only;rw[m3 ah,A]
   have aE:eF s u v=if v∈aL x then σ x else ν:=by
    unfold eF;rw[m3 O,Q];simp only[aD,true_and]
   rw[U,aE];by_cases H:v∈aL x
   .rw[m3 H,m7 H];rfl
   .rw[m5 H,ms H];rfl
 have W:∀{P:Prop},(¬∃f u,0<=j/\0<=pos/\s.d7[j.toNat]?=σ f/\f.live≠0/\f.sc[pos.toNat]?=σ u)->(eU s j pos v=ν->P)->P:=λz aG=>aG (by
  cases U:eU s j pos v with
  |none=>rfl
  |some q=>
   obtain⟨f,u,x⟩:=q;obtain⟨X,Y,a3,a4,a5,_⟩:=pd U;exact m6 ⟨f,u,X,Y,a3,a4,a5⟩ z)
 refine ad.load λu A=>?_;refine(RZ A).X ?_;rintro _ bc _ ⟨rfl,C⟩;have same:∀{f Z:bH},s.d7[j.toNat]?=σ f->s.d7[j.toNat]?=σ Z->Z=f:=λa b=>by rw[a]at b;exact(Z7 b).symm
 rw[bA,bU];refine⟨λaa=>W (λ⟨f,u,X,Y,a3,a4,a5⟩=>?_) λz=>G _ _ ⟨C,.inl ⟨rfl,z⟩⟩,λab=>?_⟩
 .unfold eL at aa;rw[a3]at aa;simp[X,a4]at aa
 have ab:0<=j/\eL s j.toNat=ro:=by simpa using ab
 obtain⟨M,E⟩:=ab;obtain⟨f,e,aH⟩:∃f,s.d7[j.toNat]?=σ f/\f.live≠0:=by
  unfold eL at E;cases e:s.d7[j.toNat]? with
  |none=>rw[e]at E;cases E
  |some f=>rw[e]at E;exact⟨f,rfl,by simpa using E⟩
 rw[aP,ai];refine⟨λbd=>W (λ⟨_,_,_,Y,_⟩=>Ω) λz=>G _ _ ⟨C,.inl ⟨rfl,z⟩⟩,λag=>?_⟩;rw[aQ a6.p 6 (L.W C) rfl];refine nR (i:=j.toNat) Ω gE.u fO.i (b6 af C) (by rw[x8,e];rfl) λb o cs R S=>?_;obtain⟨au,av,v3,rfl,h1,aw,aA⟩:=rS S;rw[aT fO.p rfl,aT a7.p rfl,ax Ψ (R 0 _ rfl),aS al.u (fw h1),cI];by_cases an:(f.sc.length:Int)<=pos
 .refine W (λ⟨Z,u,_,_,a3,_,a5⟩=>?_) λz=>G _ _ ⟨C,.inl ⟨by rw[m7 an],z⟩⟩;obtain rfl:=same e a3;have:=(x4.1 a5).1;omega
 .obtain⟨u,A⟩:=aF (l:=f.sc) (i:=pos.toNat) Ω;exact G _ _ ⟨C,.inr ⟨by rw[ms an],f,u,M,Ω,e,aH,A⟩⟩
theorem Hj{f:bH}(h:lC w eB k co s)(L:aY k co s)(af:s.d7[j]?=σ f)(aJ:pos<f.sc.length)(aK:∀u,f.sc[pos]?=σ u->v∈cZ s u):
  aj x7 KZ [eB,Δ (j:Int),Δ (pos:Int),Δ v] w λr I=>Ext w I/\aI .i64 I r (nq s f pos v)/\∀q,li r q->w.heap.size<=q:=by
 have bu:=L.d6;have U:=x5 af;obtain⟨M,ag,_⟩:=L.d7 f U;have N:=(mg L U).1;have aO:f.szs.length=f.sc.length:=by rw[ag];simp[aB]
 have bw:=j2 N;have bz:(bl f.szs).length<=4096:=by
  have O:=M.small;rw[<-ag]at O;omega
 refine az func242 ?_;refine bm λg1 J bA W aP=>?_;obtain⟨d9,bD,bE,bF,bG,bI,ah,bJ,_,aR,bK,bL,aU,bM⟩:=h.box W aP;rw[aQ a6.p 6 ah rfl];refine nR (i:=j) rfl gE.u fO.i aU (by rw[x8,af];rfl) λb o cs E aW=>?_;obtain⟨X,Y,v3,rfl,h1,O,aX⟩:=rS aW;rw[aT fO.p rfl,bB (cs:=[X,Y,v3]) a7.p a7.i rfl (λq u a=>by
  have:q<3:=(x4.1 a).1
  match q,this,a with
  |0,_,a=>cases a;exact E 0 _ rfl
  |1,_,a=>cases a;exact E 1 _ rfl
  |2,_,a=>cases a;exact E 2 _ rfl)]
 refine bx a7.i λbN V bO aZ a1=>?_;have a2:∀u∈[X,Y,v3],u.oneCell'=ro:=λu ai=>by
  simp only[T5,List.not_mem_nil,or_false]at ai;rcases ai with rfl|rfl|rfl
  .exact nQ h1
  .exact nQ O
  .exact nQ aX
 refine cb (vs:=[X,Y,v3]) a7.i rfl rfl a2 a1 λbP a8 bQ ak=>?_;have am:=aZ.put a8 Ω;have s1:=fw h1;have s2:=fw O;rw[aQ a7.p 1 ak rfl];refine(CY f.szs (s2.W am) ⟨by rw[aO];exact M.scope.2,N⟩).X ?_;rintro bR P _ ⟨ap,aq⟩;have Z:=am.F ap;rw[kB dL.u aq];refine b2.range (bl f.szs).length (λi out C=>Ext P C/\(∃g,ao .i64 ae C g out ((((bl f.szs).take i).filter (mo s f.sc pos v)).map (qD f.szs)))/\∀r,li out r->P.heap.size<=r) Ω ⟨Ext.refl _,⟨0,ao.nil _ _ _ _⟩,λr E=>by obtain⟨_,_,_,e,_⟩:=E;cases e⟩ ?_ ?_
 .rintro q out C ba a ⟨z,⟨g,hm⟩,Q⟩ bb;have G:(bl f.szs)[q]?=σ (b1 f.szs (q:Int)):=re N Ω;generalize b1 f.szs (q:Int)=tl at G;have bS:=xO G;have bc:=kG N G;have bd:qD f.szs tl=(q:Int):=by unfold qD;rw[bc];rfl
  have R:=Z.F z;have au:((bl f.szs).take (q+1)).filter (mo s f.sc pos v)=((bl f.szs).take q).filter (mo s f.sc pos v)++(if mo s f.sc pos v tl=ro then[tl]else[]):=by
   rw[u7,G,l9,List.filter_append];congr 1;cases an:mo s f.sc pos v tl<;>simp[an]
  obtain⟨aa,av⟩:=aF (l:=tl) (i:=pos) Ω;refine bC Ω ?_;refine aV (λaw ax=>Ext P ax/\(∃g,ao .i64 ae ax g aw ((((bl f.szs).take (q+1)).filter (mo s f.sc pos v)).map (qD f.szs)))/\∀r,li aw r->P.heap.size<=r) (λ_ _ ab=>by rw[aM];exact bb _ _ ab) λay H=>?_;refine pK rfl rfl dL.u al.i Ψ (b6 aq z) G λaN S=>?_;have S:=fw S;rw[be al.u ae.i Ψ S av,bh,aQ a7.p 0 (ak.W (ap.F z)) rfl,aS al.u (s1.W R)];refine b2.range f.sc.length (λp ok ac=>Ext C ac/\ok= .bool (decide (aa=v)&&fy s (f.sc.take p) (tl.take p))) s1.le ⟨Ext.refl _,by simp[fy]⟩ ?_ ?_
  .rintro p _ ac bf bg ⟨A,rfl⟩ bi;obtain⟨u,ad⟩:=aF (l:=f.sc) bg;obtain⟨y,aA⟩:=aF (l:=tl) (i:=p) Ω;have aC:=x5 ad;have aD:=(M.scope.1 u aC).1;have aE:=M.d6 u aC;have aE:=aE;have aD:=aD;obtain⟨x,aG⟩:=aF (l:=s.d6) (i:=u.toNat) Ω;have aH:fy s (f.sc.take (p+1)) (tl.take (p+1))=(fy s (f.sc.take p) (tl.take p)&&decide (y∈aL x)):=by
    unfold fy;rw[u7,u7,ad,aA,l9,l9,List.zip_append Θ,List.all_append];simp[aG]
   refine bC Ω ?_;refine aV (λok bj=>Ext C bj/\ok= .bool (decide (aa=v)&&fy s (f.sc.take (p+1)) (tl.take (p+1)))) (λ_ _ ab=>by rw[aM];exact bi _ _ ab) λay H=>?_;rw[be al.u ae.i Ψ (s1.W (R.F A)) ad];intro bT bk _ _;have K:=A.F bk;rw[bU];refine⟨λB=>?_,λB=>H _ _ ⟨K,by rw[aH,<-Bool.and_assoc,B];rfl⟩⟩;rw[aQ a6.p 3 (ah.W (R.F K)) rfl];refine pK (i:=u.toNat) rfl Ω dL.u al.i Ψ (b6 aR (R.F K)) (by rw[x8,aG];rfl) λbV bn=>?_;rw[be al.u ae.i Ψ (S.W K) aA];refine(zq (fw bn)).X ?_;rintro _ bW _ ⟨rfl,bo⟩;exact H _ _ ⟨K.F bo,by rw[aH,<-Bool.and_assoc,B,V8]⟩
  .rintro _ ac bf ⟨A,rfl⟩;rw[o6,n9 Ω];refine ci Ω ?_;have bp:(decide (aa=v)&&fy s f.sc tl)=mo s f.sc pos v tl:=by unfold mo;rw[u5,av];rfl
   rw[bp,bU];refine⟨λB=>?_,λB=>H _ _ ⟨z.F A,⟨g,by rw[au,m5 (by rw[B];decide),V1];exact hm.W A⟩,Q⟩⟩;refine G1 (z.F A) (hm.W A) Q ?_ λbX I bq br bs bt=>H _ _ ⟨br,⟨bq,?_⟩,bt⟩
   .rw[o4];have h1:=List.length_filter_le (mo s f.sc pos v) ((bl f.szs).take q);rw[c7]at h1;omega
   .rw[au,m3 B,l7,List.map_singleton,bd];exact bs
 .rintro out C ba ⟨z,⟨g,hm⟩,Q⟩;rw[o6,<-TB L U aJ aK]at hm;refine ci Ω ?_;exact⟨(W.F Z).F z,hm.ls,λq a=>by have:=Q q a;have:=(W.F Z).size;omega⟩
theorem TD{j pos:Int}(h:lC w eB k co s)(e:aY k co s)(U:cd s):
  aj x7 KX [eB,Δ j,Δ pos,Δ v] w λr I=>Ext w I/\r=(match eU s j pos v with|some (f,_,_)=>.tuple #[Δ (oh k s f pos.toNat v),.bool ro]|none=>.tuple #[Δ 0,.bool rs]):=by
 refine az func240 ?_;refine bm λg1 J aA A W=>?_;have K:=h.box A W;refine K.load λu y=>?_;refine(TC y e U).X ?_;rintro _ V _ ⟨B,e4,rfl⟩;rw[bo,bp,bA];cases X:eU s j pos v with
 |none=>
  rw[R3,X4,bY];exact⟨A.F B,rfl⟩
 |some q=>
 obtain⟨f,u',x⟩:=q;rw[S9,Y6,aX];obtain⟨Y,Z,z,aB,C,aa⟩:=pd X;obtain⟨aC,ab,aD,ac⟩:=mj aa;obtain⟨j,rfl⟩:=T0 Y;obtain⟨pos,rfl⟩:=T0 Z;rw[u9]at z C;have L:=x5 z;have ad:=(x4.1 C).1;have M:∀u,f.sc[pos]?=σ u->v∈cZ s u:=λu y=>by
  rw[C]at y;cases y;unfold cZ;rw[ab];exact ac
 have N:=K.W B;obtain⟨d9,aE,aG,aH,aI,aJ,O,aK,_,aL,aO,aP,af,aR⟩:=id N;rw[aQ a6.p 0 O rfl];refine N.load λaU ag=>?_;refine(Hj ag e z ad M).X ?_;rintro aN ah _ ⟨P,E,_⟩;rw[aS al.u E];have Q:(nq s f pos v).length=(cQ s f.sc pos v).length:=by unfold nq;rw[o4]
 rw[Q];refine b2.range (cQ s f.sc pos v).length (λi least G=>Ext ah G/\least=Δ ((((cQ s f.sc pos v).take i).map (bg f.szs f.cs)).foldl min k)) (by rw[<-Q];exact E.le) ⟨Ext.refl _,rfl⟩ ?_ ?_
 .rintro i _ G ai hi ⟨a,rfl⟩ ak;obtain⟨tl,H⟩:=aF (l:=cQ s f.sc pos v) hi;obtain⟨m,hm⟩:=wo e L M (x5 H);have am:(nq s f pos v)[i]?=σ (m:Int):=by
   unfold nq;rw[x8,H];unfold qD;rw[Z4,hm];rfl
  obtain⟨an,aV⟩:=mg e L;have aW:=(x4.1 (oN an hm)).1;obtain⟨c,R⟩:=aF (l:=f.cs) (i:=m) Ω;have ao:bg f.szs f.cs tl=c:=by
   unfold bg;rw[hm];simp[u5,R]
  have S:=P.F a;refine bC Ω ?_;rw[be al.u ae.i Ψ (E.W a) am,aQ a6.p 6 (O.W S) rfl];refine nR (i:=j) rfl gE.u fO.i (b6 af S) (by rw[x8,z];rfl) λb o cs aq au=>?_;obtain⟨aZ,a1,v3,rfl,h1,a2,av⟩:=rS au;rw[aT fO.p rfl,aT a7.p rfl,ax Ψ (aq 2 _ rfl),be aw.u ap.i Ψ (fw av) R];refine FL.X ?_;rintro _ a8 _ ⟨rfl,ay⟩;rw[aM];refine ak _ _ ⟨a.F ay,?_⟩;rw[u7,H,l9,l7,List.foldl_append,List.map_singleton,ao];rfl
 .rintro _ G ai ⟨a,rfl⟩;rw[o6];refine ci Ω ?_;exact⟨(A.F B).F (P.F a),rfl⟩
theorem wL{b k:Int}(h1:0<=a/\a<=4294967296)(f:0<=b/\b<=4294967296):aj x7 K0 [Δ a,Δ b,Δ k] w λr I=>r=Δ (dV k a b)/\Ext w I:=by
 refine az func243 ?_;refine(show aj x7 Lq [Δ a,Δ b,Δ k] w λr I=>(∃q,r= .tuple #[Δ (dV k a b),q])/\Ext w I from ?_).X ?_
 .refine az func291 ?_;unfold dV;rw[bh,ai];refine⟨λh=>⟨⟨_,by rw[m3 h]⟩,Ext.refl _⟩,λh=>?_⟩;rw[dR,lm Ω Ω,oG,m5 h];exact⟨⟨_,rfl⟩,Ext.refl _⟩
 .rintro _ J _ ⟨⟨q,rfl⟩,e⟩;rw[bo,bp];exact⟨rfl,e⟩
end
def dC(w:x3)(ac ad ak:Nat)(A R:ah)(A9:Nat->ah)(aE:ah)(n:aD)(s:am)(t:av)(h:List av)(u:am)(I:x3):Prop:=af (λr=>(∃q,A9 q r)\/r=ak) w I/\∃cv cs,ch I ac ad ak A R cv aE n s u t h cs/\∀q r,cv q r->(∃a,A9 a r)\/w.heap.size<=r
section
variable{w I J V:x3}{ac ad ak:Nat}{A R:ah}{A9:Nat->ah}{aE:ah}{n:aD}{s u eR e4:am}{t:av}{h:List av}{cs:List x1}
theorem dC.same(p:ch w ac ad ak A R A9 aE n s u t h cs)(a:Ext w I):dC w ac ad ak A R A9 aE n s t h u I:=⟨a.aa _,A9,cs,p.W a,by grind⟩
theorem dC.comp{cv:Nat->ah}(a:af (λr=>(∃q,A9 q r)\/r=ak) w J)(x:∀q r,cv q r->(∃e,A9 e r)\/w.heap.size<=r)(d:dC J ac ad ak A R cv aE n s t h e4 V):dC w ac ad ak A R A9 aE n s t h e4 V:=by
 obtain⟨f,j,ck,p,y⟩:=d;have z:=a.size;refine⟨?_,j,ck,p,by grind⟩;refine((a.X (by grind)).F (f.X λr _ h=>?_):af (λr=>((∃q,A9 q r)\/r=ak)\/w.heap.size<=r) w V).X (by grind)
 grind
def k0(w:x3)(ac ad ak:Nat)(A R:ah)(A9:Nat->ah)(aE:ah)(n:aD)(s:am)(t:av)(h:List av)(u:am)(I:x3):Prop:=af (A9 2) w I/\∃cv cs,ch I ac ad ak A R cv aE n s u t h cs/\(∀q r,cv q r->(∃a,A9 a r)\/w.heap.size<=r)/\∀r,cv 2 r->A9 2 r\/w.heap.size<=r
theorem k0.Hk(d:k0 w ac ad ak A R A9 aE n s t h u I):dC w ac ad ak A R A9 aE n s t h u I:=by
 obtain⟨h1,cv,cs,a,e,_⟩:=d;exact⟨h1.X (by grind),cv,cs,a,e⟩
theorem k0.same(p:ch w ac ad ak A R A9 aE n s u t h cs)(a:Ext w I):k0 w ac ad ak A R A9 aE n s t h u I:=⟨a.aa _,A9,cs,p.W a,by grind,by grind⟩
theorem k0.comp{cv:Nat->ah}(a:af (A9 2) w J)(x:∀q r,cv q r->(∃e,A9 e r)\/w.heap.size<=r)(y:∀r,cv 2 r->A9 2 r\/w.heap.size<=r)(d:k0 J ac ad ak A R cv aE n s t h e4 V):k0 w ac ad ak A R A9 aE n s t h e4 V:=by
 obtain⟨f,j,ck,p,B,C⟩:=d;have z:=a.size;refine⟨?_,j,ck,p,by grind,by grind⟩;exact((a.X (by grind)).F (f.X (by grind)):af (λr=>A9 2 r\/w.heap.size<=r) w V).X (by grind)
theorem ch.TE{T:ah}{v:x1}{u':am}(p:ch w ac ad ak A R A9 aE n s u t h cs)(F:∀q r,A9 q r->r<w.heap.size)(G:cs[5]?=σ v)(e:af T w I)(y:∀r,r<w.heap.size->T r->A9 2 r)(z:bM (λr=>A9 2 r\/w.heap.size<=r) aE I [v] (u'.d6.map (·.un)))(H:u'.zero=u.zero)(J:u'.d6.map aL=u.d6.map aL)(K:(u'.d6.map λx=>decide (x.gone≠0))=u.d6.map λx=>decide (x.gone≠0))(L:u'.d7=u.d7)(M:u'.elims=u.elims):
  ∃cv,ch I ac ad ak A R cv aE n s u' t h cs/\(∀q r,cv q r->(∃C,A9 C r)\/w.heap.size<=r)/\∀r,cv 2 r->A9 2 r\/w.heap.size<=r:=by
 have N:=cg.kR p.doc (zC e) (by grind) z (λj r E a=>?_) (λr a=>?_)
 .have f:=zD (w:=w) (B:=λr=>A9 2 r\/w.heap.size<=r) λr h=>h;refine⟨_,p.row e y ?_ f,f,λr a=>a⟩
  grind [cg.pW]
 .rcases a with a|a
  .exact p.ia.1 2 j r (Ne.symm E) a
  grind
 .rcases a with a|a
  .exact p.ia.2 2 r a
  .exact λh=>by have:=(p.read r h).2.1;omega
theorem z7(p:ch w ac ad ak A R A9 aE n s u t h cs){i:Nat}{x:bs}(f:u.d6[i]?=σ x):∃g cap y,cs[5]?=σ (.slice (σ ⟨g,0,ν⟩) u.d6.length cap)/\w.cell? ⟨g,i,ν⟩=σ y/\aI .i64 w y x.un/\
  ∀{I:x3}{v:Nat}{c:Int}{K:Unit->x3->Prop},Ext w I->v<x.un.length->(∀F,k0 w ac ad ak A R A9 aE n s t h (dI u i x (x.un.set v c)) F->K () F)->
   ab x7 (j4 aw y (Δ (v:Int))) I λa=>aC x7 (o7 ap a (Δ c)) I K:=by
 have G:=p.olds;obtain⟨d9,ag,ah,ai,aj,al,N,_,_,_,H,_,_,O⟩:=id G.doc;obtain⟨g,cap,c,am,e,P,J,an,_⟩:=wi H (by rw[x8,f];rfl) (by grind);obtain⟨y,rfl⟩:=X6.1 (aq.len J);have Q:w.cell? ⟨g,i,ν⟩=σ y:=by
  have:=P 0 y rfl;simpa[show aq.n (Λ)=1 from rfl]using this
 rw[o4]at e;refine⟨g,cap,y,by grind,Q,fw (lj J),λ{I v c K}j S U=>?_⟩;have V:=G.W j;have z:=j.size;obtain⟨ao,au,av,ax,L,W,M,X,Y⟩:=wi (b6 H j) (by rw[x8,f];rfl) (by grind);obtain⟨B,rfl⟩:=X6.1 (aq.len M);rw[o4,e]at L;cases L;have Z:B=y:=by
  have h1:=W 0 B rfl;have h1:I.cell? ⟨g,i,ν⟩=σ B:=by simpa[show aq.n (Λ)=1 from rfl]using h1
  grind [jY]
 subst Z;refine Gm rfl rfl aw.u ap.i M S rfl rfl (λr _ C=>⟨λh=>h,(O rfl).2 2 r (X r C)⟩) λay E ae=>?_;have az:=Y E (λr _ h=>h) ae (by grind);obtain⟨cv,af,aA,aB⟩:=V.TE (u':=dI u i x (x.un.set v c)) Ω (by rw[N];rfl) E (by grind) (by show bM _ _ _ _ ((u.d6.set i {x with un:=x.un.set v c}).map (·.un));grind [V3]) rfl (rT f (by unfold aL;simp)) (rT f rfl) rfl rfl;refine U _ ⟨(j.aa _).F (E.X (by grind)),cv,cs,af,λq r C=>?_,λr C=>?_⟩
 all_goals grind
theorem TF(p:ch w ac ad ak A R A9 aE n s u t h cs){f:bH}(H:u.d7[j]?=σ f):∃g cap B F y,cs[6]?=σ (.slice (σ ⟨g,0,ν⟩) u.d7.length cap)/\w.rangeAt g (j*4) [B,F,y,.bool (decide (f.live≠0))]/\aI .i64 w B f.sc/\aI .i64 w y f.cs/\
  ∀{I:x3}{m:Nat}{c:Int}{K:Unit->x3->Prop},Ext w I->m<f.cs.length->(∀J,dC w ac ad ak A R A9 aE n s t h (dA u j f (f.cs.set m c)) J->K () J)->
   ab x7 (j4 aw y (Δ (m:Int))) I λa=>aC x7 (o7 ap a (Δ c)) I K:=by
 have L:=p.olds;obtain⟨d9,au,av,ax,ay,az,Q,_,_,_,_,M,_,S⟩:=id L.doc;obtain⟨g,cap,c,aA,e,C,U,aB,_⟩:=wi M (by rw[x8,H];rfl) (by grind);have V:=rS U;obtain⟨B,F,y,rfl,W,aD,X⟩:=V;rw[o4]at e;have C:=C;refine⟨g,cap,B,F,y,by grind,C,fw W,fw X,λ{I m c K}x hm Y=>?_⟩;have Z:=L.W x;have z:=x.size;obtain⟨aF,aG,aH,aJ,N,G,ae,af,ag⟩:=wi (b6 M x) (by rw[x8,H];rfl) (by grind);rw[o4,e]at N;cases N;obtain⟨aK,aL,O,aM,rfl,ah,ai,aj⟩:=Sb ae (by grind);have G:=G;have al:O=y:=by
  have h1:=G 2 O rfl;rw[(pG x C) 2 y rfl]at h1
  grind
 subst al;refine Gm rfl rfl aw.u ap.i ah hm rfl rfl (λr _ P=>⟨λh=>h,(S rfl).2 3 r (af r (ai r P))⟩) λaN E am=>?_;have an:=aj E (aq.X am (λr _ h=>h.elim id False.elim) λ_ _ h=>h);have aO:=ag E (by grind) an (by grind);obtain⟨cv,ao,aP⟩:=Z.R9 (u':=dA u j f (f.cs.set m c)) Ω (by rw[Q];rfl) E (by grind) (by show bM _ _ _ _ ((u.d7.set j {f with cs:=f.cs.set m c}).map kU);grind [V3]) rfl rfl rfl;refine Y _ ⟨(x.aa _).F (E.X (by grind)),cv,cs,ao,λq r P=>?_⟩
 grind
theorem TG(p:ch w ac ad ak A R A9 aE n s u t h cs){K:Unit->x3->Prop}(f:∀e,dC w ac ad ak A R A9 aE n s t h {u with zero:=c} e->K () e):aC x7 (o7 ap (.pointer (σ ⟨ak,0+2,ν⟩)) (Δ c)) w K:=by
 refine bt (o:=0+2) ap.i rfl rfl p.box (by rw[p.doc.len.1];omega) λV a x j=>?_;refine f _ ⟨a.X Ω,A9,_,p.Gs a Ω j ?_ (by grind),by grind⟩;exact(cg.aa p.doc a λr _ h he=>h.elim (λ⟨q,h⟩=>(p.apart q r h).2.2 he) λh=>(p.read r h).2.2 he).RR
theorem TH(p:ch w ac ad ak A R A9 aE n s u t h cs){i:Nat}{x:bs}(f:u.d6[i]?=σ x):∃g cap y,cs[3]?=σ (.slice (σ ⟨g,0,ν⟩) u.d6.length cap)/\w.cell? ⟨g,i,ν⟩=σ y/\aI .i64 w y (aL x)/\(∀r,li y r->A9 0 r)/\
  ∀{I:x3}{m:Int}{z:x1}{gz:Nat}{K:Unit->x3->Prop},Ext w I->ao .i64 ae I gz z (aL {x with mask:=m})->(∀r,li z r->w.heap.size<=r)->(∀G,dC w ac ad ak A R A9 aE n s t h {u with d6:=u.d6.set i {x with mask:=m}} G->K () G)->
   ab x7 (j4 dL (.slice (σ ⟨g,0,ν⟩) u.d6.length cap) (Δ (i:Int))) I λa=>aC x7 (o7 al a z) I K:=by
 have H:=p.olds;have U:=(x4.1 f).1;obtain⟨d9,V,au,av,aw,ax,W,_,X,_,_,_,_,ay⟩:=id H.doc;obtain⟨g,cap,full,Y,c,az,e,j,aA,B,J,C,aB,aD,Z⟩:=Gt X (by rw[x8,f];rfl) (by grind);obtain⟨y,rfl⟩:=X6.1 (aq.len C);rw[o4]at e;have ah:full[i]?=σ y:=by have:=J 0 y rfl;simpa[show aq.n (Λ)=1 from rfl]using this
 refine⟨g,cap,y,by grind,by have:=j.cell ah;exact this,fw (lj C),λr L=>?_,λ{I m M gz K}E N aF ai=>?_⟩
 .obtain⟨aG,aH,aJ,aj⟩:=Cl C;rcases aj with rfl|aK
  .obtain⟨_,_,_,e,_⟩:=L;cases e
  grind [bE]
 have z:=E.size;have B:i*1+1<=full.length:=B;rw[fv dL.u al.i U λ_=>rfl];obtain⟨_,_,_,O⟩:=cP N.ls;refine bt (o:=0+i*1) al.i (by rw[O];rfl) (by rw[O];rfl) (j.W E) Ω λP Q aM S=>?_;have S:ag P g Y (over full (i*1) [M]):=by
  have e:=Gx (o:=i*1) (q:=0) (x:=M) J B Ξ
  grind
 have aN:g<w.heap.size:=j.lt;have F:af (λr=>r=g) w P:=(E.aa _).F Q;have am:=bk N Q (by grind);have aO:=Z F Ω S (pb am) (by grind);have an:∀r,r<w.heap.size->r=g->A9 0 r/\r<w.heap.size:=by grind
 obtain⟨cv,ap,aP⟩:=H.qv (u':={u with d6:=u.d6.set i {x with mask:=m}}) Ω (v:=V) (by rw[W];rfl) F an (by grind [V3]) rfl (rT f rfl) (rT f rfl) rfl rfl;refine ai _ ⟨F.X (by grind),cv,cs,ap,λq r L=>?_⟩
 grind
end
def pn(t:av):Prop:=∀m,t.marks.getLast? =σ m->(m.olds<=40000000/\t.cells.length<=40000000)/\t.olds.length<=m.olds+t.cells.countP λc=>decide (c.st=m.st)
def cV(an:List av)(t:av):Prop:=gJ t an/\pn t
theorem gJ.m{t:av}(h:gJ t []):cV [] t:=⟨h,λm hm=>by rw[h.1]at hm;cases hm⟩
theorem cV.room{an:List av}{t:av}(h:cV an t):Room t:=by
 cases hm:t.marks.getLast? with
 |none=>exact .inl (List.getLast?_eq_none_iff.1 hm)
 |some m=>
  obtain⟨h1,a⟩:=h.2 m hm;have:=List.countP_le_length (p:=λc:Cell=>decide (c.st=m.st)) (l:=t.cells);exact .inr Ω
theorem pn.set{t:av}{i:Nat}{x:Int}(h:pn t):pn (t.set i x):=by
 unfold av.set;cases e:t.cells[i]? with
 |none=>exact h
 |some c=>
  obtain⟨f,j⟩:=x4.1 e;cases hm:t.marks.getLast? with
  |none=>
   intro m a
   grind
  |some m=>
   obtain⟨h1,p⟩:=h m hm;simp only;split
   .rename_i q;intro bK a
    grind
   .intro bK a
    grind
theorem cV.set{an:List av}{t:av}{i:Nat}{x:Int}(h:cV an t):cV an (t.set i x):=⟨h.1.set,h.2.set⟩
def dp(an:List av)(w:x3)(ac ad:Nat)(A R:ah)(n:aD)(s':am)(I:x3):Prop:=af (du w) w I/\Laid I/\∃aH t',Grow A w aH I/\bd I ac ad aH R n s' t'/\cV an t'/\¬aH 0
def fz(an:List av)(w:x3)(ac ad:Nat)(A R:ah)(n:aD)(m:Nat)(D:Nat->Prop)(s':am)(I:x3):Prop:=
 af (λr=>du w r\/w.heap.size<=r) w I/\(Laid I/\w.heap.size<=m/\0<w.heap.size/\(∀r,A r\/R r->r<w.heap.size))/\∃aH t',Grow A w aH I/\bd I ac ad aH R n s' t'/\(cV an t'/\¬aH 0)/\∀r,aH r->r<m\/D r
section
variable{an:List av}{w J V:x3}{ac ad m:Nat}{A R:ah}{n:aD}{s s' qE:am}{t:av}{D D' S:Nat->Prop}
theorem fz.start(h:bd w ac ad A R n s t)(f:Laid w)(j:¬A 0)(p:cV an t)(a:Ext w J)(hm:w.heap.size<=m):fz an w ac ad A R n m D s J:=
 ⟨a.aa _,⟨f.W a,hm,by
  obtain⟨q,x,y,z,⟨h1,_,_,B⟩,_⟩:=h.1
  grind,λr e=>h.lt e⟩,A,t,Grow.W a,h.W a,⟨p,j⟩,λr e=>.inl (by have:=h.lt (.inl e);omega)⟩
theorem fz.own(h:fz an w ac ad A R n m D s' J)(a:af S J V)(B:∀r,S r->m<=r/\¬D r):fz an w ac ad A R n m D s' V:=by
 obtain⟨h1,⟨f,j,p,q⟩,aH,t',⟨g1,s,x⟩,e,y,z⟩:=h;refine⟨h1.F (a.X (by grind)),⟨gH a (by grind) f,j,p,q⟩,aH,t',⟨?_,s,x⟩,⟨e.1.aa a λr _ C U=>?_,e.2⟩,y,z⟩
 .exact ((g1.X (by grind)).F (a.X (by grind)):af (λr=>A r\/m<=r) w V).X (by grind)
 grind
theorem fz.W(h:fz an w ac ad A R n m D s' J)(a:Ext J V):fz an w ac ad A R n m D s' V:=h.own (a.aa λ_=>False) λ_ h=>h.elim
theorem fz.TI(h:fz an w ac ad A R n m D s' J):∃aH t',bd J ac ad aH R n s' t'/\cV an t'/\¬aH 0/\∀{V:x3}{qE:am}{D' a:Nat->Prop}{f:av},af (du J) J V->Grow aH J a V->bd V ac ad a R n qE f->cV an f->(∀r,D r->D' r)->(∀r,J.heap.size<=r->r<V.heap.size->D' r)->
  fz an w ac ad A R n m D' qE V/\af (λr=>r<m\/D r) J V/\∀r,a r->r<m\/D' r:=by
 obtain⟨h1,⟨x,y,z,B⟩,aH,t',C,E,j,L⟩:=h;refine⟨aH,t',E,j.1,j.2,λ{V qE D' a f}F e q G M H=>?_⟩;have N:=h1.size;have I:¬a 0:=λh=>(e.2.1 0 h).elim j.2 Ω;have s:∀r,a r->r<m\/D' r:=λr p=>(e.2.1 r p).elim (by grind) λh=>.inr (H r h (q.lt (.inl p)));refine⟨⟨h1.F (F.X λr _ h=>?_),⟨gH e.1 j.2 x,y,z,B⟩,a,f,C.F e,q,⟨G,I⟩,s⟩,e.1.X (by grind),s⟩;by_cases p:w.heap.size<=r
 .omega
 .exact .inl (oX (λo K U O=>h1.aZ r o K U (by grind)) h)
theorem fz.open(h:fz an w ac ad A R n m D s' J):∃aH t',bd J ac ad aH R n s' t'/\cV an t'/\∀{V:x3}{qE:am}{D' a:Nat->Prop}{e:av},af (du J) J V->Grow aH J a V->bd V ac ad a R n qE e->cV an e->(∀r,D r->D' r)->(∀r,J.heap.size<=r->r<V.heap.size->D' r)->
  fz an w ac ad A R n m D' qE V/\af (λr=>r<m\/D r) J V/\∀r,a r->r<m\/D' r:=by
 grind [fz.TI]
theorem fz.done(h:fz an w ac ad A R n m D s' J)(e:Ext J V):dp an w ac ad A R n s' V:=by
 obtain⟨h1,⟨f,q,r,s⟩,aH,t',j,p,a,x⟩:=h.W e;exact⟨h1.X (by grind),f,aH,t',j,p,a.1,a.2⟩
end
section
variable{an:List av}{w:x3}{ac ad:Nat}{A R:ah}{n:aD}{s:am}{t:av}
theorem r1{u:Nat}{x:bs}(a:aY n.k n.co s)(e:s.d6[u]?=σ x)(h:v∈aL x):e8 n (u:Int) v:=by
 have p:=(x4.1 e).1;have q:=a.d6;obtain⟨z,f⟩:=aF (l:=n.co) (i:=u) Ω;have r:=(a.var _ x z e f).1;have w:=a.c5.2.2 z (x5 f);have j:=(jq.1 h).1;refine⟨Ω,Ω,j.1,?_⟩
 grind
theorem Hl{f:bH}{g:Int->Int}(a:aY k co s)(e:s.d7[j]?=σ f):dA s j f (ep g [] f.szs f.cs)=s:=by
 obtain⟨h,p⟩:=mg a (x5 e);rw[Si h Ω (by grind)];have:s.d7.set j f=s.d7:=by
  apply j5
  grind
 unfold dA;show{s with d7:=s.d7.set j f}=s;rw[this]
theorem Hm{u:Nat}{f:bH}{x:bs}{F1 F2:Q2}{tup un:Int->Int}(h:bd w ac ad A R n s t)(aO:Laid w)(bf:¬A 0)(bh:cV an t)(C:s.d7[j]?=σ f)(bi:f.live≠0)(Y:f.sc[pos]?=σ (u:Int))(q:s.d6[u]?=σ x)(bj:v∈aL x)(h1:∀tl∈cQ s f.sc pos v,(0<=tup (bg f.szs f.cs tl)/\tup (bg f.szs f.cs tl)<=n.k)/\∀{w:x3}{A:ah}{s:am}{t:av},bd w ac ad A R n s t->aj x7 F1 [Γ ac,Δ (bg f.szs f.cs tl),Δ c] w λr I=>r=Δ (tup (bg f.szs f.cs tl))/\Ext w I)(aP:(0<=un (x.un.getD v.toNat 0)/\un (x.un.getD v.toNat 0)<=n.k)/\∀{w:x3}{A:ah}{s:am}{t:av},bd w ac ad A R n s t->aj x7 F2 [Γ ac,Δ (x.un.getD v.toNat 0),Δ c] w λr I=>r=Δ (un (x.un.getD v.toNat 0))/\Ext w I):
  aj x7 K5 [.agg #[.func (.func F1) #[] #[],.func (.func F2) #[] #[]],Γ ac,Δ (j:Int),Δ (pos:Int),Δ v,Δ c] w λ_ I=>dp an w ac ad A R n (kk s j f pos u x v tup un) I:=by
 have E:=h.2.2.2.1;have ao:=x5 C;obtain⟨ap,b1,_⟩:=E.d7 f ao;have aR:∀u',f.sc[pos]?=σ u'->v∈cZ s u':=by grind [cZ]
 have bk:=GF E ao aR;refine jj func250 ?_;refine bm λbl J b2 aS P=>?_;refine bm λg1 V b3 aq a=>?_;refine bm λb4 b5 b6 Z y=>?_;refine bm λb7 z b8 ab Q=>?_;have P:ag z bl sn [.func (.func F1) #[] #[],.func (.func F2) #[] #[]]:=((ag.W P aq).W Z).W ab;have a:ag z g1 dB [Γ ac]:=(ag.W a Z).W ab;have y:=ag.W y ab;have Q:=Q;have au:=((aS.F aq).F Z).F ab;have b9:=aS.size;have ca:=aq.size;have z3:=Z.size;have cb:=au.size;have aT:=P.lt;have G:=a.lt;have aV:=y.lt;have aW:=Q.lt;rw[ax Ψ (a.cell rfl),ax Ψ (y.cell rfl)];refine(rQ (h.W au) C).X ?_;rintro cc cd _ ⟨bn,_,_,br⟩;rw[be al.u ae.i Ψ br.ls Y];intro ce bt _ _;have H:=bn.F bt;have aw:=au.F H;have z46:=H.size;rw[ax Ψ ((a.W H).cell rfl),ax Ψ ((a.W H).cell rfl),ax Ψ ((y.W H).cell rfl)];refine Hf (h.W aw) (aO.W aw) C λaJ gs bI bu aU aX ay bw bx=>?_;have cf:=ay.size;have bz:=H.F ay;refine⟨Nat,ro,rs,nF,#[Γ bI,Γ bu,Γ aU,Γ gs],0,_,_,_,
  λD k I=>fz an w ac ad A R n w.heap.size D (dA s j f (ep tup ((cQ s f.sc pos v).take k) f.szs f.cs)) I/\(af (λr=>r<w.heap.size\/aX.heap.size<=r) z I/\aX.heap.size<=I.heap.size),
  λ_ _ _ _=>False,rfl,Hd (λu Y=>⟨(ap.scope.1 u Y).1,ap.d6 u Y⟩) ap.scope.2,?_,λ_ _ _ q h=>h.W q,?_,by grind,bx,?_,?_,?_,by grind,by grind⟩
 .grind
 .rintro D k bq cU S cg ⟨K,L,az⟩;exact⟨K.own S (by grind),L.F (S.X Ω),Y2 az S.size⟩
 .refine⟨?_,bz.aa _,p9 _⟩;have e:dA s j f (ep tup ((cQ s f.sc pos v).take 0) f.szs f.cs)=s:=Hl E C;rw[e];exact fz.start h aO bf bh (aw.F ay) (p9 _)
 .rintro aN D k ch aA ci cj bA ⟨rfl,tl,ck,aB,e,aY⟩ ⟨K,L,az⟩;cases e;intro cl U _ bB;obtain⟨m,hm⟩:=wo E ao aR (x5 aB);obtain⟨bC,bD⟩:=GG E C bk aB hm;obtain⟨⟨bE,bF⟩,bG⟩:=h1 tl (x5 aB);have aZ:∀{W:x3}{g:Nat}{e:r9}{cs:List x1},Ext aA W->w.heap.size<=g->g<z.heap.size->ag z g e cs->ag W g e cs:=λq ai bJ aC=>(aC.aa L Ω).W q;have bK:=(x4.1 C).1;have a1:(dA s j f (ep tup ((cQ s f.sc pos v).take k) f.szs f.cs)).d7[j]?=σ {f with cs:=ep tup ((cQ s f.sc pos v).take k) f.szs f.cs}:=Z3 bK;obtain⟨ai,S⟩:=wK a1 bi hm;obtain⟨A9,t9,aD,a2,aE⟩:=K.open;rw[ax Ψ ((aZ U Ω G a).cell rfl),ax Ψ ((aZ U Ω aV y).cell rfl)];refine(tr (aD.W U) (aY.W U)).X ?_;rintro _ cm bL ⟨rfl,bM⟩;rw[m3 ai,S,bo,bp];intro bN bO _ bP;have B:=(U.F bM).F bO;rw[ax Ψ ((aZ B Ω G a).cell rfl),ax Ψ ((aZ B Ω aV y).cell rfl),
   aQ sn.p 0 (aZ B Ω aT P) rfl,ax Ψ ((aZ B Ω G a).cell rfl),ax Ψ ((aZ B Ω aW Q).cell rfl)]
  show aj x7 F1 [Γ ac,Δ (bg f.szs (ep tup ((cQ s f.sc pos v).take k) f.szs f.cs) tl),Δ c] bN _;rw[bC];refine(bG (aD.W B)).X ?_;rintro _ cn bQ ⟨rfl,a6⟩;have X:=B.F a6;refine⟨.inl a6,(Gc (aD.W X) a2.room (aY.W X)).X ?_⟩;rintro r a7 bR ⟨_,_,aF⟩;obtain⟨_,ak,aH,bS,bT,aG,M⟩:=aF ai ⟨bE,bF⟩ _ m a1 hm;rw[bD]at M;have cp:=X.size;have cq:=ak.size;obtain⟨a8,aI,bU⟩:=aE (D':=λr=>D r\/aA.heap.size<=r/\r<a7.heap.size) (gA X ak) ((Grow.W X).F aG) M a2.set (by grind) Ω;refine⟨⟨λr=>D r\/aA.heap.size<=r/\r<a7.heap.size,λr h=>h,by grind,?_,a8,L.F (aI.X (by grind)),Ω⟩,bB.F ((((bL.F bP).F bQ).F bR).lL),aI.X (by grind)⟩;refine bA.put aI bw (λr N=>?_) a8.2.1.1 M (λ_=>rfl) λr N=>?_
  .grind
  .rcases N with N|N
   .exact (bU r N).imp Ω id
   .exact .inl (by have:=h.lt (.inr N);omega)
 .rintro D k bV rfl ⟨K,L,az⟩;rw[n9 (p9 _)]at K;have ba:=r1 E q bj;obtain⟨cr,ct,aK,bb,aE⟩:=K.open;have aZ:∀{W:x3}{g:Nat}{e:r9}{cs:List x1},Ext bV W->w.heap.size<=g->g<z.heap.size->ag z g e cs->ag W g e cs:=λq ai bJ aC=>(aC.aa L Ω).W q;rw[ax Ψ ((aZ (Ext.refl _) Ω G a).cell rfl)];refine(ni aK).X ?_;rintro _ cu _ ⟨rfl,bW⟩;have bX:gB (dA s j f (ep tup (cQ s f.sc pos v) f.szs f.cs)) (u:Int).toNat v.toNat=x.un.getD v.toNat 0:=by
   grind [gB,u9,dA]
  rw[m3 ba,bX,bo,bp];intro bY bZ _ _;have O:=bW.F bZ;rw[ax Ψ ((aZ O Ω G a).cell rfl),aQ sn.p 1 (aZ O Ω aT P) rfl,ax Ψ ((aZ O Ω G a).cell rfl),ax Ψ ((aZ O Ω aW Q).cell rfl)];show aj x7 F2 [Γ ac,Δ (x.un.getD v.toNat 0),Δ c] bY _;refine(aP.2 (aK.W O)).X ?_;rintro _ cw _ ⟨rfl,bc⟩;have aM:=O.F bc;refine⟨.inl bc,(zt (aK.W aM) bb.room).X ?_⟩;rintro r cz _ ⟨_,_,aF⟩;obtain⟨_,ak,aH,bS,bT,aG,M⟩:=aF ba aP.1;have e:kR (dA s j f (ep tup (cQ s f.sc pos v) f.szs f.cs)) (u:Int).toNat v.toNat (un (x.un.getD v.toNat 0))=kk s j f pos u x v tup un:=by
   unfold kR kk dI;rw[u9,show(dA s j f (ep tup (cQ s f.sc pos v) f.szs f.cs)).d6[u]?=σ x from q]
  rw[e]at M;intro cA b0 _;exact(aE (gA aM ak) ((Grow.W aM).F aG) M bb.set (by grind) λ_ _ _=>trivial).1.done b0
end
end Go.Proofs.YtkcigodpbndobaaGreatDoor
