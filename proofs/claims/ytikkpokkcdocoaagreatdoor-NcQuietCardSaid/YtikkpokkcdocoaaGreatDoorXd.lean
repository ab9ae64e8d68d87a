/- own texts, made small by a tool (wip/ holds them as they were written): no statement of the seat. -/
import Derived.Test.YtikkpokkcdocoaaGreatDoorXc
set_option linter.unusedVariables false
set_option linter.unusedSimpArgs false
set_option linter.unnecessarySimpa false
open Array renaming getElem?_eq_some_iff→n9,getElem?_toList→S8
open Bool renaming not_true→Y6,not_false→W5,eq_iff_iff→U1,and_eq_true→U4,or_eq_false_iff→U5
open Decidable renaming not_not→X3
open Go renaming Value→x1,World→x3,TypeId→r9,IntKind→o4,Builtin→Z5,Program→W9
open Go.Addr renaming add_mid→T2
open Go.Builtin renaming append_→Z3,len_→V2
open Go.Instr renaming loadAt→u4,fieldAt→u5,storeAt→o6,indexAt→j5,extract→Y3,buildSlice→Y7,sliceAt→V6
open Go.IntKind renaming i64→X7
open Go.Proofs.Tryz renaming prog→x7
open Int renaming toNat_natCast→u6
open List renaming getElem?_eq_some_iff→x4,mem_of_getElem?→x5,getElem?_eq_getElem→x6,getElem?_map→x8,getD_eq_getElem?_getD→v8,take_add_one→u7,length_map→u9,length_append→r8,replicate→p9,take_length→o5,length_take→o7,mem_append→o9,mem_singleton→l7,mem_map→l9,take_of_length_le→j0,eq_nil_of_length_eq_zero→j4,length_cons→c9,getElem?_set_self→Z0,map_append→Z4,length_set→Z6,getElem?_take_of_lt→Z9,getElem?_eq_none→Y0,getElem?_append_left→Y1,getElem?_append_right→Y2,getElem?_set_ne→Y8,getElem?_set→X1,ext_getElem?→X2,mem_iff_getElem?→X5,drop_eq_getElem_cons→X8,append_assoc→X9,flatMap_cons→W0,mem_or_eq_of_mem_set→W3,append_nil→W7,range→V0,length_eq_one_iff→V1,mem_of_mem_take→V5,map_set→U6,length_singleton→U9,map_cons→T4,set_append_right→S0,getElem_mem→S9,length→R6,map_map→Q0,mem_range→Q3
open Nat renaming le_refl→p8,mul_le_mul_right→Y4,le_trans→Y5,zero_le→X4,zero_add→X6,sub_self→U2,add_mul→U8,mul_one→T0,add_sub_cancel_left→S3,add_assoc→S6,min_eq_left→R5,eq_zero_or_pos→Q4
open Option renaming toList_some→o8,isNone_some→j9,map_some→Z7,map_eq_some_iff→Y9,getD_some→V8,map→U3,isSome_some→R2,isSome_none→R4
open Option.some renaming inj→Z2,injEq→X0
open Prod.mk renaming injEq→S2
set_option maxHeartbeats 16000000
open Option renaming some→σ,none→ν
variable{B N a ab ac gz j k n:Nat}{w w':x3}{sv v z:x1}{e t:r9}{y:Int}{K:x1->Prop}{all l pl sizes:Λ}{S:Nat->Prop}
namespace Go.Proofs.YtikkpokkcdocoaaGreatDoor
open Go Go.Vc Go.RowKit Go.Proofs Go.Proofs.Tryz
set_option maxRecDepth 100000
def Nc(w:x3)(f:b2)(v:x1)(w':x3):Prop:=Ext w w'/\((¬lY f.funs<=16384/\∃e:Int,e≠0/\v= .tuple #[.pointer ν,Δ e])\/∃a,v= .tuple #[Γ a,Δ 0]/\CC w.heap.size w' a (c3 f))
theorem dp{cs:List x1}(h:cc w k v n cs):v.cells= #[v]/\v.oneCell'=true:=by
 obtain⟨_,_,_,_,_,rfl,_⟩:=h;exact⟨rfl,rfl⟩
theorem Nd{b1:Nat}{f:b2}(cu:k8 w b1 f)(S:fe N f)(cz:N<=60000)(cA:f.name≠[]/\∀b∈f.name,bM b=true):
  ai x7 Gf [Γ b1] w (Nc w f):=by
 have hk:=S.k;refine az func61 ?_;refine(M8 cu S cz cA).mono ?_;rintro _ J _ ⟨aA,⟨cB,e,he,rfl⟩|⟨aC,rfl,cD⟩⟩
 .rw[br,bt,bI,aj];exact⟨λ_=>⟨aA,.inl ⟨cB,e,he,rfl⟩⟩,λh=>absurd he h⟩
 rw[br,bt,bI,aj];refine⟨λh=>absurd rfl h,λ_=>?_⟩;obtain⟨szv,cE,gz,dy,M,bg,bh,b3,aU,cF,cG,cH⟩:=id cD;have dz:M.length<=256:=by
  have h1:=(qw S).2.length_eq;have av:=(k6 S).2.2;have aw:=List.length_filter_le fD (fp f);have aV:=S.k0;have dA:M.length=(fE f).length:=by rw[<-aU,u9]
  omega
 have dC:=S.sizes.2.1;rw[dh (cs:=#[Γ aC,Δ 0,.slice ν 0 0,.slice ν 0 0]) Ψ];refine bj λG U dD bi bl=>?_;have bl:ad U G fA [Γ aC,Δ 0,.slice ν 0 0,.slice ν 0 0]:=bl;rw[aG cv.p 2 (bg.ext bi) rfl,aW ap.u (bh.ls.ext bi)];refine bZ.range f.sizes.length (λi aD=>∃s H aS,Ext J aD/\ad aD G fA [Γ aC,Δ 0,s,.slice ν 0 0]/\hK aD H s aS/\aS.map (·.l)=(f.sizes.take i).map (λz=>p9 z.toNat 0)/\(∀r,leadsTo s r->J.heap.size<=r)/\∀h∈aS,∀r,leads h.v r->J.heap.size<=r) Ω
  ⟨_,0,[],bi,bl,⟨ba.nil _ _ _ _ _,λx aE=>(by cases aE)⟩,rfl,λr q=>(fq q).elim,λx aE=>(by cases aE)⟩ ?_ ?_
 .rintro i aD cI hi ⟨s,H,aS,ab,aX,bm,aH,aY,O⟩ cJ;obtain⟨z,B⟩:=aF (l:=f.sizes) hi;have dF:=S.sizes.2.2 z (x5 B);have dH:aS.length=i:=by have:=congrArg R6 aH;simp only[u9,o7]at this;omega
  refine bQ Ω ?_;rw[be ap.u ah.i Ψ (bh.ls.ext ab) B];intro dI bn _ _;have cK:=aX.ext bn;rw[aG fA.p 2 cK rfl];obtain⟨ac,rfl⟩:∃n:Nat,z=n:=⟨z.toNat,Ω⟩;refine kk (k:=.i64) au.u al.i Ω Ω λaZ cL dJ bp cM=>?_;refine⟨.inl bp,?_⟩;have b5:aq .i64 al cL aZ (.slice (σ ⟨aZ,0,ν⟩) ac ac) (p9 ac 0):=aq.of (bW.full (k:=1) (n:=ac) cM Ξ (by simp[maxLen];omega));let a:k9:=⟨.slice (σ ⟨aZ,0,ν⟩) ac ac,p9 ac 0⟩;refine h2 (f:=nX) (a:=a) ei.u au.i Ω rfl rfl λdL dM bq dN bu cN=>?_;refine⟨.inl (bp.trans bu),?_⟩;have a1:=(bn.trans bp).trans bu;have a2:=bm.ext a1;refine ik (f:=nX) (a:=a) ei.u au.i rfl a2.1 (by simpa using cN.sl) (λu hu=>by rw[l7.1 (show u∈[a.v]from hu)];rfl) Ω Ω λbw bx dO P bA b7=>?_;have aI:∀{r:Nat},leadsTo s r->∃c,ad bq r au c:=λq=>by
   obtain⟨rfl,c,A⟩:=ef a2.1 q;exact⟨c,A⟩
  have bB:=aX.ext a1;have b8:=bB.V b7 λhe=>cC a2.1 bB Φ he;rw[bJ,aR fA.p rfl];refine bk ei.i (dp P.sl).1 (dp P.sl).2 b8 Ξ λcO b9 dP cP=>?_;rw[aP];have bC:ae (λr=>leadsTo s r\/r=G) bq cO:=(b7.mono λr _ h=>.inl h).trans (b9.mono λr _ h=>.inr h);have W:∀r,(leadsTo s r\/r=G)->∃e c,ad bq r e c/\e≠al:=λr q=>by
   rcases q with q|rfl
   .obtain⟨c,A⟩:=aI q;exact⟨_,c,A,Φ⟩
   .exact⟨_,_,bB,Φ⟩
  have ca:=aA.size;have z3:=ab.size;have dQ:=a1.size;refine cJ _ ⟨bw,bx,aS++[a],(ab.trans a1).then bC (λr q he=>?_),cP,⟨P.V b9 λr q he=>?_,λy C=>?_⟩,?_,λr q=>?_,λy C r q=>?_⟩
  .rcases he with he|rfl
   .have:=aY r he;omega
   .omega
  .have he:r=G:=he;subst he;exact cC P b8 Φ q
  .rcases o9.1 C with C|C
   .exact a2.qG bC W y C
   .rw[l7.1 C];have cb:=b5.ext bu;exact⟨aZ,bo cb bC λr q I=>by
     obtain⟨e,c,A,cQ⟩:=W r I;exact b4 cb A (λhe=>cQ he.symm) q rfl⟩
  .rw[Z4,aH,u7,B,o8,Z4];rfl
  .rcases bA r q with h|h
   .exact aY r h
   .omega
  .rcases o9.1 C with C|C
   .exact O y C r q
   .rw[l7.1 C]at q;have cR:=(bO b5 q).1;have:=bn.size;omega
 .rintro aD cI ⟨s,H,aS,ab,aX,bm,aH,aY,O⟩;refine cn Ω ?_;rw[o5]at aH;have cS:=bg.ext ab;have cT:=b3.ext ab;rw[aG cv.p 3 cS rfl,ez dK.u cT.1];refine bZ.range M.length (λi af=>∃s E H gr aS L,Ext J af/\ad af G fA [Γ aC,Δ (dG f i).zero,s,E]/\hK af H s aS/\aS.map (·.l)=(dG f i).unary/\lZ af w.heap.size gr E f.k f.sizes L/\L.map dU=(dG f i).funs/\(∀r,leadsTo s r\/leadsTo E r->J.heap.size<=r)/\∀h∈aS,∀r,leads h.v r->J.heap.size<=r) Ω
   ⟨s,_,H,0,aS,[],ab,aX,bm,aH,⟨ba.nil _ _ _ _ _,λx aE=>(by cases aE)⟩,rfl,λr q=>q.elim (aY r) λh=>(fq h).elim,O⟩ ?_ ?_
  rotate_left
  .rintro af cV ⟨s,E,H,gr,aS,L,Q,a6,bD,ag,bE,am,X,O⟩;refine cn Ω ?_;have cW:M.length=(fE f).length:=by rw[<-aU,u9]
   have aJ:=pj f M.length;rw[cW,ta]at a6 ag am aJ;have ca:=aA.size;refine⟨aA.trans Q,.inr ⟨G,rfl,M9 (gr:=gr) (nm:=bR f.name) (szv:=szv) (gz:=gz) (fv2:=cE) a6 ?_ ?_ bD ag ?_ am Ω cF cG (λr q=>by have:=X r q;omega) λh ao r q=>by have:=O h ao r q;omega⟩⟩
   .rw[aJ.1];exact bg.ext Q
   .rw[aJ.2.1];exact bh.ext Q
   .rw[aJ.1,aJ.2.1];exact bE
  rintro i af cV hi ⟨s,E,H,gr,aS,L,Q,a6,bD,ag,bE,am,X,O⟩ cX;obtain⟨y,C⟩:=aF (l:=M) hi;have cY:(fE f)[i]?=σ (dU y):=by rw[<-aU,x8,C];rfl
  have a7:fG f.sizes f.k (dU y):=sP S _ (wc aU C);have bF:=b3.ext Q;obtain⟨dR,dS,dT,dV⟩:=pj f i;refine bQ Ω ?_;refine dd (λaM=>∃s E H gr aS L,Ext J aM/\ad aM G fA [Γ aC,Δ (dG f (i+1)).zero,s,E]/\hK aM H s aS/\aS.map (·.l)=(dG f (i+1)).unary/\lZ aM w.heap.size gr E f.k f.sizes L/\L.map dU=(dG f (i+1)).funs/\(∀r,leadsTo s r\/leadsTo E r->J.heap.size<=r)/\∀h∈aS,∀r,leads h.v r->J.heap.size<=r) ?_ ?_
  .rintro aM h;rw[aP];exact cX _ h
  intro ax bG;have cZ:=bF.2 y (x5 C);obtain⟨⟨c0,bK⟩,m,o,D,c1,dW,c2⟩:=cZ;rw[dj rfl dK.u cw.i bF.1 hi,bH cw.p cw.i rfl (bF.1.range C)];refine bz cw.i λak dX dY c3 c4=>?_;refine b6 (vs:=eE y) cw.i rfl rfl (s9 bK) c4 λc5 c6 dZ cc=>?_;have bL:Ext af c5:=c3.put c6 Ω;rw[aL cw.p 1 cc rfl];refine(B6 (c1.ext bL) Ω).mono ?_;rintro _ ea _ ⟨cd,_,ay⟩;obtain⟨g,c7,c8,c9,rfl,eb,da,ay,db⟩:=ay a7.small;have dc:dE (bV f.sizes y.sc):=ay.2.2.1.2;have de:c9=y.cs:=io.eq dc db c2;subst de;have Y:=bL.trans cd;have bN:=cc.ext cd;have bP:=bK.ext Y;rw[br,bt,aL cw.p 0 bN rfl,aW ap.u bP.ls];have ca:=aA.size;have z9:=Q.size;have ec:=Y.size;have bS:=a6.ext Y;have bT:=bD.ext Y;have bU:=bE.ext Y;have bX:=we cY;rw[bd,aj];refine⟨λed=>?_,λee=>?_⟩
  .
   have an:y.sc=[]:=j4 Ω;have K:dG f (i+1)={dG f i with zero:=y.cs.getD 0 0}:=by rw[bX];unfold iR;simp only[dU,an]
   refine(mF ay).mono ?_;rintro ce df _ ⟨a8,eg,eh,di⟩;have ej:y.cs.length=1:=by have:=a7.len;simpa[dU,an,bV,aK]using this
   have dk:y.cs[0]?=σ (y.cs.getD 0 0):=by rw[v8,x6 Ω];rfl
   rw[gl (y:=0) (i:=0) rfl au.u al.i Ψ di.ls dk,bJ,aR fA.p rfl];have cg:=bS.ext a8;refine bk al.i rfl rfl cg Ξ λek bY em dl=>?_;have W:∀r,r=G->∃e c,ad df r e c/\e≠hv/\e≠cU/\e≠ah/\e≠al/\e≠au:=λr q=>by
    subst q;exact⟨_,_,cg,Φ,Φ,Φ,Φ,Φ⟩
   refine bG _ ⟨s,E,H,gr,aS,L,((Q.trans Y).trans a8).put bY Ω,?_,(bT.ext a8).V bY (λr q=>?_),by rw[K];exact ag,(bU.ext a8).V bY (λr q=>?_),by rw[K];exact am,X,O⟩
   .rw[K];exact dl
   .obtain⟨e,c,A,_,_,_,h1,av⟩:=W r q;exact⟨e,c,A,h1,av⟩
   .obtain⟨e,c,A,h1,av,aw,aV,_⟩:=W r q;exact⟨e,c,A,h1,av,aw,aV⟩
  rw[bd,aj];refine⟨λh1=>?_,λen=>?_⟩
  .
   obtain⟨v,an⟩:∃v,y.sc=[v]:=V1.1 Ω;have eo:=a7.scope.1 v (by show v∈y.sc;rw[an];exact .head _);have ep:=a7.vars v (by show v∈y.sc;rw[an];exact .head _);have K:dG f (i+1)={dG f i with unary:=(dG f i).unary.set v.toNat y.cs}:=by rw[bX];unfold iR;simp only[dU,an]
   intro er Z _ _;have ch:=bS.ext Z;have dm:=bN.ext Z;rw[aG fA.p 2 ch rfl,aL cw.p 0 dm rfl];refine pZ (y:=0) (i:=0) rfl ap.u ah.i (bP.ls.ext Z) (show y.sc[0]?=σ v by rw[an];rfl) λb o dn=>?_;rw[aB Ψ dn];refine(mF (ay.ext Z)).mono ?_;rintro ce dq _ ⟨aN,dr,es,aO⟩;refine⟨.inl aN,?_⟩;have aQ:=(bT.ext Z).ext aN;have et:aS.length=f.sizes.length:=by have:=congrArg R6 ag;rw[u9]at this;omega
   obtain⟨u,hu⟩:=aF (l:=aS) (i:=v.toNat) Ω;rw[dj (i:=v.toNat) Ω ei.u au.i aQ.1 Ω];let a:k9:=⟨ce,y.cs⟩;refine pa (f:=nX) (j:=0) (a:=u) (a':=a) au.i aO.ls.cells.1 aO.ls.cells.2 aQ.1 hu rfl Ω λeu aT ev ds=>?_;have cj:=ch.ext aN;have aI:∀{r:Nat},leadsTo s r->∃c,ad dq r au c:=λq=>by
    obtain⟨rfl,c,A⟩:=ef aQ.1 q;exact⟨c,A⟩
   refine bG _ ⟨s,E,H,gr,aS.set v.toNat a,L,(((Q.trans Y).trans Z).trans aN).then aT (λr q he=>by have:=X r (.inl he);omega),?_,⟨ds,λz B=>?_⟩,?_,((bU.ext Z).ext aN).V aT (λr q=>?_),by rw[K];exact am,X,λz B r q=>?_⟩
   .rw[K];exact cj.V aT λhe=>cC aQ.1 cj Φ he
   .rcases W3 B with B|rfl
    .exact aQ.qG aT (λr q=>by obtain⟨c,A⟩:=aI q;exact⟨_,c,A,Φ⟩) z B
    .exact⟨dr,bo aO aT λr q I=>by
      obtain⟨c,A⟩:=aI I;exact b4 aO A Φ q rfl⟩
   .rw[K,U6,ag]
   .obtain⟨c,A⟩:=aI q;exact⟨_,c,A,Φ,Φ,Φ,Φ⟩
   .rcases W3 B with B|rfl
    .exact O z B r q
    .have cR:=(bO aO q).1;have:=Z.size;omega
  .
   have K:dG f (i+1)={dG f i with funs:=(dG f i).funs++[dU y]}:=by
    rw[bX];unfold iR;have ck:2<=(dU y).1.length:=by show 2<=y.sc.length;omega
    generalize dU y=g at ck ⊢;obtain⟨sc,cs⟩:=g
    match sc,ck with
    |_::_::_,_=>rfl
   intro ew aa _ _;have cl:=bS.ext aa;have dt:=bN.ext aa;have cm:=bP.ext aa;rw[aG fA.p 3 cl rfl,aL cw.p 0 dt rfl,dh (cs:=#[y.sv,Γ g]) (by obtain⟨_,_,_,e⟩:=dg bK.ls;rw[e];kernel_rfl)];let a:ci:=⟨y.sv,g,y.sc,y.cs⟩;refine h2 (f:=eE) (a:=a) kT.u hv.i Ω rfl rfl λey eA bb eB R du=>?_;refine⟨.inl R,?_⟩;have bc:=(bU.ext aa).ext R;have dv:=(bT.ext aa).ext R;have b0:=cl.ext R;have eC:L.length<=256:=by have:=congrArg R6 am;rw[u9]at this;omega
   refine ik (f:=eE) (a:=a) kT.u hv.i rfl bc.1 (by simpa using du.sl) (s9 (cm.ext R)) Ω Ω λbw bx eD P bA cp=>?_;have cq:=b0.V cp λhe=>cC bc.1 b0 Φ he;rw[bJ,aR fA.p rfl];refine bk kT.i (dp P.sl).1 (dp P.sl).2 cq Ξ λdw cr eF dx=>?_;have bf:ae (λr=>leadsTo E r\/r=G) bb dw:=(cp.mono λr _ h=>.inl h).trans (cr.mono λr _ h=>.inr h);have W:∀r,(leadsTo E r\/r=G)->∃e c,ad bb r e c/\e≠cU/\e≠ah/\e≠al/\e≠au:=λr q=>by
    rcases q with q|rfl
    .obtain⟨rfl,c,A⟩:=ef bc.1 q;exact⟨_,c,A,Φ,Φ,Φ,Φ⟩
    .exact⟨_,_,b0,Φ,Φ,Φ,Φ⟩
   have eH:=(aa.trans R).size;refine bG _ ⟨s,bw,H,bx,aS,L++[a],(((Q.trans Y).trans aa).trans R).then bf (λr q he=>?_),?_,dv.V bf (λr q=>?_),by rw[K];exact ag,⟨P.V cr λr q he=>?_,λz B=>?_⟩,?_,λr q=>?_,O⟩
   .rcases he with he|rfl
    .have:=X r (.inr he);omega
    .omega
   .rw[K];exact dx
   .obtain⟨e,c,A,_,_,aw,aV⟩:=W r q;exact⟨e,c,A,aw,aV⟩
   .have he:r=G:=he;subst he;exact cC P cq Φ q
   .have ct:∀r,(leadsTo E r\/r=G)->∃e c,ad bb r e c/\e≠cU/\e≠ah/\e≠al:=λr q=>by
     obtain⟨e,c,A,h1,av,aw,_⟩:=W r q;exact⟨e,c,A,h1,av,aw⟩
    rcases o9.1 B with B|B
    .exact (bc.2 z B).V bf ct
    .rw[l7.1 B];have eI:=bL.size;refine qH.V (w:=bb) ⟨⟨c0,cm.ext R⟩,⟨c7,c8,?_,Ω,λr q=>by have:=da.2 r q;omega⟩,by show w.heap.size<=g;omega,cH y (x5 C)⟩ bf ct;exact(ay.ext aa).ext R
   .rw[K,Z4,am];rfl
   .rcases q with q|q
    .exact X r (.inl q)
    .rcases bA r q with h|h
     .exact X r (.inr h)
     .omega
theorem wg{z:Array x1}(a:z.size=k):(Z5.zeroCells z n).toList=dP z (n*k):=by
 unfold Z5.zeroCells dP;rw[a]
theorem Nf{P:W9}{p A:r9}{B kn:o4}{b g m:Nat}{xs:List x1}{K:x1->x3->Prop}(Y:y=(m:Int))(M:P.underlying t=σ (.slice e))(N:P.underlying p=σ (.int kn))(hi:aO P e k b z)(C:z.cells.size=k)(av:0<k)(h1:∀u∈dP z.cells (m*k),u.oneCell'=true)(h:bW w g e k v n xs)(Z:0<m)(aa:(n+m)*b<=140737488355328)(ab:n+m<=9223372036854775807)(O:∀E ac w',bW w' ac e k E (n+m) (xs++dP z.cells (m*k))->(∀r,leadsTo E r->leadsTo v r\/w.heap.size<=r)->ae (λr=>leadsTo v r) w w'->K E w'):aC P (Z3 #[t,p] A #[v,.int B y]) w K:=by
 subst Y;obtain⟨i,hi,F,rfl,Q⟩:=hi;obtain⟨R,hm⟩:=h;have af:=oL z.cells (m*k);have ag:m*i.bytes<=281474976710656:=by
  have:m*i.bytes<=(n+m)*i.bytes:=Y4 _ Ω;omega
 have grow:∀(base:Option Addr)(cap:Nat),v= .slice base n cap->(Z5.firstCells i.size n (.slice base n cap)).run P w.drew= .ok xs.toArray w.drew->cap<n+m->aC P (Z3 #[t,p] A #[v,.int B (m:Int)]) w K:=λbase cap ah ai f=>by
  subst ah;have G:=Lib.run_append_grow_zeros (P:=P) w t p A e i z B kn M N hi Q base n cap xs ai m Z Ω f Ω ag (growslice_fits f aa);have S:n+m<=grownCap w (n+m) cap e:=grownCap_ge w _ _ _;have aj:grownCap w (n+m) cap e<=maxLen:=grownCap_le_maxLen w (n+m) cap e (by simpa[maxLen]using ab);have aw:=oL z.cells ((grownCap w (n+m) cap e-(n+m))*k);have ax:(n+m)*k<=grownCap w (n+m) cap e*k:=Y4 _ S;have ak:(n+m)*k=n*k+m*k:=U8 _ _ _;have ay:(grownCap w (n+m) cap e-(n+m))*k=grownCap w (n+m) cap e*k-(n+m)*k:=Nat.sub_mul _ _ _;refine .of G ((pA w _ (Nat.le_succ _)).trans (pC _ _)) (O _ w.heap.size _ ⟨by rw[r8];omega,.inr ⟨_,xs++dP z.cells (m*k)++dP z.cells ((grownCap w (n+m) cap e-(n+m))*k),rfl,?_,S,aj,?_,?_⟩⟩ (λr H=>?_) (((rf w _).trans (pB _ _)).V _))
  .have:=heap_alloc_new w.drew (.cells (xs.toArray++Z5.zeroCells z.cells m++Z5.zeroCells z.cells (grownCap w (n+m) cap e-(n+m))) e);unfold ad;rw[show w.drew.heap.size=w.heap.size from rfl]at this;rw[this];congr 2;apply Array.toList_inj.1;rw[Array.toList_append,Array.toList_append,wg C,wg C]
  .rw[r8,r8];omega
  .rw[List.take_append_of_le_length (by rw[r8];omega),j0 (by rw[r8];omega)]
  .obtain⟨a,al,c,q,s⟩:=H;cases q;exact .inr (by simp at s;omega)
 rcases hm with⟨rfl,am⟩|⟨cap,cs,rfl,x,q,s,I,T⟩
 .subst am;have:xs=[]:=j4 (by simpa using R);subst this;exact grow ν 0 rfl (run_firstCells_none w.drew i.size 0 0 0) Ω
 .by_cases f:n+m<=cap
  .have U:(n+m)*k<=cs.length:=by rw[I];exact Y4 _ f
   have ak:(n+m)*k=n*k+m*k:=U8 _ _ _;have J:=run_storeCells_cells (P:=P) g (0+n*k) (dP z.cells (m*k)) 0 w (λj W=>by
    rw[af]at W;rw[Nat.add_zero,X6,x.cell (x6 (show n*k+j<cs.length by omega))];rfl) (λj _=>x.frozen _ _) h1
   simp only[Nat.add_zero]at J;have hw:X7.wrap (m:Int)=m:=by rw[o4.wrap_i64];omega
   have an:¬((m:Int)<0):=Ω
   have ao:¬(281474976710656<(m:Int)*(i.bytes:Int)):=by rw[<-Int.natCast_mul];omega
   have L:¬(m*i.size=0):=Nat.mul_ne_zero Ω Ω;have ap:(Z5.zeroCells z.cells m).toList=dP z.cells (m*k):=wg C;have G:(Z3 #[t,p] A #[.slice (σ ⟨g,0,ν⟩) n cap,.int B (m:Int)]).run P w= .ok (.slice (σ ⟨g,0,ν⟩) (n+m) cap) (w.setCells g (0+n*k) (dP z.cells (m*k))):=by
    simp[Z3,run_underlying M,run_underlying N,sizeOf,typeInfo,zeroValue,hi,Q,asInt,asIntOf,hw,f,an,L,ao,ap,Addr.add_lit,F];simp only[X6]at J;rw[J];simp;intro aq;exact absurd aq (by rw[F]at L;exact L)
   obtain⟨au,X⟩:=ny (dP z.cells (m*k)) cs (0+n*k) w x;refine .of G (X.cj x) (O _ g _ ⟨by rw[r8];omega,.inr ⟨cap,_,rfl,au,f,s,by rw[lQ,I],?_⟩⟩ (λr H=>.inl ?_) (X.V.mono λr _ he=>⟨_,_,_,rfl,he.symm⟩))
   .rw[sF Ω U,mq (by rw[o7];omega),X6,List.take_take,List.drop_eq_nil_of_le (by rw[o7];omega),W7,R5 Ω,T]
   .obtain⟨a,al,c,q,s⟩:=H;cases q;exact⟨_,_,_,rfl,s⟩
  .refine grow _ cap rfl ?_ Ω;have U:n*k<=cs.length:=by rw[I];exact Y4 _ q
   refine run_firstCells_some w.drew i.size n _ n cap xs (by rw[F];exact R) λj u hu=>?_;rw[T2,X6];have W:=(x4.1 hu).1;rw[<-T,Z9 Ω]at hu;exact x.cell hu
def gM(c:Cell):List x1:=[Δ c.v,.int .u64 (c.st:Int)]
def iS(o:kp):List x1:=[Δ (o.i:Int),Δ o.c.v,.int .u64 (o.c.st:Int)]
def h3(m:nH):List x1:=[Δ (m.olds:Int),Δ (m.cells:Int),.int .u64 (m.st:Int)]
def cW(w:x3)(ac:Nat)(A:af)(t:aw):Prop:=A ac/\∃e go cQ aV a cV,ad w ac cO [aV,a,cV,.int .u64 (t.ever:Int)]/\ba gM 2 dY w e aV t.cells/\ba iS 3 fO w go a t.olds/\ba h3 3 dJ w cQ cV t.marks/\
 ∀r,leadsTo aV r\/leadsTo a r\/leadsTo cV r->A r
theorem cW.V{S A:af}{t:aw}(h:cW w ac A t)(e:ae S w w')(f:∀r,A r->¬S r):cW w' ac A t:=by
 obtain⟨p,q,go,cQ,aV,s,cV,h1,x,y,z,j⟩:=h;exact⟨p,q,go,cQ,aV,s,cV,h1.V e (f _ p),x.V e λr a=>f r (j r (.inl a)),y.V e λr a=>f r (j r (.inr (.inl a))),z.V e λr a=>f r (j r (.inr (.inr a))),j⟩
theorem cW.ext{A:af}{t:aw}(h:cW w ac A t)(a:Ext w w'):cW w' ac A t:=h.V (a.V λ_=>False) λ_ _ h=>h
theorem cW.mono{A B:af}{t:aw}(h:cW w ac A t)(a:∀r,A r->B r):cW w ac B t:=by
 obtain⟨e,f,go,cQ,aV,j,cV,h1,p,q,s,x⟩:=h;exact⟨a _ e,f,go,cQ,aV,j,cV,h1,p,q,s,λr y=>a r (x r y)⟩
def Grow(A:af)(w:x3)(aE:af)(w':x3):Prop:=ae A w w'/\(∀r,aE r->A r\/w.heap.size<=r)/\∀r,A r->aE r
theorem Grow.refl(A:af)(w:x3):Grow A w A w:=⟨ae.refl _ _,λ_ h=>.inl h,λ_ h=>h⟩
theorem Grow.ext{A:af}(h:Ext w w'):Grow A w A w':=⟨h.V _,λ_ h=>.inl h,λ_ h=>h⟩
theorem Grow.trans{A aE e:af}{f:x3}(h:Grow A w aE w')(k:Grow aE w' e f):Grow A w e f:=
 ⟨⟨Y5 h.1.size k.1.size,λr o a I j=>k.1.aY r o (h.1.aY r o a I j) I λp=>(h.2.1 r p).elim j λq=>by
  have:=(n9.1 a).1;omega⟩,λr a=>by
  rcases k.2.1 r a with h1|h1
  .exact h.2.1 r h1
  .have:=h.1.size;exact .inr Ω,λr a=>k.2.2 r (h.2.2 r a)⟩
theorem CE{A:af}{t:aw}(h:cW w ac A t):ai x7 Hg [Γ ac] w λv w'=>v=Δ (t.cells.length:Int)/\Ext w w':=by
 obtain⟨e,f,go,cQ,aV,j,cV,h1,a,q,r,s⟩:=h;refine az func152 ?_;rw[cP kS.u];simp only[j9,aU];rw[aG cO.p 0 h1 rfl,ez gH.u a];exact⟨rfl,Ext.refl _⟩
theorem CF{A:af}{t:aw}{i:Int}(h:cW w ac A t):ai x7 GB [Γ ac,Δ i] w λv w'=>v= .bool (decide (0<=i/\i<t.cells.length))/\Ext w w':=by
 refine az func86 ?_;refine aT (λv J=>v= .bool (decide (0<=i/\i<t.cells.length))/\Ext w J) (λ_ _ h=>h) ?_;intro ax a;rw[cI,aj];refine⟨λe=>?_,λe=>a _ _ ⟨by rw[decide_eq_false];omega,Ext.refl _⟩⟩;refine(CE h).mono ?_;rintro _ J _ ⟨rfl,f⟩;rw[aQ];refine a _ _ ⟨?_,f⟩;congr 1;rw[U1,decide_eq_true_eq,decide_eq_true_eq];exact⟨λh=>⟨Ω,h⟩,λh=>h.2⟩
theorem Ng{A:af}{t:aw}{i:Nat}{c:Cell}(h:cW w ac A t)(j:y=(i:Int))(a:t.cells[i]?=σ c):ai x7 yP [Γ ac,Δ y] w λv w'=>v=Δ c.v/\Ext w w':=by
 have q:=(x4.1 a).1;refine az func39 ?_;refine(CF h).mono ?_;rintro _ J _ ⟨rfl,e⟩;rw[decide_eq_true Ω,bC,Y6,aU];obtain⟨r,s,go,cQ,aV,x,cV,h1,f,z,B,C⟩:=h.ext e;rw[aG cO.p 0 h1 rfl,dj j gH.u dY.i f q,aR dY.p rfl,aB Ψ (f.range a 0 _ rfl)];exact⟨rfl,e⟩
theorem la{A:af}{t:aw}{i:Nat}{x:Int}(h:cW w ac A t)(e:y=(i:Int))(a:t.bG[i]?=σ x):ai x7 yP [Γ ac,Δ y] w λv w'=>v=Δ x/\Ext w w':=by
 unfold aw.bG at a;rw[x8]at a;obtain⟨c,f,rfl⟩:=Y9.1 a;exact Ng h e f
def lb(t:aw):Prop:=t.cells.length<=100000000/\t.olds.length<=100000000/\t.marks.length<=100000000
theorem pk{q go cQ:Nat}{aV a cV:x1}{t:aw}{x:x1}(h1:ad w ac cO [aV,a,cV,x])(f:ba gM 2 dY w q aV t.cells)(h:ba iS 3 fO w go a t.olds)(j:ba h3 3 dJ w cQ cV t.marks):
  (¬leadsTo aV ac/\¬leadsTo a ac/\¬leadsTo cV ac)/\(∀r,leadsTo aV r->¬leadsTo a r/\¬leadsTo cV r)/\∀r,leadsTo a r->¬leadsTo aV r/\¬leadsTo cV r:=by
 refine⟨⟨cC f h1 Φ,cC h h1 Φ,cC j h1 Φ⟩,λr p=>?_,λr p=>?_⟩
 .obtain⟨rfl,c,e⟩:=ef f p;exact⟨cC h e Φ,cC j e Φ⟩
 .obtain⟨rfl,c,e⟩:=ef h p;exact⟨cC f e Φ,cC j e Φ⟩
theorem tb{A:af}{t:aw}{i:Nat}{x:Int}(h:cW w ac A t)(bo:y=(i:Int))(P:i<t.cells.length)(au:lb t):ai x7 yY [Γ ac,Δ y,Δ x] w λv w'=>v=Δ 0/\∃aE,Grow A w aE w'/\cW w' ac aE (t.set i x):=by
 subst bo;obtain⟨c,E⟩:=aF (l:=t.cells) P;refine az func128 ?_;rw[cP kS.u];simp only[j9,aU];refine(CF h).mono ?_;rintro _ J _ ⟨rfl,L⟩;rw[decide_eq_true Ω,bC,Y6,aU];obtain⟨aY,M,go,cQ,aV,Q,cV,h1,aZ,av,ab,ag⟩:=id (h.ext L);have bp:∀{U:x3}{aE:af}{bi:aw}{st:Nat}{K:x3->Prop},cW U ac aE bi->bi.cells[i]?=σ ⟨c.v,st⟩->
   (∀q,ae aE U q->cW q ac aE {bi with cells:=bi.cells.set i ⟨x,st⟩}->K q)->
   (aa x7 (bN (Γ ac)) U λt77=>
   aa x7 (u5 cO t77 0) U λbq=>
   aa x7 (u4 gH bq) U λbr=>
   aa x7 (j5 gH br (Δ (i:Int))) U λbt=>
   aa x7 (u5 dY bt 0) U λbu=>
   aC x7 (o6 al bu (Δ x)) U λ(_:Unit)q=>
   K q):=by
  intro U aE bi st K ay ah bw;obtain⟨aA,M,go,cQ,aV,Q,cV,G,H,R,S,W⟩:=ay;have bx:=(x4.1 ah).1;rw[aG cO.p 0 G rfl,dj rfl gH.u dY.i H bx,aR dY.p rfl];obtain⟨⟨X,aD,aH⟩,I,_⟩:=pk G H R S;refine pa (f:=gM) (j:=0) (a:=⟨c.v,st⟩) (a':=⟨x,st⟩) al.i rfl rfl H ah rfl Ω λq B bA bB=>?_;exact bw q (B.mono λr _ e=>W r (.inl e)) ⟨aA,M,go,cQ,aV,Q,cV,G.V B X,bB,R.V B λr e he=>(I r he).1 e,S.V B λr e he=>(I r he).2 e,W⟩
 refine dd (λU=>∃aE bi st,Grow A J aE U/\cW U ac aE bi/\bi.cells[i]?=σ ⟨c.v,st⟩/\t.set i x={bi with cells:=bi.cells.set i ⟨x,st⟩}) ?_ ?_
 .rintro U ⟨aE,bi,st,bD,ay,ah,aI⟩;refine bp ay ah λq B av=>⟨by trivial,aE,?_,by rw[aI];exact av⟩;exact(Grow.ext L).trans (bD.trans ⟨B,λ_ h=>.inl h,λ_ h=>h⟩)
 intro ax aJ;rw[aG cO.p 2 h1 rfl,ez iB.u ab,bP,aj];have a1:∀(hm:t.marks.getLast? =ν\/∃m,t.marks.getLast? =σ m/\¬(c.st<m.st/\i<m.cells)),t.set i x={t with cells:=t.cells.set i ⟨x,c.st⟩}:=λhm=>by
  unfold aw.set;rw[E];rcases hm with hm|⟨m,hm,bE⟩
  .simp only[hm]
  .simp only[hm];rw[if_neg bE]
 refine⟨λb0=>?_,λb1=>aJ _ ⟨A,t,c.st,Grow.refl _ _,h.ext L,E,a1 (.inl ?_)⟩⟩
 rotate_left
 .rw[List.getLast?_eq_none_iff];exact j4 Ω
 obtain⟨m,hm⟩:=aF (l:=t.marks) (i:=t.marks.length-1) Ω;have a2:t.marks.getLast? =σ m:=by rw[List.getLast?_eq_getElem?];exact hm
 have b2:=au.2.2;rw[aG cO.p 2 h1 rfl,dD,wrap_i64 Ω Ω,dj (i:=t.marks.length-1) Ω iB.u dJ.i ab Ω,bH dJ.p dJ.i rfl (ab.range hm)];refine bz dJ.i λak U b3 a6 bF=>?_;refine b6 (vs:=h3 m) dJ.i rfl rfl (by intro v Y;simp[h3]at Y;rcases Y with rfl|rfl|rfl<;>rfl) bF λq B bA bG=>?_;have a7:Ext J q:=a6.put B Ω;have am:∀{w':x3},Ext q w'->ad w' ak dJ (h3 m):=λL=>bG.ext L;refine aT (λv aK=>v= .bool (decide (c.st<m.st/\i<m.cells))/\Ext q aK) ?_ ?_
 rotate_left
 .intro b4 a8;intro aK s _ _;have N:=a7.trans s;have bb:=am s;have O:=aZ.ext N;rw[aG cO.p 0 (h1.ext N) rfl,dj rfl gH.u dY.i O P,aR dY.p rfl,aB Ψ (O.range E 1 _ rfl),aL dJ.p 2 bb rfl,aQ,aj];refine⟨λbc=>?_,λbd=>a8 _ _ ⟨by rw[decide_eq_false];omega,s⟩⟩;rw[aL dJ.p 1 bb rfl,aQ];refine a8 _ _ ⟨?_,s⟩;congr 1;rw[U1,decide_eq_true_eq,decide_eq_true_eq];exact⟨λh=>⟨Ω,Ω⟩,λh=>Ω⟩
 rintro _ aK ⟨rfl,s⟩;have N:=a7.trans s;rw[aj];refine⟨λbc=>?_,λbd=>aJ _ ⟨A,t,c.st,Grow.ext N,(h.ext L).ext N,E,a1 (.inr ⟨m,a2,bd⟩)⟩⟩;intro b5 an _ _;have Z:=N.trans an;have aM:=h1.ext Z;have O:=aZ.ext Z;have bI:=av.ext Z;have bK:=ab.ext Z;rw[bJ,aR cO.p rfl,aB Ψ (aM.cell (o:=0+1) rfl),bJ,aR cO.p rfl,aB Ψ (aM.cell (o:=0+0) rfl),dj rfl gH.u dY.i O P,bH dY.p dY.i rfl (O.range E)];rw[dh (cs:=#[Δ (i:Int),Δ c.v,.int .u64 (c.st:Int)]) Ψ];let a:kp:=⟨i,c⟩;have bL:∀u∈iS a,u.oneCell'=true:=by intro v Y;simp[iS]at Y;rcases Y with rfl|rfl|rfl<;>rfl
 refine h2 (f:=iS) (a:=a) hs.u fO.i Ω rfl rfl λb7 b8 be b9 z bM=>?_;refine⟨.inl z,?_⟩;have bf:=Z.trans z;have aN:=aM.ext z;have bg:=O.ext z;have aO:=bI.ext z;have bh:=bK.ext z;obtain⟨⟨X,aD,aH⟩,I,bO⟩:=pk aN bg aO bh;refine ik (f:=iS) (a:=a) hs.u fO.i rfl aO (by simpa using bM.sl) bL (by have:=au.2.1;omega) (by have:=au.2.1;omega) λaP bj ca ao bQ bl=>?_;rw[bJ,aR cO.p rfl];have bm:=aN.V bl aD;refine bk hs.i (dp ao.sl).1 (dp ao.sl).2 bm Ξ λC bn cb aS=>?_;have aS:ad C ac cO [aV,aP,cV,.int .u64 (t.ever:Int)]:=aS;have ap:ae (λr=>leadsTo Q r\/r=ac) be C:=(bl.mono λr _ h=>.inl h).trans (bn.mono λr _ h=>.inr h);have bR:ba gM 2 dY C M aV t.cells:=bg.V ap λr e he=>he.elim (λhe=>(I r e).1 he) λhe=>X (he▸e);have bS:ba h3 3 dJ C cQ cV t.marks:=bh.V ap λr e he=>he.elim (λhe=>(bO r he).2 e) λhe=>aH (he▸e);have bT:ba iS 3 fO C bj aP (t.olds++[a]):=ao.V bn λr e he=>by
  have he:r=ac:=he;subst he;exact cC ao bm Φ e
 have cc:=bf.size;have cd:=a6.size;let aW:af:=λr=>A r\/be.heap.size<=r;have bU:Grow A J aW C:=⟨(bf.V A).trans (ap.mono λr _ he=>he.elim (λhe=>ag r (.inr (.inl he))) λhe=>he▸aY),λr e=>e.imp id λe=>Ω,λr e=>.inl e⟩;have bV:cW C ac aW {t with olds:=t.olds++[a]}:=⟨.inl aY,M,bj,cQ,aV,aP,cV,aS,bR,bT,bS,λr e=>by
  rcases e with e|e|e
  .exact .inl (ag r (.inl e))
  .rcases bQ r e with h|h
   .exact .inl (ag r (.inr (.inl h)))
   .exact .inr h
  .exact .inl (ag r (.inr (.inr e)))⟩
 have bW:ad C ak dJ (h3 m):=(am ((s.trans an).trans z)).V ap λhe=>by
  rcases he with he|he
  .obtain⟨rfl,ce,bX⟩:=ef aO he;exact absurd (ep bX (am ((s.trans an).trans z))) Φ
  .subst he;exact absurd (ep aN (am ((s.trans an).trans z))) Φ
 intro cg aX _ _;have bY:=bV.ext aX;obtain⟨aA,M,go,cQ,aV,Q,cV,G,H,R,S,W⟩:=bY;rw[aG cO.p 0 G rfl,aL dJ.p 2 (bW.ext aX) rfl,dj rfl gH.u dY.i H P,aR dY.p rfl];obtain⟨⟨X,aD,aH⟩,I,_⟩:=pk G H R S;refine pa (f:=gM) (j:=1) (a:=c) (a':=⟨c.v,m.st⟩) fj.i rfl rfl H E rfl Ω λch aq ci bZ=>?_;have aI:t.set i x={t with olds:=t.olds++[a],cells:=t.cells.set i ⟨x,m.st⟩}:=by
  unfold aw.set;rw[E];simp only[a2];rw[if_pos bc]
 refine aJ _ ⟨aW,{t with olds:=t.olds++[a],cells:=t.cells.set i ⟨c.v,m.st⟩},m.st,bU.trans ((Grow.ext aX).trans ⟨aq.mono λr _ e=>W r (.inl e),λ_ h=>.inl h,λ_ h=>h⟩),⟨aA,M,go,cQ,aV,Q,cV,G.V aq X,bZ,R.V aq λr e he=>(I r he).1 e,S.V aq λr e he=>(I r he).2 e,W⟩,?_,?_⟩
 .show (t.cells.set i _)[i]?=_;rw[Z0 P]
 .rw[aI];simp only[List.set_set]
theorem CG(n:Nat):dP (#[Δ 0,.int .u64 0]:Array x1) (n*2)=(p9 n (⟨0,0⟩:Cell)).flatMap gM:=by
 have:∀n,dP (#[Δ 0,.int .u64 0]:Array x1) (n*2)=(p9 n (⟨0,0⟩:Cell)).flatMap gM:=by
  intro n;apply X2;intro j;have r:((p9 n (⟨0,0⟩:Cell)).flatMap gM).length=n*2:=by simp[gM]
  by_cases p:j<n*2
  .have q:(dP (#[Δ 0,.int .u64 0]:Array x1) (n*2))[j]?=σ (if j % 2=0 then Δ 0 else .int .u64 0):=by
    unfold dP;rw[S8,Array.getElem?_map,Array.getElem?_range,if_pos p];rcases Nat.mod_two_eq_zero_or_one j with h|h<;>simp[h]
   have e:=nR (f:=gM) (k:=2) (L:=p9 n (⟨0,0⟩:Cell)) (i:=j / 2) (j:=j % 2) (a:=⟨0,0⟩) (v:=if j % 2=0 then Δ 0 else .int .u64 0) (λa _=>rfl) (by rw[List.getElem?_replicate,if_pos Ω]) (by rcases Nat.mod_two_eq_zero_or_one j with h|h<;>simp[h,gM]);rw[show j / 2*2+j % 2=j by omega]at e;rw[q,e]
  .rw[Y0 (by rw[oL];omega),Y0 Ω]
 exact this n
theorem Nh{A:af}{t:aw}(h:cW w ac A t)(S:lb t)(ab:n<=100000000):ai x7 HJ [Γ ac,Δ (n:Int)] w λv w'=>v=Δ (t.cells.length:Int)/\∃aE,Grow A w aE w'/\cW w' ac aE (t.grow n):=by
 refine az func195 ?_;refine(CE h).mono ?_;rintro _ J _ ⟨rfl,f⟩;refine dd (λU=>∃aE,Grow A w aE U/\cW U ac aE (t.grow n)) (λU h=>⟨rfl,h⟩) ?_;intro ax B;refine aT (λv U=>v= .bool (decide (0<n))/\J=U) ?_ ?_
 rotate_left
 .intro ag W;rw[zn kS.u];simp only[j9,W5,bL];rw[bP];refine W _ _ ⟨?_,rfl⟩;congr 1;rw[U1,decide_eq_true_eq,decide_eq_true_eq];omega
 rintro _ _ ⟨rfl,rfl⟩;rw[aj];refine⟨λC=>?_,λC=>B _ ⟨A,Grow.ext f,?_⟩⟩
 rotate_left
 .have:n=0:=Ω
  subst this;have e:t.grow 0=t:=by unfold aw.grow;simp
  rw[e];exact h.ext f
 obtain⟨E,ak,go,cQ,aV,G,cV,h1,H,I,K,j⟩:=id (h.ext f);rw[aG cO.p 0 h1 rfl];obtain⟨⟨X,Y,Z⟩,L,al⟩:=pk h1 H I K;have am:=S.1;refine Nf (k:=2) (m:=n) rfl gH.u ah.u dY.i rfl Ω (λu hu=>?_) H.1 C Ω Ω λs M U N aa O=>?_
 .exact Co Φ Φ u hu
 rw[bJ,aR cO.p rfl];have q:ba gM 2 dY U M s (t.cells++p9 n ⟨0,0⟩):=by
  refine⟨?_,λ_ _=>rfl⟩;have e:(x1.agg #[Δ 0,.int .u64 0]).cells= #[Δ 0,.int .u64 0]:=rfl;rw[e,CG]at N;rw[r8,List.length_replicate,List.flatMap_append];exact N
 have P:=h1.V O X;refine bk gH.i (dp q.sl).1 (dp q.sl).2 P Ξ λQ R an x=>?_;have x:ad Q ac cO [s,G,cV,.int .u64 (t.ever:Int)]:=x;have y:ae (λr=>leadsTo aV r\/r=ac) J Q:=(O.mono λr _ h=>.inl h).trans (R.mono λr _ h=>.inr h);have z:=f.size;refine B _ ⟨λr=>A r\/J.heap.size<=r,(Grow.ext f).trans ⟨y.mono λr _ he=>he.elim (λhe=>j r (.inl he)) λhe=>he▸E,λr a=>a,λr a=>.inl a⟩,.inl E,M,go,cQ,s,G,cV,x,q.V R λr a he=>?_,I.V y λr a he=>he.elim (λhe=>(L r he).1 a) λhe=>Y (he▸a),K.V y λr a he=>he.elim (λhe=>(L r he).2 a) λhe=>Z (he▸a),λr a=>?_⟩
 .have he:r=ac:=he;subst he;exact cC q P Φ a
 .rcases a with a|a|a
  .exact (aa r a).imp (λh=>j r (.inl h)) id
  .exact .inl (j r (.inr (.inl a)))
  .exact .inl (j r (.inr (.inr a)))
theorem Ni(s:n<=1000):ai x7 GV [Δ (n:Int)] w λv w'=>Ext w w'/\∃ac,v=Γ ac/\cW w' ac (eK w.heap.size) ⟨p9 n ⟨0,0⟩,[],[],0⟩:=by
 refine az func127 ?_;rw[uW,Int.max_eq_left Ω];refine zu (k:=2) gH.u dY.i Ω Ω λg J x h f=>?_;rw[dh (cs:=#[.slice (σ ⟨g,0,ν⟩) n n,.slice ν 0 0,.slice ν 0 0,.int .u64 0]) Ψ];refine bj λac U y j q=>?_;have z:=h.size;have e:(x1.agg #[Δ 0,.int .u64 0]).cells= #[Δ 0,.int .u64 0]:=rfl;have f:ad J g dY ((p9 n (⟨0,0⟩:Cell)).flatMap gM):=by rw[<-CG,<-e];exact f
 have p:ba gM 2 dY J g (.slice (σ ⟨g,0,ν⟩) n n) (p9 n ⟨0,0⟩):=by
  refine⟨?_,λ_ _=>rfl⟩;rw[List.length_replicate];exact bW.full f (by simp[gM]) (by simp[maxLen];omega)
 refine⟨h.trans j,ac,rfl,by show w.heap.size<=ac;omega,g,0,0,_,_,_,q,p.ext j,ba.nil _ _ _ _ _,ba.nil _ _ _ _ _,λr a=>?_⟩;rcases a with a|a|a
 .have:=(p.leads a).1;show w.heap.size<=r;omega
 .exact (fq a).elim
 .exact (fq a).elim
theorem nA{α β:Type}{f:α->List β}:∀{L:List α}{i j:Nat}{a:α},L[i]?=σ a->j<(f a).length->(L.flatMap f)[((L.take i).flatMap f).length+j]?=(f a)[j]?
 |x::L,0,j,a,h,e=>by
  cases h;rw[List.take_zero,List.flatMap_nil,List.length_nil,X6,W0,Y1 e]
 |x::L,i+1,j,a,h,e=>by
  have h:L[i]?=σ a:=by simpa using h
  rw[List.take_succ_cons,W0,W0,r8,S6,Y2 Ω,S3,nA h e]
theorem wh{α β:Type}{f:α->List β}:∀{L:List α}{i j:Nat}{a b:α}{x:β},L[i]?=σ a->j<(f a).length->f b=(f a).set j x->(L.flatMap f).set (((L.take i).flatMap f).length+j) x=(L.set i b).flatMap f
 |y::L,0,j,a,b,x,h,e,p=>by
  cases h;rw[List.take_zero,List.flatMap_nil,List.length_nil,X6,W0,List.set_cons_zero,W0,p,List.set_append_left _ _ e]
 |y::L,i+1,j,a,b,x,h,e,p=>by
  have h:L[i]?=σ a:=by simpa using h
  rw[List.take_succ_cons,W0,W0,r8,S6,S0 _ _ Ω,S3,wh h e p,List.set_cons_succ,W0]
theorem CH{α β:Type}{f:α->List β}{L:List α}{i:Nat}{a:α}(h:L[i]?=σ a)(e:j<(f a).length):((L.take i).flatMap f).length+j<(L.flatMap f).length:=by
 have h1:=nA (f:=f) h e;rw[x6 e]at h1;exact(x4.1 h1).1
structure bq where
 gone:Int
 mask:Int
 un:Λ
structure cL where
 sc:Λ
 ag:Λ
 live:Int
 cs:Λ
structure tc where
 v:Int
 sc:Λ
 pi:Λ
structure am where
 zero:Int
 vars:List bq
 funs:List cL
 c5:List tc
def fX(x:bq):Λ:=x.gone::x.mask::x.un
def gx(x:cL):Λ:=x.live::x.cs
def ip(s:am):Λ:=[s.zero,(s.funs.length:Int),(s.c5.length:Int)]
def am.cells(s:am):Λ:=ip s++(s.vars.flatMap fX++s.funs.flatMap gx)
def fa(s:am)(i:Nat):Nat:=3+((s.vars.take i).flatMap fX).length
def eN(s:am)(j:Nat):Nat:=3+((s.vars.flatMap fX).length+((s.funs.take j).flatMap gx).length)
theorem Nj(s:am):s.cells[0]?=σ s.zero:=rfl
theorem Nk(s:am):s.cells[1]?=σ (s.funs.length:Int):=rfl
theorem Nl(s:am):s.cells[2]?=σ (s.c5.length:Int):=rfl
theorem pm{s:am}{i:Nat}{x:bq}(h:s.vars[i]?=σ x)(e:j<x.un.length+2):s.cells[fa s i+j]?=(fX x)[j]?:=by
 have a:j<(fX x).length:=e;unfold am.cells fa;rw[S6,Y2 (by simp[ip]),show(ip s).length=3 from rfl,S3,Y1 (CH h a),nA h a]
theorem wi{s:am}{i:Nat}{x:cL}(h:s.funs[i]?=σ x)(a:j<x.cs.length+1):s.cells[eN s i+j]?=(gx x)[j]?:=by
 have e:j<(gx x).length:=a;unfold am.cells eN;rw[S6,S6,Y2 (by simp[ip]),show(ip s).length=3 from rfl,S3,Y2 Ω,S3,nA h e]
theorem Nn(s:am)(c:Int):s.cells.set 0 c=({s with zero:=c}:am).cells:=rfl
theorem CI{s:am}{i:Nat}{x y:bq}{c:Int}(h:s.vars[i]?=σ x)(e:j<x.un.length+2)(f:fX y=(fX x).set j c):s.cells.set (fa s i+j) c=({s with vars:=s.vars.set i y}:am).cells:=by
 have a:j<(fX x).length:=e;unfold am.cells fa;rw[S6,S0 _ _ (by simp[ip]),show(ip s).length=3 from rfl,S3,List.set_append_left _ _ (CH h a),wh h a f];rfl
theorem No{s:am}{i:Nat}{x y:cL}{c:Int}(h:s.funs[i]?=σ x)(a:j<x.cs.length+1)(e:gx y=(gx x).set j c):s.cells.set (eN s i+j) c=({s with funs:=s.funs.set i y}:am).cells:=by
 have f:j<(gx x).length:=a;unfold am.cells eN;rw[S6,S6,S0 _ _ (by simp[ip]),show(ip s).length=3 from rfl,S3,S0 _ _ Ω,S3,wh h f e];show _=ip {s with funs:=s.funs.set i y}++_;unfold ip;rw[Z6]
theorem Np{s:am}(x:cL):(s.cells++gx x).set 1 ((s.funs.length+1:Nat):Int)=({s with funs:=s.funs++[x]}:am).cells:=by
 unfold am.cells;simp only[List.flatMap_append,List.flatMap_singleton,ip,r8,U9,X9];rfl
theorem wj(s:am):s.cells.length=3+((s.vars.flatMap fX).length+(s.funs.flatMap gx).length):=by
 unfold am.cells;rw[r8,r8];rfl
def qI(a sc:Λ):Λ:=sc.map λv=>a.getD v.toNat 0
def qJ(k:Int)(a:Int)(p:bq×Int):Int:=if p.1.gone≠0 then a else min (a+p.1.un.getD p.2.toNat 0) k
def qK(k:Int)(a:Λ)(e:Int)(f:cL):Int:=if f.live≠0 then min (e+bn f.ag f.cs (qI a f.sc)) k else e
def dropped(mask:Int)(v:Int):Bool:=mask.toNat.testBit v.toNat
def iq(p:bq×Int):Bool:=decide (p.1.gone≠0)|| !dropped p.1.mask p.2
def gA(k:Int)(s:am)(a:Λ):Int:=if(s.vars.zip a).all iq then s.funs.foldl (qK k a) ((s.vars.zip a).foldl (qJ k) s.zero)else k
def jt(s:am)(a:Λ):Prop:=a.length=s.vars.length/\∀(i:Nat)x v,s.vars[i]?=σ x->a[i]?=σ v->x.gone≠0\/(0<=v/\v<x.un.length)
structure bh(k:Int)(sizes:Λ)(s:am):Prop where
 fI:1<=k/\k<=2147483648
 eO:1<=sizes.length/\sizes.length<=64/\∀z∈sizes,1<=z/\z<=32
 zero:0<=s.zero/\s.zero<=k
 vars:s.vars.length=sizes.length
 var:∀(i:Nat)x z,s.vars[i]?=σ x->sizes[i]?=σ z->x.un.length=z.toNat/\(∀c∈x.un,0<=c/\c<=k)/\0<=x.mask/\x.mask<4294967296
 funs:∀f∈s.funs,fG sizes k (f.sc,f.cs)/\f.ag=bV sizes f.sc/\2<=f.sc.length
def newVar(u:Λ):bq:=⟨0,0,u⟩
def ky(sizes:Λ)(g:cE):cL:=⟨g.1,bV sizes g.1,1,g.2⟩
def dq(n:aI):am:=⟨n.zero,n.unary.map newVar,n.funs.map (ky n.sizes),[]⟩
theorem Nq{n:aI}(h:jV n):bh n.k n.sizes (dq n):=by
 refine⟨h.k,h.sizes,h.zero,by simp[dq,h.kx],λi x z a j=>?_,λf p=>?_⟩
 .have a:(n.unary.map newVar)[i]?=σ x:=a;rw[x8]at a;obtain⟨u,hu,rfl⟩:=Y9.1 a;obtain⟨h1,e⟩:=h.unary i z u j hu;exact⟨h1,e,Int.le_refl _,by show(0:Int)<_;omega⟩
 .obtain⟨g,q,rfl⟩:=l9.1 p;obtain⟨h1,e⟩:=h.funs g q;exact⟨h1,rfl,e⟩
theorem wk{n:aI}(h:fW w a n):ai x7 GD [Γ a] w λv w'=>v=Δ (n.sizes.length:Int)/\Ext w w':=by
 obtain⟨j,q,r,s,gr,aS,L,nm,szv,gz,fv2,h1,e,f,x,y,z,A⟩:=h;refine az func93 ?_;rw[cP mn.u];simp only[j9,aU];rw[aG fA.p 0 h1 rfl,aG cv.p 2 e rfl,aW ap.u f.ls];exact⟨rfl,Ext.refl _⟩
theorem Nr{n:aI}(h:fW w a n):ai x7 HT [Γ a] w λv w'=>v=Δ n.k/\Ext w w':=by
 obtain⟨f,j,q,r,gr,aS,L,nm,szv,gz,fv2,h1,e,s,x,y,z,A⟩:=h;refine az func208 ?_;rw[cP mn.u];simp only[j9,aU];rw[aG fA.p 0 h1 rfl,aG cv.p 1 e rfl];exact⟨rfl,Ext.refl _⟩
theorem Ns{n:aI}(h:fW w a n):ai x7 GW [Γ a] w λv w'=>v=Δ n.zero/\Ext w w':=by
 obtain⟨e,f,j,q,gr,aS,L,nm,szv,gz,fv2,h1,r,s,x,y,z,A⟩:=h;refine az func129 ?_;rw[cP mn.u];simp only[j9,aU];rw[aG fA.p 1 h1 rfl];exact⟨rfl,Ext.refl _⟩
theorem CJ{n:aI}(h:fW w a n):ai x7 y0 [Γ a] w λv w'=>v=Δ (n.funs.length:Int)/\Ext w w':=by
 obtain⟨j,q,r,s,gr,aS,L,nm,szv,gz,fv2,h1,x,y,z,A,e,f⟩:=h;refine az func132 ?_;rw[cP mn.u];simp only[j9,aU];rw[aG fA.p 3 h1 rfl,ez kT.u e.1];exact⟨by rw[<-f,u9],Ext.refl _⟩
theorem CK{s:Nat}{n:aI}{i:Int}(h:fW w s n)(f:jV n):ai x7 GX [Γ s,Δ i] w λv w'=>Ext w w'/\(¬(0<=i/\i<n.sizes.length)->v= .slice ν 0 0)/\
  ∀u,0<=i->n.unary[i.toNat]?=σ u->∃g,w.heap.size<=g/\aq .i64 al w' g v u:=by
 refine az func130 ?_;have K:=f.kx;refine aT (λv J=>v= .bool (decide (¬(0<=i/\i<n.sizes.length)))/\Ext w J) ?_ ?_
 .rintro _ J ⟨rfl,e⟩;rw[aj];refine⟨λC=>⟨e,λ_=>rfl,λu E hu=>?_⟩,λj=>?_⟩
  .have:=(x4.1 hu).1;exact absurd ⟨E,Ω⟩ C
  have j:0<=i/\i<n.sizes.length:=X3.1 j;obtain⟨M,N,O,P,gr,aS,L,nm,szv,gz,fv2,h1,Q,R,q,x,S,V⟩:=h.ext e;have W:aS.length=n.unary.length:=by rw[<-x,u9]
  obtain⟨a,r⟩:=aF (l:=aS) (i:=i.toNat) Ω;obtain⟨X,hm⟩:=q.2 a (x5 r);rw[aG fA.p 2 h1 rfl,dj (i:=i.toNat) Ω ei.u au.i q.1 Ω,aB (o:=i.toNat*1) Ψ (q.1.range r 0 _ rfl)];have y:n.unary[i.toNat]?=σ a.l:=by rw[<-x,x8,r];rfl
  have Y:a.l.length<=32:=by
   obtain⟨z,A⟩:=aF (l:=n.sizes) (i:=i.toNat) Ω;have Z:=(f.unary i.toNat z a.l A y).1;have aa:=f.sizes.2.2 z (x5 A);omega
  refine(u2 hm.ls Ω).mono ?_;rintro v U _ ⟨G,g,ab,H⟩;refine⟨e.trans G,λI=>absurd j I,λu _ hu=>⟨g,by have:=e.size;omega,?_⟩⟩;rw[y]at hu;cases hu;exact H
 .intro ax B;rw[aQ,aj];refine⟨λac=>B _ _ ⟨by rw[decide_eq_true];omega,Ext.refl _⟩,λad=>?_⟩;refine(wk h).mono ?_;rintro _ J _ ⟨rfl,e⟩;rw[cI];refine B _ _ ⟨?_,e⟩;congr 1;rw[U1,decide_eq_true_eq,decide_eq_true_eq];omega
theorem CL{n:aI}{i:Int}(h:fW w j n)(a:jV n):ai x7 Gk [Γ j,Δ i] w λv w'=>Ext w w'/\v=Δ (if 0<=i then n.sizes.getD i.toNat 0 else 0):=by
 refine az func67 ?_;refine(CK h a).mono ?_;rintro v J _ ⟨p,r,s⟩;by_cases e:0<=i/\i<n.sizes.length
 .have x:=a.kx;obtain⟨u,hu⟩:=aF (l:=n.unary) (i:=i.toNat) Ω;obtain⟨z,f⟩:=aF (l:=n.sizes) (i:=i.toNat) Ω;obtain⟨g,_,hm⟩:=s u e.1 hu;rw[aW au.u hm.ls];refine⟨p,?_⟩;have y:=(a.unary i.toNat z u f hu).1;have A:=a.sizes.2.2 z (x5 f);rw[if_pos e.1,v8,f];congr 1;simp only[V8];omega
 .rw[r e,hy au.u];refine⟨p,?_⟩;by_cases q:0<=i
  .rw[if_pos q,v8,Y0 Ω];rfl
  .rw[if_neg q];rfl
theorem CM{n:aI}{j:Int}(h:fW w a n){K:x1->x3->Prop}(f:∀w',Ext w w'->K (.bool (decide (¬(0<=j/\j<n.funs.length)))) w'):
  aa x7 (aJ .lss ah false true (Δ j) (Δ 0)) w λq=>Split q (K (.bool true) w) (ai x7 y0 [Γ a] w λr p=>aa x7 (aJ .geq ah false false (Δ j) r) p λs=>K s p):=by
 rw[aQ,aj];refine⟨λy=>?_,λz=>?_⟩
 .have:=f w (Ext.refl _);rw[decide_eq_true (show¬(0<=j/\j<n.funs.length) by omega)]at this;exact this
 .refine (CJ h).mono ?_;rintro _ J _ ⟨rfl,x⟩;rw[cI];have:=f J x;have e:decide ((n.funs.length:Int)<=j)=decide (¬(0<=j/\j<n.funs.length)):=by
   rw[U1,decide_eq_true_eq,decide_eq_true_eq];omega
  rw[<-e]at this;exact this
theorem Nt{s:Nat}{n:aI}{g:cE}(h:fW w s n)(z:jV n)(e:n.funs[j]?=σ g):ai x7 GZ [Γ s,Δ (j:Int)] w λv w'=>Ext w w'/\∃gs,w.heap.size<=gs/\aq .i64 ah w' gs v g.1:=by
 refine az func134 ?_;have G:=(x4.1 e).1;refine aT (λv J=>v= .bool (decide (¬(0<=(j:Int)/\(j:Int)<n.funs.length)))/\Ext w J) ?_ λax A=>CM h λw' B=>A _ _ ⟨rfl,B⟩;rintro _ J ⟨rfl,f⟩;rw[decide_eq_false Ω,aU];obtain⟨H,I,K,M,gr,aS,L,nm,szv,gz,fv2,h1,N,O,P,Q,q,x⟩:=h.ext f;have R:L.length=n.funs.length:=by rw[<-x,u9]
 obtain⟨a,r⟩:=aF (l:=L) (i:=j) Ω;have y:dU a=g:=by rw[<-x,x8,r]at e;exact Z2 e
 obtain⟨⟨S,hm⟩,_⟩:=q.2 a (x5 r);rw[aG fA.p 3 h1 rfl,dj rfl kT.u hv.i q.1 Ω,aR hv.p rfl,aB Ψ (q.1.range r 0 _ rfl)];have V:a.sc.length<=6:=by
  have:=(z.funs g (x5 e)).1.scope.2;rw[<-y]at this;exact this
 refine(kX hm.ls Ω).mono ?_;rintro v U _ ⟨C,gs,W,E⟩;refine⟨f.trans C,gs,by have:=f.size;omega,?_⟩;rw[<-y];exact E
theorem Nu{g C:Nat}{ag:Λ}{k:Int}{cs:Λ}(h:c8 w g C sv ag k cs):ai x7 HL [Γ g] w λv w'=>Ext w w'/\∃a e,v=Γ a/\w.heap.size<=a/\w.heap.size<=e/\c8 w' a e sv ag k cs:=by
 obtain⟨⟨aV,gs,E,hm,G⟩,⟨h1,M,H⟩,I,y⟩:=h;refine az func197 ?_;rw[cP eT.u];simp only[j9,aU];intro J f _ _;have r:=E.ext f;have N:=prod_bound I;rw[bJ,aR cU.p rfl,bH (cs:=[sv]) bu.p bu.i rfl (nF r (by
  intro j v s
  match j,s with
  |0,s=>exact s)),aG cU.p 1 r rfl,aG cU.p 2 r rfl]
 refine(u2 (G.ls.ext f) Ω).mono ?_;rintro z U _ ⟨x,e,O,q⟩;refine⟨.inl x,?_⟩;rw[dh (cs:=#[sv,Δ k,z]) (by obtain⟨_,_,_,rfl⟩:=dg hm.ls;obtain⟨_,_,_,rfl⟩:=dg q.ls;kernel_rfl)];refine bj λa P Q A K=>?_;have R:=f.size;have S:=x.size;have V:=q;have B:=(f.trans x).trans A;refine⟨B,a,e,rfl,Ω,Ω,⟨z,gs,K,hm.ext B,q.ext A⟩,⟨?_,?_,H⟩,I,y⟩
 .have:=sS q (by rw[y];omega);omega
 .intro L;obtain⟨W,X⟩:=bO hm L;omega
theorem Nv{w0:x3}{z:Nat}{n:aI}{g:cE}(A:fW w0 z n)(B:Ext w0 w)(f:n.funs[j]?=σ g):ai x7 G0 [Γ z,Δ (j:Int)] w λv w'=>Ext w w'/\∃gt q sv,v=Γ gt/\w.heap.size<=gt/\w.heap.size<=q/\c8 w' gt q sv (bV n.sizes g.1) n.k g.2/\∀r,leads sv r->∃c,ad w0 r ah c:=by
 have h:=A.ext B;refine az func135 ?_;have W:=(x4.1 f).1;refine aT (λv J=>v= .bool (decide (¬(0<=(j:Int)/\(j:Int)<n.funs.length)))/\Ext w J) ?_ λax I=>CM h λw' K=>I _ _ ⟨rfl,K⟩;rintro _ J ⟨rfl,s⟩;rw[decide_eq_false Ω,aU];have e:=B.trans s;obtain⟨X,Y,Z,aa,gr,aS,L,nm,szv,gz,fv2,h1,ab,ac,ae,af,x,C⟩:=A;have ag:L.length=n.funs.length:=by rw[<-C,u9]
 obtain⟨a,y⟩:=aF (l:=L) (i:=j) Ω;have M:dU a=g:=by rw[<-C,x8,y]at f;exact Z2 f
 obtain⟨_,q,N,E⟩:=x.2 a (x5 y);rw[aG fA.p 3 (h1.ext e) rfl,dj rfl kT.u hv.i (x.1.ext e) Ω,aR hv.p rfl,aB Ψ ((x.1.ext e).range y 1 _ rfl)];refine(Nu (E.ext e)).mono ?_;rintro v U _ ⟨O,gt,P,rfl,aj,ak,Q⟩;have al:=s.size;refine⟨s.trans O,gt,P,N,rfl,Ω,Ω,?_,λr G=>?_⟩
 .rw[<-M];exact Q
 .obtain⟨⟨_,_,_,hm,_⟩,_⟩:=E;obtain⟨R,_⟩:=bO hm G;rcases hm.2 with⟨S,_⟩|⟨_,cs,_,V,_⟩
  .obtain⟨_,_,_,H,am⟩:=G;rw[S]at H;cases H
  .exact⟨cs,R▸V⟩
structure pn where
 aN:x1
 szv:x1
 at_:Nat
def l0(x:pn):List x1:=[x.aN,x.szv,Δ (x.at_:Int)]
structure qL where
 v:Int
 aN:x1
 bv:x1
def wm(x:qL):List x1:=[Δ x.v,x.aN,x.bv]
def hf(s:am):Λ:=(V0 s.vars.length).map λi=>(fa s i:Int)
def iT(R:af)(w:x3)(v:x1)(l:Λ):Prop:=(∃g,aq .i64 ah w g v l)/\∀r,leads v r->R r
theorem iT.ls{R:af}(h:iT R w v l):aH .i64 w v l:=by
 obtain⟨⟨g,h⟩,_⟩:=h;exact h.ls
theorem iT.V{R S:af}(h:iT R w v l)(f:ae S w w')(j:∀r,r<w.heap.size->R r->¬S r):iT R w' v l:=by
 obtain⟨⟨g,h1⟩,a⟩:=h;exact⟨⟨g,bo h1 f λr e=>j r (by obtain⟨p,q⟩:=bO h1 e;omega) (a r e)⟩,a⟩
theorem iT.mono{R R':af}(h:iT R w v l)(a:∀r,R r->R' r):iT R' w v l:=⟨h.1,λr e=>a r (h.2 r e)⟩
def ld(R:af)(w:x3)(L:List pn)(s:am):Prop:=L.length=s.funs.length/\∀(j:Nat)x f,L[j]?=σ x->s.funs[j]?=σ f->iT R w x.aN f.sc/\iT R w x.szv f.ag/\x.at_=eN s j
def l1(R:af)(w:x3)(E:List qL)(s:am):Prop:=E.length=s.c5.length/\∀(j:Nat)x e,E[j]?=σ x->s.c5[j]?=σ e->x.v=e.v/\iT R w x.aN e.sc/\iT R w x.bv e.pi
theorem ld.V{R S:af}{L:List pn}{s:am}(h:ld R w L s)(a:ae S w w')(e:∀r,r<w.heap.size->R r->¬S r):ld R w' L s:=⟨h.1,λj x f p q=>by
 obtain⟨h1,y,z⟩:=h.2 j x f p q;exact⟨h1.V a e,y.V a e,z⟩⟩
theorem l1.V{R S:af}{E:List qL}{s:am}(h:l1 R w E s)(a:ae S w w')(e:∀r,r<w.heap.size->R r->¬S r):l1 R w' E s:=⟨h.1,λj x f p q=>by
 obtain⟨h1,y,z⟩:=h.2 j x f p q;exact⟨h1,y.V a e,z.V a e⟩⟩
theorem ld.mono{R R':af}{L:List pn}{s:am}(h:ld R w L s)(a:∀r,R r->R' r):ld R' w L s:=⟨h.1,λj x f e p=>by
 obtain⟨h1,q,y⟩:=h.2 j x f e p;exact⟨h1.mono a,q.mono a,y⟩⟩
theorem l1.mono{R R':af}{E:List qL}{s:am}(h:l1 R w E s)(a:∀r,R r->R' r):l1 R' w E s:=⟨h.1,λj x f e p=>by
 obtain⟨h1,q,y⟩:=h.2 j x f e p;exact⟨h1,q.mono a,y.mono a⟩⟩
theorem qM{a b c:x3}(h:Ext a b)(k:ae S b c)(f:∀r o,a.heap[r]?=σ o->fw o=true->¬S r):Ext a c:=
 ⟨Y5 h.size k.size,λr o e I=>k.aY r o (h.aY r o e I) I (f r o e I)⟩
theorem cW.cut{A:af}{t:aw}(h:cW w ac A t):cW w ac (λr=>A r/\r<w.heap.size) t:=by
 obtain⟨s,x,go,cQ,aV,y,cV,h1,e,f,j,z⟩:=h;refine⟨⟨s,h1.lt⟩,x,go,cQ,aV,y,cV,h1,e,f,j,λr a=>⟨z r a,?_⟩⟩;rcases a with a|a|a
 .obtain⟨p,q⟩:=e.leads a;omega
 .obtain⟨p,q⟩:=f.leads a;omega
 .obtain⟨p,q⟩:=j.leads a;omega
def eF(w:x3)(ab ac j:Nat)(e f h:x1)(A R:af)(n:aI)(s:am)(t:aw):Prop:=
 (A ab/\(∀r,A r->¬R r)/\(∀r,R r->r<w.heap.size)/\∀r,A r->r<w.heap.size)/\∃aZ p ge,∃(L:List pn)(E:List qL)(a:af)(w0:x3),
  ad w ab bY [Γ j,Γ ac,e,f,h]/\(fW w0 j n/\Ext w0 w/\∀r o,w0.heap[r]?=σ o->fw o=true->R r)/\
  (cW w ac a t/\(∀r,a r->A r)/\¬a ab/\∀r,leads e r\/leadsTo f r\/leadsTo h r->A r/\¬a r)/\aq .i64 ah w aZ e (hf s)/\
  (ba l0 3 dI w p f L/\ld R w L s)/\ba wm 3 fN w ge h E/\l1 R w E s
theorem eF.V{S:af}{y:Nat}{B C F:x1}{A R:af}{n:aI}{s:am}{t:aw}(h:eF w ab ac y B C F A R n s t)(e:ae S w w')(f:∀r,r<w.heap.size->A r\/R r->¬S r):eF w' ab ac y B C F A R n s t:=by
 obtain⟨⟨h1,j,W,X⟩,aZ,Y,ge,L,E,Z,w0,G,⟨aa,H,J⟩,⟨ad,p,ag,q⟩,K,⟨M,ah⟩,N,ai⟩:=h;have z:=e.size;refine⟨⟨h1,j,λr a=>by have:=W r a;omega,λr a=>by have:=X r a;omega⟩,aZ,Y,ge,L,E,Z,w0,G.V e (f _ G.lt (.inl h1)),⟨aa,qM H e λr o a aj I=>f r (by have:=H.size;have:=(n9.1 a).1;omega) (.inr (J r o a aj)) I,J⟩,
  ⟨?_,p,ag,q⟩,bo K e λr a I=>f r ?_ (.inl (q r (.inl a)).1) I,⟨M.V e λr a I=>f r ?_ (.inl (q r (.inr (.inl a))).1) I,ah.V e λr a h=>f r a (.inr h)⟩,N.V e λr a I=>f r ?_ (.inl (q r (.inr (.inr a))).1) I,ai.V e λr a h=>f r a (.inr h)⟩
 .obtain⟨O,ak,go,cQ,aV,al,cV,P,Q,T,U,x⟩:=ad;refine⟨O,ak,go,cQ,aV,al,cV,P.V e (f _ P.lt (.inl (p _ O))),Q.V e λr a I=>?_,T.V e λr a I=>?_,U.V e λr a I=>?_,x⟩
  .exact f r (by obtain⟨h1,j⟩:=Q.leads a;omega) (.inl (p _ (x r (.inl a)))) I
  .exact f r (by obtain⟨h1,j⟩:=T.leads a;omega) (.inl (p _ (x r (.inr (.inl a))))) I
  .exact f r (by obtain⟨h1,j⟩:=U.leads a;omega) (.inl (p _ (x r (.inr (.inr a))))) I
 .obtain⟨h1,j⟩:=bO K a;omega
 .obtain⟨h1,j⟩:=M.leads a;omega
 .obtain⟨h1,j⟩:=N.leads a;omega
theorem eF.ext{e f j:x1}{A R:af}{n:aI}{s:am}{t:aw}(h:eF w ab ac a e f j A R n s t)(p:Ext w w'):eF w' ab ac a e f j A R n s t:=h.V (p.V λ_=>False) λ_ _ _ h=>h
theorem eF.qN{C:Nat}{F G H:x1}{A R:af}{n:aI}{s:am}{t:aw}(h:eF w ab ac C F G H A R n s t):∃q,cW w ac q t/\∀p w' bi,Grow q w p w'->cW w' ac p bi->∃aE,Grow A w aE w'/\eF w' ab ac C F G H aE R n s bi:=by
 obtain⟨⟨h1,f,J,K⟩,aZ,X,ge,L,E,q,w0,M,⟨Y,Z,N⟩,⟨aa,j,O,x⟩,P,⟨Q,ad⟩,S,ae⟩:=h;refine⟨q,aa,λT w' bi y ag=>?_⟩;have U:=ag.cut;have e:Grow q w (λr=>T r/\r<w'.heap.size) w':=⟨y.1,λr a=>y.2.1 r a.1,λr a=>⟨y.2.2 r a,by have:=K r (j r a);have:=y.1.size;omega⟩⟩;obtain⟨p,W⟩:∃B:af,B=λr=>T r/\r<w'.heap.size:=⟨_,rfl⟩;rw[<-W]at U e;have ah:∀r,p r->r<w'.heap.size:=λr h=>by rw[W]at h;exact h.2
 refine⟨λr=>A r\/p r,⟨e.1.mono λr _ a=>j r a,λr a=>?_,λr a=>.inl a⟩,⟨.inl h1,λr a z=>?_,λr a=>?_,λr a=>?_⟩,aZ,X,ge,L,E,p,w0,M.V e.1 O,⟨Y,qM Z e.1 λr o a ai I=>f r (j r I) (N r o a ai),N⟩,
  ⟨U,λr a=>.inr a,λa=>?_,λr a=>⟨.inl (x r a).1,λaj=>?_⟩⟩,bo P e.1 λr a I=>(x r (.inl a)).2 I,⟨Q.V e.1 λr a I=>(x r (.inr (.inl a))).2 I,ad.V e.1 λr _ a I=>f r (j r I) a⟩,S.V e.1 λr a I=>(x r (.inr (.inr a))).2 I,ae.V e.1 λr _ a I=>f r (j r I) a⟩
 .rcases a with a|a
  .exact .inl a
  .exact (e.2.1 r a).imp (j r) id
 .have:=J r z;rcases a with a|a
  .exact f r a z
  .rcases e.2.1 r a with h|h
   .exact f r (j r h) z
   .omega
 .have:=J r a;have:=e.1.size;omega
 .rcases a with a|a
  .have:=K r a;have:=e.1.size;omega
  .exact ah r a
 .rcases e.2.1 _ a with h|h
  .exact O h
  .have:=M.lt;omega
 .rcases e.2.1 r aj with h|h
  .exact (x r a).2 h
  .rcases a with a|a|a
   .obtain⟨h1,f⟩:=bO P a;omega
   .obtain⟨h1,f⟩:=Q.leads a;omega
   .obtain⟨h1,f⟩:=S.leads a;omega
def StateM(w:x3)(ab ac:Nat)(A R:af)(n:aI)(s:am)(t:aw):Prop:=∃a e f h,eF w ab ac a e f h A R n s t
theorem StateM.V{S:af}{A R:af}{n:aI}{s:am}{t:aw}(h:StateM w ab ac A R n s t)(a:ae S w w')(e:∀r,r<w.heap.size->A r\/R r->¬S r):StateM w' ab ac A R n s t:=by
 obtain⟨f,j,p,q,h⟩:=h;exact⟨f,j,p,q,h.V a e⟩
theorem StateM.ext{A R:af}{n:aI}{s:am}{t:aw}(h:StateM w ab ac A R n s t)(a:Ext w w'):StateM w' ab ac A R n s t:=h.V (a.V λ_=>False) λ_ _ _ h=>h
theorem StateM.qN{A R:af}{n:aI}{s:am}{t:aw}(h:StateM w ab ac A R n s t):∃a,cW w ac a t/\∀e w' bi,Grow a w e w'->cW w' ac e bi->∃aE,Grow A w aE w'/\StateM w' ab ac aE R n s bi:=by
 obtain⟨f,j,p,q,h⟩:=h;obtain⟨a,h1,r⟩:=h.qN;exact⟨a,h1,λe w' bi x y=>by
  obtain⟨aE,z,B⟩:=r e w' bi x y;exact⟨aE,z,f,j,p,q,B⟩⟩
def lf(s s':am):Prop:=hf s'=hf s/\s'.funs.length=s.funs.length/\(∀(j:Nat)a,s'.funs[j]?=σ a->∃f,s.funs[j]?=σ f/\a.sc=f.sc/\a.ag=f.ag/\eN s' j=eN s j)/\s'.c5=s.c5
theorem eF.same{e p q:x1}{A R:af}{n:aI}{s s':am}{t:aw}(h:eF w ab ac a e p q A R n s t)(I:lf s s'):eF w ab ac a e p q A R n s' t:=by
 obtain⟨ao,aZ,y,ge,L,E,z,w0,B,C,F,G,⟨H,r⟩,J,K⟩:=h;obtain⟨M,N,O,P⟩:=I;refine⟨ao,aZ,y,ge,L,E,z,w0,B,C,F,by rw[M];exact G,⟨H,r.1.trans N.symm,λj x Q S T=>?_⟩,J,?_⟩
 .obtain⟨f,U,V,W,X⟩:=O j Q T;rw[V,W,X];exact r.2 j x f S U
 .unfold l1;rw[P];exact K
theorem StateM.same{A R:af}{n:aI}{s s':am}{t:aw}(h:StateM w ab ac A R n s t)(I:lf s s'):StateM w ab ac A R n s' t:=by
 obtain⟨a,e,f,j,h⟩:=h;exact⟨a,e,f,j,h.same I⟩
theorem td{α β:Type}{f:α->List β}:∀{L:List α}{i j:Nat}{a b:α},L[i]?=σ a->(f b).length=(f a).length->(((L.set i b).take j).flatMap f).length=((L.take j).flatMap f).length
 |[],_,_,_,_,h,_=>by simp at h
 |x::L,0,j,a,b,h,e=>by
  cases h;cases j with
  |zero=>rfl
  |succ j=>simp[e]
 |x::L,i+1,j,a,b,h,e=>by
  have h:L[i]?=σ a:=by simpa using h
  cases j with
  |zero=>rfl
  |succ j=>
   rw[List.set_cons_succ,List.take_succ_cons,List.take_succ_cons,W0,W0,r8,r8,td h e]
theorem CN(s:am)(c:Int):lf s {s with zero:=c}:=⟨rfl,rfl,λj f h=>⟨f,h,rfl,rfl,rfl⟩,rfl⟩
theorem CO{s:am}{i:Nat}{x y:bq}(a:s.vars[i]?=σ x)(p:y.un.length=x.un.length):lf s {s with vars:=s.vars.set i y}:=by
 have e:(fX y).length=(fX x).length:=by simp[fX,p]
 refine⟨?_,rfl,λj f h=>⟨f,h,rfl,rfl,?_⟩,rfl⟩
 .unfold hf;rw[show({s with vars:=s.vars.set i y}:am).vars.length=s.vars.length from Z6];apply List.map_congr_left;intro j _;unfold fa;rw[td a e]
 .unfold eN;have:=td (j:=s.vars.length) a e;rw[j0 Ξ,j0 (p8 _)]at this;show 3+(((s.vars.set i y).flatMap fX).length+_)=_;rw[this]
theorem Nw{s:am}{i:Nat}{x y:cL}(a:s.funs[i]?=σ x)(q:y.cs.length=x.cs.length)(h1:y.sc=x.sc)(r:y.ag=x.ag):lf s {s with funs:=s.funs.set i y}:=by
 have w:(gx y).length=(gx x).length:=by simp[gx,q]
 refine⟨rfl,Z6,λj f h=>?_,rfl⟩;have h:(s.funs.set i y)[j]?=σ f:=h;have e:eN {s with funs:=s.funs.set i y} j=eN s j:=by
  unfold eN;show 3+(_+(((s.funs.set i y).take j).flatMap gx).length)=_;rw[td a w]
 by_cases p:i=j
 .subst p;rw[Z0 (x4.1 a).1]at h;cases h;exact⟨x,a,h1,r,e⟩
 .rw[Y8 p]at h;exact⟨f,h,rfl,rfl,e⟩
theorem aw.wn(t:aw)(i:Nat)(x:Int):(t.set i x).marks=t.marks:=by
 unfold aw.set;cases t.cells[i]? with
 |none=>rfl
 |some c=>
  simp only;cases t.marks.getLast? with
  |none=>rfl
  |some m=>simp only;split<;>rfl
theorem aw.CP(t:aw)(i:Nat)(x:Int):(t.set i x).ever=t.ever:=by
 unfold aw.set;cases t.cells[i]? with
 |none=>rfl
 |some c=>
  simp only;cases t.marks.getLast? with
  |none=>rfl
  |some m=>simp only;split<;>rfl
theorem aw.CQ(t:aw)(i:Nat)(x:Int):(t.set i x).cells.length=t.cells.length:=by
 have h:=congrArg R6 (aw.pY (t:=t) (i:=i) (x:=x));rw[Z6]at h;unfold aw.bG at h;rwa [u9,u9]at h
theorem aw.CR(t:aw)(i:Nat)(x:Int):(t.set i x).olds.length<=t.olds.length+1:=by
 unfold aw.set;cases t.cells[i]? with
 |none=>exact Nat.le_succ _
 |some c=>
  simp only;cases t.marks.getLast? with
  |none=>exact Nat.le_succ _
  |some m=>simp only;split<;>simp
theorem aw.wo{t:aw}(h:t.marks=[])(i:Nat)(x:Int):(t.set i x).olds=t.olds:=by
 unfold aw.set;cases t.cells[i]? with
 |none=>rfl
 |some c=>simp only[h,List.getLast?_nil]
def fJ(t:aw)(l:Λ):Nat->aw
 |0=>t.grow l.length
 |i+1=>(fJ t l i).set (t.cells.length+i) (l.getD i 0)
def mK(t:aw)(l:Λ):aw:=fJ t l l.length
theorem qO(t:aw)(l:Λ):∀i,(fJ t l i).marks=t.marks
 |0=>rfl
 |i+1=>(aw.wn _ _ _).trans (qO t l i)
theorem CS(t:aw)(l:Λ):∀i,(fJ t l i).ever=t.ever
 |0=>rfl
 |i+1=>(aw.CP _ _ _).trans (CS t l i)
theorem wp(t:aw)(l:Λ):∀i,(fJ t l i).cells.length=t.cells.length+l.length
 |0=>by simp[fJ,aw.grow]
 |i+1=>(aw.CQ _ _ _).trans (wp t l i)
theorem wq(t:aw)(l:Λ):∀i,(fJ t l i).olds.length<=t.olds.length+i
 |0=>p8 _
 |i+1=>by have:=aw.CR (fJ t l i) (t.cells.length+i) (l.getD i 0);have:=wq t l i;show(aw.set _ _ _).olds.length<=_;omega
theorem CT{t:aw}(h:t.marks=[])(l:Λ):∀i,(fJ t l i).olds=t.olds
 |0=>rfl
 |i+1=>(aw.wo ((qO t l i).trans h) _ _).trans (CT h l i)
theorem CU(t:aw)(l:Λ):∀i,i<=l.length->(fJ t l i).bG=t.bG++(l.take i++p9 (l.length-i) 0)
 |0,_=>by rw[List.take_zero,List.nil_append];exact aw.Je
 |i+1,h=>by
  have a:=CU t l i Ω;show(aw.set _ _ _).bG=_;have e:t.bG.length=t.cells.length:=by simp[aw.bG]
  rw[aw.pY,a,S0 _ _ Ω,e,S3,S0 _ _ (by rw[o7];omega),o7,R5 Ω,U2,show l.length-i=(l.length-(i+1))+1 by omega,List.replicate_succ,List.set_cons_zero,u7,v8,x6 (show i<l.length by omega)];simp only[o8,V8,X9,List.singleton_append]
theorem CV(t:aw)(l:Λ):(mK t l).bG=t.bG++l:=by
 unfold mK;rw[CU t l _ (p8 _),o5,U2,List.replicate_zero,W7]
theorem ey.fJ{h:List aw}{t:aw}(hk:ey t h)(l:Λ):∀i,ey (fJ t l i) h
 |0=>hk.grow
 |i+1=>(ey.fJ hk l i).set
theorem hG{s:Go.Sem x1}{x:x1}(h:aa x7 s w (λv=>v=x)):cu x7 s x w:=by
 obtain⟨v,h,rfl⟩:=h;exact h
theorem te{off:Nat}{z:Nat}{a:r9}{cs:List x1}{x:x1}(f:ad w ab e cs)(h:∀(K:x1->Prop),aa x7 (u5 bY (Γ ab) z) w K=K (.pointer (σ ⟨ab,0+off,ν⟩)))(j:jL x7 a=true)(p:cs[0+off]?=σ x):
  cu x7 (u4 a (.pointer (σ ⟨ab,0+off,ν⟩))) x w/\cu x7 (u5 bY (Γ ab) z) (.pointer (σ ⟨ab,0+off,ν⟩)) w/\cu x7 (bN (Γ ab)) (Γ ab) w/\True:=
 ⟨jo j (f.cell p),hG (by rw[h]),hG (by rw[bJ]),trivial⟩
def CW(w:x3)(r:Nat):Prop:=∃e c,ad w r e c/\(e=cO\/e=dY\/e=fO\/e=dJ\/e=bY\/e=dI\/e=fN)
def eg(w:x3)(r:Nat):Prop:=CW w r\/∀o,w.heap[r]?=σ o->fw o≠true
theorem mL{J:x3}{r:Nat}(hk:∀o,w.heap[r]?=σ o->fw o=true->¬eg w r->J.heap[r]?=σ o)(h:eg J r):eg w r:=by
 by_cases a:eg w r
 .exact a
 .refine absurd (.inr λo j I=>?_) a;have h1:=hk o j I a;rcases h with⟨e,c,f,he⟩|p
  .refine a (.inl ⟨e,c,?_,he⟩);unfold ad at f ⊢;rw[h1]at f;rw[j];exact f
  .exact p o h1 I
theorem ir{J U:x3}(a:Ext w J)(e:ae (eg J) J U):ae (eg w) w U:=(a.V _).trans (e.mono λr _ h=>mL (λo f I _=>a.aY r o f I) h)
theorem tf{J U:x3}(h:ae (eg w) w J)(a:ae (eg J) J U):ae (eg w) w U:=h.trans (a.mono λr _ e=>mL (λo f I j=>h.aY r o f I j) e)
theorem cW.min{A:af}{t:aw}(h:cW w ac A t):cW w ac (λr=>A r/\CW w r) t:=by
 obtain⟨q,s,go,cQ,aV,x,cV,h1,f,j,p,y⟩:=h;refine⟨⟨q,_,_,h1,.inl rfl⟩,s,go,cQ,aV,x,cV,h1,f,j,p,λr a=>⟨y r a,?_⟩⟩;rcases a with a|a|a
 .obtain⟨rfl,c,e⟩:=ef f a;exact⟨_,c,e,.inr (.inl rfl)⟩
 .obtain⟨rfl,c,e⟩:=ef j a;exact⟨_,c,e,.inr (.inr (.inl rfl))⟩
 .obtain⟨rfl,c,e⟩:=ef p a;exact⟨_,c,e,.inr (.inr (.inr (.inl rfl)))⟩
theorem eF.n0{p q x:x1}{A R:af}{n:aI}{s:am}{t:aw}(h:eF w ab ac j p q x A R n s t):∃a,cW w ac a t/\∀y w' bi,Grow a w y w'->cW w' ac y bi->ae (eg w) w w'/\∃aE,Grow A w aE w'/\eF w' ab ac j p q x aE R n s bi:=by
 obtain⟨a,z,B⟩:=h.qN;refine⟨_,z.min,λC J bi e E=>⟨e.1.mono λr _ h=>.inl h.2,?_⟩⟩;exact B (λr=>a r\/C r) J _ ⟨e.1.mono λr _ h=>h.1,λr f=>f.elim .inl λh=>(e.2.1 r h).imp (λh=>h.1) id,λr f=>.inl f⟩ (E.mono λr h=>.inr h)
theorem CX{y:Nat}{B C:x1}{A R:af}{n:aI}{s:am}{t:aw}{cG:x1}(h:eF w ab ac y z B C A R n s t)(G:aH .i64 w cG l)(Q:∀r,leads cG r->¬A r)(aK:t.cells.length+l.length<=100000000)(aL:t.olds.length+l.length<=100000000)(hm:t.marks.length<=100000000):
  ai x7 yZ [Γ ab,cG] w λv w'=>v=Δ (t.cells.length:Int)/\ae (eg w) w w'/\∃aE,Grow A w aE w'/\eF w' ab ac y z B C aE R n s (mK t l):=by
 refine az func131 ?_;obtain⟨_,aZ,S,ge,L,E,_,w0,H,_⟩:=id h;obtain⟨V,I,K⟩:=h.n0;rw[aG bY.p 1 H rfl,aW au.u G];refine(Nh (n:=l.length) I ⟨Ω,Ω,hm⟩ Ω).mono ?_;rintro _ J _ ⟨rfl,W,X,Y⟩;obtain⟨Z,aa,N,ad⟩:=K W J _ X Y;have O:∀{aE:af}{w':x3},Grow A w aE w'->aH .i64 w' cG l:=λag=>hX G ag.1 λr ah a ak c an ao=>Q r ⟨a,ak,c,an,ao⟩ ah;rw[aW au.u (O N)];have ap:=G.le;refine bZ.range l.length (λi U=>ae (eg w) w U/\∃f,Grow A w f U/\eF U ab ac y z B C f R n s (fJ t l i)) ap ⟨Z,aa,N,ad⟩ ?_ ?_
 .rintro i U k hi ⟨M,f,j,q⟩ hk;refine bQ Ω ?_;obtain⟨x,P⟩:=aF (l:=l) hi;rw[be au.u al.i Ψ (O j) P];obtain⟨_,aZ,S,ge,L,E,_,w0,H,_⟩:=id q;obtain⟨V,I,K⟩:=q.n0;have aM:=wp t l i;have aN:=wq t l i;have aq:=qO t l i;rw[aG bY.p 1 H rfl,aP,wrap_i64 Ω Ω];refine(tb (i:=t.cells.length+i) I Ω Ω ⟨Ω,Ω,by rw[aq];exact hm⟩).mono ?_;rintro _ av _ ⟨rfl,ax,ay,aA⟩;obtain⟨aB,aC,aD,aJ⟩:=K ax av _ ay aA;rw[aP];refine hk _ ⟨tf M aB,aC,j.trans aD,?_⟩;have e:fJ t l (i+1)=(fJ t l i).set (t.cells.length+i) x:=by
   show(fJ t l i).set _ (l.getD i 0)=_;rw[v8,P];rfl
  rw[e];exact aJ
 .rintro U k ⟨M,f,j,q⟩;rw[aQ,aj];exact⟨λh=>Ω,λ_=>⟨rfl,M,f,j,q⟩⟩
def iU(s:am)(sc ag cs:Λ):am:={s with funs:=s.funs++[⟨sc,ag,1,cs⟩]}
def n1(s:am)(t:aw)(cs:Λ):aw:=(mK t (1::cs)).set 1 ((s.funs.length+1:Nat):Int)
theorem Nx{s:am}{t:aw}{sc ag cs:Λ}(h:t.bG=s.cells):(n1 s t cs).bG=(iU s sc ag cs).cells:=by
 unfold n1 iU;rw[aw.pY,CV,h,<-Np];rfl
theorem Ny{bf:Nat}{bg aQ bh:x1}{A R:af}{n:aI}{s:am}{t:aw}{aN:x1}{sc ag cs:Λ}{g bT:Nat}{W:x1}{k:Int}(h:eF w ab ac bf bg aQ bh A R n s t)(cj:t.bG=s.cells)(ck:aH .i64 w aN sc)(dt:∀r,leads aN r->¬A r)(bi:c8 w g bT W ag k cs)(bU:¬A g/\¬A bT/\∀r,leads W r->¬A r)(du:sc.length<=1000)(aX:t.cells.length+cs.length+1<=100000000)(bj:t.olds.length+cs.length+1<=100000000)(hm:t.marks.length<=100000000)(dv:s.funs.length<=1000000):
  ai x7 GY [Γ ab,aN,Γ g] w λv w'=>v=Δ (s.funs.length:Int)/\ae (eg w) w w'/\∃aE R' bx,Grow A w aE w'/\eF w' ab ac bf bg bx bh aE R' n (iU s sc ag cs) (n1 s t cs)/\(∀r,R r->R' r)/\∀r,R' r->R r\/leads W r\/w.heap.size<=r:=by
 have dw:t.cells.length=s.cells.length:=by rw[<-cj];simp[aw.bG]
 have dx:=wj s;have cl:eN (iU s sc ag cs) s.funs.length=t.cells.length:=by
  unfold eN iU;simp only[List.take_left];omega
 have cm:∀j,j<s.funs.length->eN (iU s sc ag cs) j=eN s j:=λj bz=>by
  unfold eN iU;simp only[List.take_append_of_le_length (show j<=s.funs.length by omega)]
 have cn:hf (iU s sc ag cs)=hf s:=rfl;refine az func133 ?_;refine dd (λJ=>ae (eg w) w J/\∃aE R' bx,Grow A w aE J/\eF J ab ac bf bg bx bh aE R' n (iU s sc ag cs) (mK t (1::cs))/\(∀r,R r->R' r)/\∀r,R' r->R r\/leads W r\/w.heap.size<=r) ?_ ?_
 .rintro J ⟨cp,dy,cq,cr,ct,cw,cz,cA⟩;intro U bA _ _;have bV:=cw.ext bA;obtain⟨_,aZ,bB,ge,L,E,_,w0,ap,_,_,_,⟨a7,bl⟩,_⟩:=id bV;have bm:L.length=s.funs.length+1:=by rw[bl.1];simp[iU]
  rw[aG bY.p 1 ap rfl,aG bY.p 3 ap rfl,ez e1.u a7];obtain⟨bW,cB,cD⟩:=bV.n0;have cE:=wp t (1::cs) (1::cs).length;have cF:=wq t (1::cs) (1::cs).length;have cG:=qO t (1::cs) (1::cs).length;simp only[c9]at cE cF;refine(tb (i:=1) (y:=1) cB rfl (by show 1<(fJ _ _ _).cells.length;simp only[c9];omega) ⟨by show(fJ _ _ _).cells.length<=_;simp only[c9];omega,by show(fJ _ _ _).olds.length<=_;simp only[c9];omega,by show(fJ _ _ _).marks.length<=_;rw[cG];exact hm⟩).mono ?_;rintro _ cH _ ⟨rfl,cI,cJ,cK⟩;obtain⟨cL,cM,cN,bX⟩:=cD cI cH _ cJ cK;obtain⟨_,aZ,bB,ge,cO,E,_,w0,ap,_,_,_,⟨a7,cP⟩,_⟩:=id bX;have dz:cO.length=s.funs.length+1:=by rw[cP.1];simp[iU]
  rw[aG bY.p 3 ap rfl,ez e1.u a7,dD,wrap_i64 Ω Ω];refine⟨by congr 1;omega,tf cp (ir bA cL),cM,cq,cr,ct.trans ((Grow.ext bA).trans cN),?_,cz,cA⟩;have e:n1 s t cs=(mK t (1::cs)).set 1 (L.length:Int):=by unfold n1;rw[bm]
  rw[e];exact bX
 intro ax cQ;intro aL aS _ _;have bZ:=h.ext aS;obtain⟨_,aZ,bB,ge,L,E,_,w0,ap,_⟩:=id bZ;rw[aG bY.p 3 ap rfl];have z4:=aS.size;have bn:∀{G:x3}{aj X:x1}{aY ak:Nat},Ext aL G->w.heap.size<=aY->w.heap.size<=ak->aq .i64 ah G aY aj sc->aq .i64 al G ak X (1::cs)->(∀r,leads aj r\/leads X r->¬A r)->
   ai x7 yZ [Γ ab,X] G λcR av=>
    (Ext aL av\/cu x7 (u4 e1 (.pointer (σ ⟨ab,0+3,ν⟩))) aQ av/\cu x7 (u5 bY (Γ ab) 3) (.pointer (σ ⟨ab,0+3,ν⟩)) av/\cu x7 (bN (Γ ab)) (Γ ab) av/\True)/\
    aa x7 (Instr.build dI #[(0,aj),(1,.agg #[W]),(2,cR)]) av λt22=>
    aC x7 (Y7 e1 1 #[(0,t22)]) av λcS ay=>
     (Ext aL ay\/cu x7 (u4 e1 (.pointer (σ ⟨ab,0+3,ν⟩))) aQ ay/\cu x7 (u5 bY (Γ ab) 3) (.pointer (σ ⟨ab,0+3,ν⟩)) ay/\cu x7 (bN (Γ ab)) (Γ ab) ay/\True)/\
    aC x7 (Z3 #[e1,e1] e1 #[aQ,cS]) ay λcT bp=>
     aa x7 (bN (Γ ab)) bp λt25=>
     aa x7 (u5 bY t25 3) bp λcU=>
     aC x7 (o6 e1 cU cT) bp λ(_:Unit)aT=>
      ax aT:=by
  intro G aj X aY ak H b0 Y M O bC;have cV:=bZ.ext H;refine(CX cV O.ls (λr B=>bC r (.inr B)) (by simp only[c9];omega) (by simp only[c9];omega) hm).mono ?_;rintro _ av _ ⟨rfl,cW,a8,a1,cX⟩;obtain⟨⟨b1,b2,cY,b3⟩,aZ,bB,ge,L,E,bW,w0,ap,⟨cZ,c0,b5⟩,⟨c1,b6,b7,aM⟩,bD,⟨a7,bl⟩,bE,c2⟩:=id cX;have aJ:aq .i64 ah av aY aj sc:=bo M a1.1 λr B=>bC r (.inl B);have bq:aq .i64 ah G (Classical.choose (show∃gs,aq .i64 ah w gs W ag from by obtain⟨⟨_,gs,_,q,_⟩,_⟩:=bi;exact⟨gs,q⟩)) W ag:=((Classical.choose_spec (show∃gs,aq .i64 ah w gs W ag from by obtain⟨⟨_,gs,_,q,_⟩,_⟩:=bi;exact⟨gs,q⟩)).ext aS).ext H;have c3:=bo bq a1.1 bU.2.2;refine⟨.inr (te (off:=3) (z:=3) ap (λK=>by rw[aR bY.p rfl]) Ψ rfl),?_⟩;rw[dh (cs:=#[aj,W,Δ (t.cells.length:Int)]) (by obtain⟨_,_,_,rfl⟩:=dg M.ls;obtain⟨_,_,_,rfl⟩:=dg bq.ls;kernel_rfl)];let a:pn:=⟨aj,W,t.cells.length⟩;have c4:∀u∈l0 a,u.oneCell'=true:=by
   intro u hu;simp[l0]at hu;rcases hu with rfl|rfl|rfl
   .exact M.ls.cells.2
   .exact bq.ls.cells.2
   .rfl
  refine h2 (f:=l0) (a:=a) e1.u dI.i Ω rfl rfl λdA dC ay dE N c5=>?_;refine⟨.inr (te (off:=3) (z:=3) (ap.ext N) (λK=>by rw[aR bY.p rfl]) Ψ rfl),?_⟩;have ba:=a7.ext N;have bm:L.length=s.funs.length:=bl.1;refine ik (f:=l0) (a:=a) e1.u dI.i rfl ba (by simpa using c5.sl) c4 Ω Ω λb8 c6 bp bb c7 b9=>?_;have bc:=ap.ext N;have ca:=bc.V b9 λhe=>cC ba bc Φ he;rw[bJ,aR bY.p rfl];refine bk e1.i (dp bb.sl).1 (dp bb.sl).2 ca Ξ λaT bF dF bH=>?_;have bH:ad aT ab bY [Γ bf,Γ ac,bg,b8,bh]:=bH;have aA:ae (λr=>leadsTo aQ r\/r=ab) ay aT:=(b9.mono λr _ h=>.inl h).trans (bF.mono λr _ h=>.inr h);have z9:=H.size;have dG:=a1.1.size;have dH:=N.size;have dJ:=aA.size;have bI:∀r,(leadsTo aQ r\/r=ab)->a8 r:=λr B=>B.elim (λB=>(aM r (.inr (.inl B))).1) λB=>B▸b1;have bK:∀r,(leadsTo aQ r\/r=ab)->¬R r:=λr B=>b2 r (bI r B);have da:ae (eg w) w aT:=tf (ir (aS.trans H) cW) (ir N (aA.mono λr _ B=>by
   rcases B with B|rfl
   .obtain⟨_,c,aX⟩:=ef ba B;exact .inl ⟨_,c,‹r=_› ▸aX,Φ⟩
   .exact .inl ⟨_,_,bc,Φ⟩))
  let db:af:=λr=>a8 r\/(ay.heap.size<=r/\r<aT.heap.size);let bL:af:=λr=>R r\/(leads W r/\r<av.heap.size)\/(leads aj r/\r<av.heap.size);have dK:∀r,r<w.heap.size->a8 r->A r:=λr B h=>(a1.2.1 r h).elim id λh=>Ω
  have bM:∀r,leads aj r->w.heap.size<=r/\r<G.heap.size:=λr B=>by obtain⟨h1,a2⟩:=bO M B;omega
  have cb:∀r,leads W r->r<G.heap.size:=λr B=>by obtain⟨h1,a2⟩:=bO bq B;omega
  have br:∀r,leads aj r\/leads W r->¬a8 r:=λr B dc=>by
   rcases a1.2.1 r dc with h|h
   .rcases B with B|B
    .exact bC r (.inl B) h
    .exact bU.2.2 r B h
   .rcases B with B|B
    .have:=bM r B;omega
    .have:=cb r B;omega
  refine cQ _ ⟨da,db,bL,b8,(Grow.ext (aS.trans H)).trans (a1.trans ((Grow.ext N).trans ⟨aA.mono λr _ B=>bI r B,λr B=>B.imp id And.left,λr B=>.inl B⟩)),?_,λr B=>.inl B,λr B=>?_⟩
  rotate_left
  .rcases B with B|B|B
   .exact .inl B
   .exact .inr (.inl B.1)
   .exact .inr (.inr (bM r B.1).1)
  have cc:∀{v:x1}{bd:Nat}{l:Λ},aq .i64 ah ay bd v l->(∀r,leads v r->¬a8 r)->aq .i64 ah aT bd v l:=λhm de=>bo hm aA λr B I=>de r B (bI r I);have cd:∀r,bL r->r<ay.heap.size:=λr B=>by
   rcases B with B|B|B
   .have:=cY r B;omega
   .omega
   .omega
  refine⟨⟨.inl b1,λr B aO=>?_,λr B=>by have:=cd r B;omega,λr B=>B.elim (λB=>by have:=b3 r B;omega) And.right⟩,aZ,c6,ge,L++[a],E,bW,w0,bH,⟨cZ,qM (c0.trans N) aA λr o B bj I=>bK r I (b5 r o B bj),λr o B bj=>.inl (b5 r o B bj)⟩,⟨(c1.ext N).V aA λr B I=>?_,λr B=>.inl (b6 r B),b7,λr B=>?_⟩,?_,⟨bb.V bF λr B he=>?_,?_⟩,(bE.ext N).V aA λr B I=>?_,?_⟩
  .have:=cd r aO;rcases B with B|B
   .rcases aO with aO|aO|aO
    .exact b2 r B aO
    .exact br r (.inr aO.1) B
    .exact br r (.inl aO.1) B
   .omega
  .rcases I with I|rfl
   .exact (aM r (.inr (.inl I))).2 B
   .exact b7 B
  .rcases B with B|B|B
   .exact⟨.inl (aM r (.inl B)).1,(aM r (.inl B)).2⟩
   .obtain⟨h1,a2⟩:=bb.leads B;rcases c7 r B with h|h
    .exact⟨.inl (aM r (.inr (.inl h))).1,(aM r (.inr (.inl h))).2⟩
    .refine⟨.inr ⟨h,by have:=bF.size;omega⟩,λdf=>?_⟩;have:=b3 r (b6 r df);omega
   .exact⟨.inl (aM r (.inr (.inr B))).1,(aM r (.inr (.inr B))).2⟩
  .rw[cn];exact bo (bD.ext N) aA λr B I=>by
    rcases I with I|rfl
    .obtain⟨rfl,c,aX⟩:=ef ba I;exact b4 (bD.ext N) aX Φ B rfl
    .exact b4 (bD.ext N) bc Φ B rfl
  .have he:r=ab:=he;subst he;exact cC bb ca Φ B
  .refine⟨by rw[r8,bm];simp[iU],λj x f bt aU=>?_⟩;have aU:(s.funs++[⟨sc,ag,1,cs⟩])[j]?=σ f:=aU;by_cases bz:j<s.funs.length
   .rw[Y1 Ω]at bt;rw[Y1 bz]at aU;obtain⟨di,dj,dk⟩:=((((ld.V bl (N.V λ_=>False) λ_ _ _ h=>h).V aA λr _ B I=>bK r I B).mono (R':=bL) λr B=>.inl B)).2 j x f bt aU;exact⟨di,dj,by rw[cm j bz];exact dk⟩
   .have bP:j=s.funs.length:=by have:=(x4.1 aU).1;simp at this;omega
    rw[Y2 Ω,bm,bP,U2]at bt;rw[Y2 Ω,bP,U2]at aU;cases bt;cases aU;refine⟨⟨⟨_,cc (aJ.ext N) λr B=>br r (.inl B)⟩,λr B=>.inr (.inr ⟨B,?_⟩)⟩,⟨⟨_,cc (c3.ext N) λr B=>br r (.inr B)⟩,λr B=>.inr (.inl ⟨B,?_⟩)⟩,?_⟩
    .have:=bM r B;omega
    .have:=cb r B;omega
    .rw[bP,cl]
  .rcases I with I|rfl
   .obtain⟨rfl,c,aX⟩:=ef ba I;exact cC (bE.ext N) aX Φ B
   .exact cC (bE.ext N) bc Φ B
  .exact ((l1.V c2 (N.V λ_=>False) λ_ _ _ h=>h).V aA λr _ B I=>bK r I B).mono λr B=>.inl B
 have a6:=bi.ext aS;have ce:=ck.ext aS;have dl:∀r,A r->r<w.heap.size:=h.1.2.2.2;obtain⟨_,⟨_,_,dL⟩,dM,dN⟩:=id bi;have dO:cs.length<=4096:=Ω
 have bu:∀{aB:x3}{aV aW:x1}{Z:Nat}{K:x1->x3->Prop},Ext aL aB->aL.heap.size<=Z->aq .i64 al aB Z aV [1]->aH .i64 aB aW cs->
   (∀X ak G,Ext aL G->ae (λr=>r=Z) aB G->w.heap.size<=ak->aq .i64 al G ak X (1::cs)->(Ext aL G->K X G))->aC x7 (Z3 #[au,au] au #[aV,aW]) aB K:=by
  intro aB aV aW Z K C bw aD aK dm;refine jh au.u al.i rfl aD aK Θ Θ λX ak G Y O aF=>?_;have H:Ext aL G:=C.put aF Ω;have dn:=C.size;exact dm X ak G H aF Ω O H
 have aP:∀{v:x1}{bd:Nat}{dq:o4}{e:r9}{dr:x3}{l:Λ},aq dq e dr bd v l->w.heap.size<=bd->∀r,leads v r->¬A r:=λhm dP r B ds=>by
  obtain⟨h1,_⟩:=bO hm B;have:=dl r ds;omega
 refine⟨?_,?_⟩
 .refine (kX ce Ω).mono ?_;rintro aj cg _ ⟨P,aY,b0,M⟩;have z5:=P.size;refine⟨.inl P,?_,?_⟩
  .refine (o2 (a6.ext P)).mono ?_;rintro _ ch _ ⟨rfl,Q⟩;have an:=P.trans Q;have dQ:=an.size;have dR:=Q.size;have ci:=(a6.ext P).ext Q;refine⟨.inl an,?_,?_⟩
   .refine en au.u al.i rfl λaV Z aB bw C aD=>?_;refine⟨.inl (an.trans C),?_⟩;refine(mF (ci.ext C)).mono ?_;rintro aW bQ _ ⟨S,bR,bS,aK⟩;have ao:=(an.trans C).trans S;refine⟨.inl ao,?_⟩;refine bu ao Ω (aD.ext S) aK.ls λX ak G H aF Y O _=>⟨.inl H,?_⟩;have aJ:=bo (((M.ext Q).ext C).ext S) aF λr B he=>by have he:r=Z:=he;obtain⟨h1,a2⟩:=bO M B;omega
    exact bn H Ω Y aJ O λr B=>B.elim (aP M Ω r) (aP O Y r)
   .refine (mF ci).mono ?_;rintro aW aB _ ⟨C,bR,bS,aK⟩;refine⟨.inl (an.trans C),?_⟩;have dn:=C.size;refine en au.u al.i rfl λaV Z bQ bw S aD=>?_;have ao:=(an.trans C).trans S;refine⟨.inl ao,?_⟩;refine bu ao Ω aD (aK.ls.ext S) λX ak G H aF Y O _=>⟨.inl H,?_⟩;have aJ:=bo (((M.ext Q).ext C).ext S) aF λr B he=>by have he:r=Z:=he;obtain⟨h1,a2⟩:=bO M B;omega
    exact bn H Ω Y aJ O λr B=>B.elim (aP M Ω r) (aP O Y r)
  .refine en au.u al.i rfl λaV Z ch bw Q aD=>?_;have an:=P.trans Q;refine⟨.inl an,?_⟩;refine(o2 ((a6.ext P).ext Q)).mono ?_;rintro _ aB _ ⟨rfl,C⟩;have be:=an.trans C;refine⟨.inl be,?_⟩;refine(mF (((a6.ext P).ext Q).ext C)).mono ?_;rintro aW bQ _ ⟨S,bR,bS,aK⟩;have ao:=be.trans S;refine⟨.inl ao,?_⟩;refine bu ao Ω ((aD.ext C).ext S) aK.ls λX ak G H aF Y O _=>⟨.inl H,?_⟩;have aJ:=bo (((M.ext Q).ext C).ext S) aF λr B he=>by have he:r=Z:=he;obtain⟨h1,a2⟩:=bO M B;omega
   exact bn H Ω Y aJ O λr B=>B.elim (aP M Ω r) (aP O Y r)
 .refine en au.u al.i rfl λaV Z cg bw P aD=>?_;refine⟨.inl P,?_⟩;have z5:=P.size;have dS:Z<cg.heap.size:=sS aD Ξ;refine(kX (ce.ext P) Ω).mono ?_;rintro aj ch _ ⟨Q,aY,b0,M⟩;have an:=P.trans Q;refine⟨.inl an,?_⟩;refine(o2 ((a6.ext P).ext Q)).mono ?_;rintro _ aB _ ⟨rfl,C⟩;have be:=an.trans C;refine⟨.inl be,?_⟩;refine(mF (((a6.ext P).ext Q).ext C)).mono ?_;rintro aW bQ _ ⟨S,bR,bS,aK⟩;have ao:=be.trans S;refine⟨.inl ao,?_⟩;refine bu ao Ω (((aD.ext Q).ext C).ext S) aK.ls λX ak G H aF Y O _=>⟨.inl H,?_⟩;have aJ:=bo ((M.ext C).ext S) aF λr B he=>by have he:r=Z:=he;obtain⟨h1,a2⟩:=bO M B;omega
  exact bn H Ω Y aJ O λr B=>B.elim (aP M Ω r) (aP O Y r)
theorem gN{P:W9}{G:r9}{k:o4}{b g:Nat}{x:x1}{m:Λ}{K:x1->x3->Prop}(y:P.underlying t=σ (.slice e))(hi:aO P e 1 b z)(A:z.cells.size=1)(h:aq k e w g v l)(B:aH k w x m)(C:(l.length+m.length)*b<=140737488355328)(E:l.length+m.length<=9223372036854775807)(F:∀a f w',aq k e w' f a (l++m)->(∀r,leads a r->leads v r\/w.heap.size<=r)->ae (λr=>leads v r) w w'->K a w'):aC P (Z3 #[t,t] G #[v,x]) w K:=by
 rcases h.2 with⟨p,H⟩|⟨cap,cs,p,L,M⟩
 .have I:l=[]:=j4 H;subst I;have h':aq k e w w.heap.size v []:=by rw[p];exact aq.nil _ _ _ _
  refine jh y hi A h' B C E λa f w' q hm s=>F a f w' hm (λr j=>.inr ?_) (s.mono λr j he=>by have he:r=w.heap.size:=he;omega);obtain⟨J,_⟩:=bO hm j;omega
 .refine jh y hi A h B C E λa f w' q hm s=>F a f w' hm (λr j=>?_) (s.mono λr j he=>⟨_,_,_,p,he.symm⟩);obtain⟨J,_⟩:=bO hm j;rcases q with q|q
  .exact .inl ⟨_,_,_,p,by show g=r;omega⟩
  .exact .inr Ω
def addVar(s:am)(u:Λ):am:={s with vars:=s.vars++[newVar u]}
theorem Nz(s:am)(u:Λ):hf (addVar s u)=hf s++[((3+(s.vars.flatMap fX).length:Nat):Int)]:=by
 unfold hf addVar;rw[r8,U9,List.range_succ,Z4];congr 1
 .apply List.map_congr_left;intro i hi;have:=Q3.1 hi;unfold fa;simp only[List.take_append_of_le_length (show i<=s.vars.length by omega)]
 .simp[fa]
theorem NA{s:am}{u:Λ}(a:s.funs=[]):(addVar s u).cells=s.cells++(0::0::u):=by
 unfold am.cells addVar ip;simp only[a,List.flatMap_nil,W7,List.flatMap_append,List.flatMap_singleton,X9];rfl
def eX(n:aI)(i j:Nat):am:=⟨n.zero,(n.unary.take i).map newVar,(n.funs.take j).map (ky n.sizes),[]⟩
theorem CY{n:aI}{i:Nat}{u:Λ}(h:n.unary[i]?=σ u):eX n (i+1) 0=addVar (eX n i 0) u:=by
 unfold eX addVar;simp only[u7,h,o8,Z4,List.map_singleton]
theorem NB{n:aI}{i:Nat}{g:cE}(h:n.funs[j]?=σ g):eX n i (j+1)=iU (eX n i j) g.1 (bV n.sizes g.1) g.2:=by
 unfold eX iU;simp only[u7,h,o8,Z4,List.map_singleton];rfl
theorem wr(n:aI):eX n n.unary.length n.funs.length=dq n:=by
 unfold eX dq;rw[o5,o5]
theorem ws{α β:Type}{f:α->List β}{b:Nat}:∀{L:List α},(∀x∈L,(f x).length<=b)->(L.flatMap f).length<=L.length*b
 |[],_=>Ξ
 |x::L,h=>by
  rw[W0,r8,c9,U8];have:=ws (L:=L) λy a=>h y (.tail _ a);have:=h x (.head _);omega
theorem tg{n:aI}(a:jV n)(B:n.funs.length<=256)(i j:Nat):(eX n i j).cells.length<=2000000:=by
 rw[wj];have h1:=ws (f:=fX) (b:=34) (L:=(eX n i j).vars) λx h=>by
  obtain⟨u,hu,rfl⟩:=l9.1 (show x∈(n.unary.take i).map newVar from h);obtain⟨p,q⟩:=X5.1 (V5 hu);have C:=a.kx;have E:=(x4.1 q).1;obtain⟨z,r⟩:=aF (l:=n.sizes) (i:=p) Ω;have w:=(a.unary p z u r q).1;have e:=a.sizes.2.2 z (x5 r);show u.length+2<=34;omega
 have w:=ws (f:=gx) (b:=4097) (L:=(eX n i j).funs) λx h=>by
  obtain⟨g,y,rfl⟩:=l9.1 (show x∈(n.funs.take j).map (ky n.sizes)from h);have e:=(a.funs g (V5 y)).1;have s:=e.len;have A:=e.small;show g.2.length+1<=4097;omega
 have e:(eX n i j).vars.length<=64:=by
  show((n.unary.take i).map newVar).length<=64;rw[u9,o7];have:=a.kx;have:=a.sizes.2.1;omega
 have s:(eX n i j).funs.length<=256:=by
  show((n.funs.take j).map (ky n.sizes)).length<=256;rw[u9,o7];omega
 have A:=Y4 34 e;have F:=Y4 4097 s;omega
def Plain(t:aw):Prop:=t.marks=[]/\t.olds=[]/\ey t []/\t.ever=0
theorem Plain.set{t:aw}(h:Plain t)(i:Nat)(x:Int):Plain (t.set i x):=⟨(aw.wn _ _ _).trans h.1,(aw.wo h.1 _ _).trans h.2.1,h.2.2.1.set,(aw.CP _ _ _).trans h.2.2.2⟩
theorem Plain.lay{t:aw}(h:Plain t)(l:Λ):Plain (mK t l):=⟨(qO _ _ _).trans h.1,(CT h.1 _ _).trans h.2.1,h.2.2.1.fJ l _,(CS _ _ _).trans h.2.2.2⟩
theorem Plain.put{s:am}{t:aw}(h:Plain t)(cs:Λ):Plain (n1 s t cs):=(h.lay _).set _ _
def NC(w:x3)(R0:af)(n:aI)(v:x1)(w':x3):Prop:=Ext w w'/\∃ab ac A R t,v=Γ ab/\StateM w' ab ac A R n (dq n) t/\t.bG=(dq n).cells/\Plain t/\(∀r,A r->w.heap.size<=r)/\∀r,R r->R0 r\/w.heap.size<=r
theorem ND{w0:x3}{R0:af}{n:aI}(aQ:fW w0 B n)(ay:Ext w0 w)(bh:∀r o,w0.heap[r]?=σ o->fw o=true->R0 r)(aS:∀r,R0 r->r<w.heap.size)(C:jV n)(bi:n.funs.length<=256):ai x7 yR [Γ B] w (NC w R0 n):=by
 have h:=aQ.ext ay;have bX:=C.kx;have c1:=C.sizes.2.1;refine az func62 ?_;rw[cP mn.u];simp only[j9,aU];refine(Ni (n:=3) Ω).mono ?_;rintro _ J _ ⟨aA,ac,rfl,b0⟩;rw[dh (cs:=#[Γ B,Γ ac,.slice ν 0 0,.slice ν 0 0,.slice ν 0 0]) Ψ];refine bj λab U c2 S W=>?_;have W:ad U ab bY [Γ B,Γ ac,.slice ν 0 0,.slice ν 0 0,.slice ν 0 0]:=W;have c3:=aA.size;have c4:=S.size;have c5:=W.lt;have b1:eF U ab ac B (.slice ν 0 0) (.slice ν 0 0) (.slice ν 0 0) (λr=>r=ab\/(w.heap.size<=r/\r<J.heap.size)) R0 n ⟨0,[],[],[]⟩ ⟨p9 3 ⟨0,0⟩,[],[],0⟩:=by
  refine⟨⟨.inl rfl,λr q O=>?_,λr q=>?_,λr q=>?_⟩,0,0,0,[],[],λr=>w.heap.size<=r/\r<J.heap.size,w0,W,⟨aQ,ay.trans (aA.trans S),bh⟩,⟨(b0.cut).ext S,λr q=>.inr q,λq=>?_,λr q=>?_⟩,aq.nil _ _ _ _,⟨ba.nil _ _ _ _ _,rfl,λj x f X=>by simp at X⟩,ba.nil _ _ _ _ _,rfl,λj x f X=>by simp at X⟩
  .have O:=aS r O;rcases q with q|q<;>omega
  .have q:=aS r q;omega
  .rcases q with q|q<;>omega
  .omega
  .rcases q with q|q|q
   .obtain⟨a,c6,c,aT,c7⟩:=q;cases aT
   .exact (fq q).elim
   .exact (fq q).elim
 intro c8 Y _ _;have b2:=b1.ext Y;rw[aG bY.p 1 (W.ext Y) rfl];refine(Ns (h.ext ((aA.trans S).trans Y))).mono ?_;rintro _ c9 _ ⟨rfl,aB⟩;refine⟨.inl aB,?_⟩;have b3:=b2.ext aB;obtain⟨aV,b5,b6⟩:=b3.qN;refine(tb (i:=0) (y:=0) b5 rfl Φ ⟨Ξ,Ξ,Ξ⟩).mono ?_;rintro _ bl _ ⟨_,b7,b8,b9⟩;obtain⟨ca,bm,aW⟩:=b6 b7 bl _ b8 b9;have aW:=aW.same (CN ⟨0,[],[],[]⟩ n.zero);have z3:=Y.size;have z4:=aB.size;have cb:=((aA.trans S).trans Y).trans aB;have bn:Ext w bl:=cb.then bm.1 λr q he=>by rcases he with he|he<;>omega
 refine(wk (h.ext bn)).mono ?_;rintro _ da _ ⟨rfl,bp⟩;refine bZ.range n.sizes.length (λi aC=>∃A M t,Ext w aC/\eF aC ab ac B M (.slice ν 0 0) (.slice ν 0 0) A R0 n (eX n i 0) t/\t.bG=(eX n i 0).cells/\Plain t/\∀r,A r->w.heap.size<=r) Ω
  ⟨ca,_,_,bn.trans bp,aW.ext bp,?_,?_,λr q=>?_⟩ ?_ ?_
 .rw[aw.pY];rfl
 .exact Plain.set (t:=⟨p9 3 ⟨0,0⟩,[],[],0⟩) ⟨rfl,rfl,⟨rfl,rfl,λc G=>by rw[(List.mem_replicate.1 G).2];exact p8 _,X4 _⟩,rfl⟩ _ _
 .rcases bm.2.1 r q with he|he
  .rcases he with he|he<;>omega
  .omega
 .rintro i aC cc hi ⟨A,M,t,P,aX,Z,aa,aD⟩ cd;obtain⟨u,hu⟩:=aF (l:=n.unary) (i:=i) Ω;obtain⟨bq,br⟩:=aF (l:=n.sizes) (i:=i) Ω;have db:u.length<=32:=by
   have dc:=(C.unary i bq u br hu).1;have dd:=C.sizes.2.2 bq (x5 br);omega
  refine bQ Ω ?_;refine(CK (h.ext P) C).mono ?_;rintro de df _ ⟨ce,_,cg⟩;obtain⟨dg,di,ch⟩:=cg u Ω (by rw[u6];exact hu);intro aY bt _ _;have a1:=ce.trans bt;have bu:=aX.ext a1;obtain⟨⟨_,_,_,ag⟩,aZ,bw,ge,L,E,aV,w0,aH,_⟩:=id bu;have dj:=a1.size;have dk:=P.size;rw[aG bY.p 2 aH rfl];refine ve (l:=[0,0]) au.u al.i Ω rfl Ψ λci dl dm dn aJ bx=>?_;refine⟨.inl aJ,?_⟩;refine gN au.u al.i rfl bx ((ch.ext bt).ls.ext aJ) Θ Θ λcj dp ck cl cm cp=>?_;have bz:∀r,leads ci r->aY.heap.size<=r:=λr q=>by obtain⟨aT,_⟩:=bO bx q;omega
  have aK:Ext aY ck:=aJ.then cp λr q he=>by have:=bz r he;omega
  refine⟨.inl aK,?_⟩;have cq:=bu.ext aK;have cr:∀r,leads cj r->aY.heap.size<=r:=λr q=>by
   rcases cm r q with h|h
   .exact bz r h
   .have:=aJ.size;omega
  have ct:t.cells.length<=2000000:=by
   have h1:=tg C bi i 0;rw[<-Z]at h1;unfold aw.bG at h1;rwa [u9]at h1
  have cu:t.olds.length=0:=by rw[aa.2.1];rfl
  have cw:t.marks.length=0:=by rw[aa.1];rfl
  refine(CX cq cl.ls (λr q s=>by have:=ag r s;have:=cr r q;omega) Θ Θ Ω).mono ?_;rintro _ dr _ ⟨rfl,_,a2,a6,cz⟩;obtain⟨⟨bA,bB,cA,bC⟩,aZ,bw,ge,L,E,aV,w0,aH,⟨cB,cC,bD⟩,⟨cD,bE,bF,aL⟩,cE,⟨cF,cG⟩,cH,cI⟩:=id cz;refine⟨.inr (te (off:=2) (z:=2) aH (λK=>by rw[aR bY.p rfl]) Ψ rfl),?_⟩;refine en (k:=.i64) ap.u ah.i rfl λds dt bH du H cJ=>?_;have a7:=aH.ext H;refine⟨.inr (te (off:=2) (z:=2) a7 (λK=>by rw[aR bY.p rfl]) Ψ rfl),?_⟩;have bI:(hf (eX n i 0)).length=i:=by
   unfold hf eX;simp only[u9,List.length_range,o7];omega
  have bK:=cE.ext H;refine gN ap.u ah.i rfl bK cJ.ls (by rw[bI];simp;omega) (by rw[bI];simp;omega) λbL cK dv aj cL bM=>?_;have bN:=a7.V bM λhe=>b4 bK a7 Φ he rfl;rw[bJ,aR bY.p rfl];refine bk ap.i aj.ls.cells.1 aj.ls.cells.2 bN Ξ λa8 bb dw bc=>?_;have bc:ad a8 ab bY [Γ B,Γ ac,bL,.slice ν 0 0,.slice ν 0 0]:=bc;rw[aP];have G:ae (λr=>leads M r\/r=ab) bH a8:=(bM.mono λr _ h=>.inl h).trans (bb.mono λr _ h=>.inr h);have dx:=aK.size;have z12:=a6.1.size;have dy:=H.size;have dz:=G.size;have bP:∀r,a2 r->w.heap.size<=r:=λr q=>(a6.2.1 r q).elim (aD r) λh=>Ω
  have bR:∀r,(leads M r\/r=ab)->a2 r:=λr q=>q.elim (λq=>(aL r (.inl q)).1) λq=>q▸bA;have cM:(eX n (i+1) 0).cells=(eX n i 0).cells++(0::0::u):=by rw[CY hu];exact NA rfl
  have cN:t.cells.length=3+((eX n i 0).vars.flatMap fX).length:=by
   have h1:=congrArg R6 Z;rw[wj]at h1;unfold aw.bG at h1;rw[u9]at h1;have:((eX n i 0).funs.flatMap gx).length=0:=by simp[eX]
   omega
  refine cd _ ⟨λr=>a2 r\/(bH.heap.size<=r/\r<a8.heap.size),bL,mK t ([0,0]++u),?_,⟨⟨.inl bA,λr q O=>?_,λr q=>by have:=cA r q;omega,λr q=>?_⟩,cK,bw,ge,L,E,aV,w0,bc,⟨cB,qM (cC.trans H) G λr o q cO I=>bB r (bR r I) (bD r o q cO),bD⟩,⟨(cD.ext H).V G λr q I=>?_,λr q=>.inl (bE r q),bF,λr q=>?_⟩,?_,⟨(cF.ext H).V G λr q I=>?_,?_⟩,(cH.ext H).V G λr q I=>?_,?_⟩,?_,aa.lay _,λr q=>?_⟩
  .exact ((P.trans (a1.trans aK)).then a6.1 λr q he=>by have:=aD r he;omega).trans H |>.then G λr q I=>by have:=bP r (bR r I);omega
  .rcases q with q|q
   .exact bB r q O
   .have O:=aS r O;omega
  .rcases q with q|q
   .have:=bC r q;omega
   .exact q.2
  .rcases I with I|rfl
   .exact (aL r (.inl I)).2 q
   .exact bF q
  .rcases q with q|q|q
   .have dA:=(bO aj q);rcases cL r q with h|h
    .exact⟨.inl (aL r (.inl h)).1,(aL r (.inl h)).2⟩
    .refine⟨.inr ⟨h,by have:=bb.size;omega⟩,λcQ=>by have:=bC r (bE r cQ);omega⟩
   .exact (fq q).elim
   .exact (fq q).elim
  .rw[CY hu,Nz,<-cN];exact bo aj bb λr q he=>by
    have he:r=ab:=he;subst he;exact b4 aj bN Φ q rfl
  .exact (fq q).elim
  .refine⟨cG.1,λj x f X bd=>?_⟩;have bd:((n.funs.take 0).map (ky n.sizes))[j]?=σ f:=bd;simp at bd
  .exact (fq q).elim
  .refine⟨cI.1,λj x e X he=>?_⟩;have he:([]:List tc)[j]?=σ e:=he;simp at he
  .rw[CV,cM,Z];rfl
  .rcases q with q|q
   .exact bP r q
   .omega
 .rintro aC cc ⟨A,M,t,P,aX,Z,aa,aD⟩;refine cn Ω ?_;refine(CJ (h.ext P)).mono ?_;rintro _ dC _ ⟨rfl,bS⟩;refine bZ.range n.funs.length (λj ak=>∃A R aM t,Ext w ak/\eF ak ab ac B M aM (.slice ν 0 0) A R n (eX n n.sizes.length j) t/\t.bG=(eX n n.sizes.length j).cells/\Plain t/\(∀r,A r->w.heap.size<=r)/\∀r,R r->R0 r\/w.heap.size<=r) Ω
   ⟨A,_,_,t,P.trans bS,aX.ext bS,Z,aa,aD,λ_ h=>.inl h⟩ ?_ ?_
  .rintro j ak cR cS ⟨A,R,aM,t,N,am,Q,an,ao,be⟩ cT;obtain⟨g,aO⟩:=aF (l:=n.funs) cS;have bf:=(C.funs g (x5 aO)).1;refine bQ Ω ?_;refine(Nt (h.ext N) C aO).mono ?_;rintro aN dD _ ⟨av,gs,dE,bT⟩;refine(Nv aQ (ay.trans (N.trans av)) aO).mono ?_;rintro _ dF _ ⟨ax,gt,dG,cU,rfl,dH,dI,cV,bU⟩;have z0:=ay.size;have cW:∀r,leads cU r->r<w.heap.size:=λr q=>by obtain⟨c,bg⟩:=bU r q;have:=bg.lt;omega
   have cX:=(am.ext av).ext ax;have ag:∀r,A r->r<ak.heap.size:=am.1.2.2.2;have dJ:=av.size;have ct:t.cells.length<=2000000:=by
    have h1:=tg C bi n.sizes.length j;rw[<-Q]at h1;unfold aw.bG at h1;rwa [u9]at h1
   have cu:t.olds.length=0:=by rw[an.2.1];rfl
   have cw:t.marks.length=0:=by rw[an.1];rfl
   have dK:g.2.length<=4096:=by have:=bf.len;have:=bf.small;omega
   have dL:g.1.length<=6:=bf.scope.2;refine(Ny (sc:=g.1) cX Q (bT.ls.ext ax) (λr q s=>by have:=ag r s;obtain⟨aT,_⟩:=bO bT q;omega) cV ⟨λs=>by have:=ag _ s;omega,λs=>by have:=ag _ s;omega,λr q s=>by have:=ao r s;have:=cW r q;omega⟩ Ω Ω Ω Ω ?_).mono ?_
   .show ((n.funs.take j).map (ky n.sizes)).length<=_;rw[u9,o7];omega
   rintro _ dM _ ⟨rfl,_,aE,R',cY,bV,cZ,dN,c0⟩;rw[aP];have bW:=NB (i:=n.sizes.length) aO;refine cT _ ⟨aE,R',cY,n1 (eX n n.sizes.length j) t g.2,((N.trans av).trans ax).then bV.1 (λr q s=>by have:=ao r s;omega),?_,?_,an.put _,λr q=>?_,λr q=>?_⟩
   .rw[bW];exact cZ
   .rw[bW];exact Nx Q
   .rcases bV.2.1 r q with h|h
    .exact ao r h
    .have:=N.size;have:=ax.size;omega
   .rcases c0 r q with h|h|h
    .exact be r h
    .exact .inl (by obtain⟨c,bg⟩:=bU r h;exact bh r _ bg rfl)
    .exact .inr (by have:=N.size;have:=av.size;have:=ax.size;omega)
  .rintro ak cR ⟨A,R,aM,t,N,am,Q,an,ao,be⟩;refine cn Ω ?_;have e:eX n n.sizes.length n.funs.length=dq n:=by rw[<-bX];exact wr n
   rw[e]at am Q;exact⟨N,ab,ac,A,R,t,rfl,⟨B,M,aM,_,am⟩,Q,an,ao,be⟩
theorem NE(L:Bytes l)(V:l.length<=100000):ai x7 Hv [bR l] w λv w'=>v=kq l/\Ext w w':=by
 refine az func173 ?_;refine iA (λac ad J=>Ext w J/\∃(m:Λ)(s:Int),ac=bR m/\ad=Δ s/\Bytes m/\m.length<=100000/\oX l m s) ?_ ?_
 .rintro _ _ J ⟨M,m,s,rfl,rfl,H,aw,I⟩;rw[nJ cZ.u,bd,aj];refine⟨λN=>?_,λN=>?_⟩
  .have O:m=[]:=j4 Ω;exact⟨by rw[sj I (by rw[O];rfl)],M⟩
  have O:m≠[]:=λh=>N (by rw[h];rfl);refine pI.range m.length (λi _ _ P Q f=>Ext J f/\∃(n:Int)(a:Bool),P= .int .u64 n/\Q= .bool a/\mw n a ((m.take i).foldl e4 0)/\(m.take i).all gm=true) Ω ⟨Ext.refl _,0,false,rfl,rfl,Ja,rfl⟩ ?_ ?_
  .rintro i ae t3 _ _ f af hi ⟨B,n,a,rfl,rfl,p,C⟩ ag;obtain⟨b,q⟩:=aF (l:=m) hi;have ay:=H b (x5 q);rw[nJ cZ.u];refine bQ Ω ?_;refine zS (λ_ _ P Q j=>Ext J j/\∃(n:Int)(a:Bool),P= .int .u64 n/\Q= .bool a/\mw n a ((m.take (i+1)).foldl e4 0)/\(m.take (i+1)).all gm=true) ?_ ?_
   .rintro aA aB a3 a4 j ah;rw[aP];exact ag _ _ _ _ _ ah
   intro ax z;refine aT (λv j=>f=j/\v= .bool (!gm b)) ?_ ?_
   rotate_left
   .intro R e;rw[p0 rfl cZ.u H q,aQ,aj];refine⟨λh=>e _ _ ⟨rfl,by unfold gm;rw[decide_eq_false Ω];rfl⟩,λh=>?_⟩;rw[p0 rfl cZ.u H q,bP];refine e _ _ ⟨rfl,?_⟩;unfold gm;congr 1;by_cases W:57<b
    .rw[decide_eq_true W,decide_eq_false Ω];rfl
    .rw[decide_eq_false W,decide_eq_true Ω];rfl
   rintro _ _ ⟨rfl,rfl⟩;cases S:gm b with
   |false=>
    rw[W5,bL];exact⟨by rw[sj I (AN q S)],M.trans B⟩
   |true=>
    rw[Y6,aU];have ak:=of_decide_eq_true S;have K:=I9 p ak;rw[AL q,AK q,C,S]at z;have am:=p.1;have an:=p.2.1;refine aT (λv j=>f=j/\v= .bool (a||decide (461168601842738790<n))) ?_ ?_
    rotate_left
    .intro R e;rw[bP,aj];refine⟨λh=>e _ _ ⟨rfl,by rw[decide_eq_true h,Bool.or_true]⟩,λh=>e _ _ ⟨rfl,by rw[decide_eq_false h,Bool.or_false]⟩⟩
    rintro _ _ ⟨rfl,rfl⟩;by_cases E:a=true\/461168601842738790<n
    .have r:(a||decide (461168601842738790<n))=true:=by rcases E with h|h<;>simp[h]
     rw[if_pos E,r]at K;rw[r,bC,Y6,aU];exact z _ _ _ _ _ ⟨B,n,true,rfl,rfl,K,rfl⟩
    .have r:(a||decide (461168601842738790<n))=false:=by
      cases a with
      |true=>exact absurd (.inl rfl) E
      |false=>simp;omega
     rw[if_neg E,r]at K;have aC:¬461168601842738790<n:=λh=>E (.inr h);rw[r,bC,W5,bL,hV,p0 rfl cZ.u H q,dD,wrap_u8 Ω Ω,fl cD.u fj.u,wrap_u64 Ω Ω,wrap_u64 Ω Ω,aP,wrap_u64 Ω Ω];exact z _ _ _ _ _ ⟨B,_,false,rfl,rfl,K,rfl⟩
  .rintro ae t3 _ _ f af ⟨B,n,a,rfl,rfl,p,C⟩;rw[o5]at C p;rw[nJ cZ.u];refine cn Ω ?_;have X:=Jb p;have am:=p.1;have an:=p.2.1;have ao:∀{x:Int},x=m.foldl e4 0->0<=x->x<=4611686018427387904->(aa x7 (convert fj al (.int .u64 x)) f λap=>
     aa x7 (aJ .mul al false false (Δ s) ap) f λaq=>(λv w'=>v=kq l/\Ext w w') (.tuple #[aq,(Δ 0)]) f):=by
    intro x au N h1;rw[fl fj.u al.u,wrap_i64 Ω Ω,hV];have hw:X7.wrap (s*x)=s*x:=by
     rcases I.1 with rfl|rfl<;>exact wrap_i64 Ω Ω
    rw[hw];refine⟨?_,M.trans B⟩;rw[AQ I (AM O C),au]
   refine aT (λv j=>f=j/\v= .int .u64 (m.foldl e4 0)) ?_ ?_
   .rintro _ _ ⟨rfl,rfl⟩;have Y:=r6 (l:=m) (n:=0) C ⟨Int.le_refl _,Φ⟩;exact ao rfl Y.1 Y.2
   intro R e;refine aT (λv j=>f=j/\v= .bool (a||decide (4611686018427387904<n))) ?_ ?_
   .rintro _ _ ⟨rfl,rfl⟩;rw[b7];refine⟨λh=>e _ _ ⟨rfl,?_⟩,λh=>e _ _ ⟨rfl,?_⟩⟩
    .have h':a=true\/4611686018427387904<n:=by simpa using h
     rw[X,if_pos h']
    .have h':¬(a=true\/4611686018427387904<n):=by
      intro G;rcases G with G|G
      .simp[G]at h
      .simp[G]at h
     rw[X,if_neg h']
   .intro aD Z;cases a with
    |true=>rw[bL];exact Z _ _ ⟨rfl,rfl⟩
    |false=>rw[aU,bP];exact Z _ _ ⟨rfl,by rw[Bool.false_or]⟩
 .intro ax z;refine aT (λv U=>w=U/\∃c:Bool,v= .bool c/\(c=true↔l[0]?=σ 45)) ?_ ?_
  .rintro _ _ ⟨rfl,c,rfl,ab⟩;rw[b7];refine⟨λav=>?_,λr=>?_⟩
   .obtain⟨m,rfl⟩:∃m,l=45::m:=by
     have:=ab.1 av;cases l with
     |nil=>simp at this
     |cons x m=>exact⟨m,by simp at this;rw[this]⟩
    rw[zW (y:=1) (i:=1) rfl cZ.u Ξ];exact z _ _ _ ⟨Ext.refl _,m,-1,rfl,rfl,λb A=>L b (.tail _ A),by simp at V;omega,AO⟩
   .refine z _ _ _ ⟨Ext.refl _,l,1,rfl,rfl,L,V,AP λb A he=>?_⟩;subst he;have:=ab.2 A;rw[r]at this;cases this
  .intro R e;rw[nJ cZ.u,bP,aj];refine⟨λh=>?_,λh=>e _ _ ⟨rfl,false,rfl,?_⟩⟩
   .obtain⟨b,A⟩:=aF (l:=l) (i:=0) Ω;rw[p0 (y:=0) (i:=0) rfl cZ.u L A,bd];refine e _ _ ⟨rfl,_,rfl,?_⟩;rw[decide_eq_true_eq,A];exact⟨λh=>by rw[h],λh=>Z2 h⟩
   .have:l=[]:=j4 Ω;subst this;simp
theorem NF{s:Go.Sem x1}(h:aa x7 s w λu=>u=v)(hk:K v):aa x7 s w K:=by
 obtain⟨u,h1,rfl⟩:=h;exact⟨u,h1,hk⟩
abbrev hg:Type:=Λ×Int
def fK(x:hg):List x1:=[bR x.1,Δ x.2]
theorem wu(x:hg):∀u∈fK x,u.oneCell'=true:=by
 intro u hu;simp[fK]at hu;rcases hu with rfl|rfl<;>rfl
def iV(w:x3)(v:x1)(L:List hg):Prop:=cc w 2 v L.length (L.flatMap fK)
theorem wv{g:Nat}{L:List hg}(h:ba fK 2 ch w g v L):iV w v L:=h.sl
theorem CZ{L:List hg}{a:r9}(h:iV w v L):aa x7 (V2 #[fk] a #[v]) w K=K (Δ (L.length:Int)):=by
 obtain⟨_,_,_,_,_,rfl,_⟩:=h;exact hy fk.u
theorem NG{cs:List x1}(h:cc w k v n cs)(f:ae S w w')(p:∀r,leadsTo v r->¬S r):cc w' k v n cs:=by
 obtain⟨h1,b,o,base,cap,rfl,q,s,e,x⟩:=h;refine⟨h1,b,o,base,cap,rfl,q,s,e,?_⟩;rcases Q4 n with a|a
 .have:cs=[]:=j4 (by rw[h1,a,Nat.zero_mul]);subst this;intro j v y;simp at y
 .have z:=e a;exact hx f (p b ⟨⟨b,o,ν⟩,n,cap,by rw[z],rfl⟩) x
theorem iV.V{L:List hg}(h:iV w v L)(a:ae S w w')(e:∀r,leadsTo v r->¬S r):iV w' v L:=NG h a e
theorem C0{x:hg}{L:List hg}(h:iV w v (x::L))(a:∀b o,w.rangeAt b o (fK x)->K (.pointer (σ ⟨b,o,ν⟩))):aa x7 (j5 fk v (Δ 0)) w K:=by
 obtain⟨_,b,o,base,cap,rfl,_,_,e,f⟩:=h;have:=e3 (P:=x7) (w:=w) (K:=K) (k:=.i64) (c:=cap) fk.u ch.i (show 0<(x::L).length by simp) e;rw[show((0:Nat):Int)=0 from rfl]at this;rw[this];refine a _ _ λj u hu=>?_;have p:=(x4.1 hu).1;rw[Nat.zero_mul,Nat.add_zero];exact f j u (by rw[W0,Y1 p];exact hu)
theorem NH{x:hg}{L:List hg}(h:iV w v (x::L))(s:∀j,(∀w',iV w' v (x::L)->iV w' j L)->(∀r,leadsTo j r->leadsTo v r)->K j):aa x7 (V6 fk v (σ (Δ 1)) ν ν) w K:=by
 have B:=h;obtain⟨_,b,o,base,cap,rfl,C,_⟩:=h;rw[gk fk.u ch.i (nu 1 1 rfl) iH eU Ξ Ω (p8 _)];refine s _ (λw' y=>?_) λr z=>?_
 .have:=cc.part (l:=1) (h:=(x::L).length) (m:=cap) y Ξ (p8 _) Ω (p8 _);have e:(((x::L).flatMap fK).drop (1*2)).take (((x::L).length-1)*2)=L.flatMap fK:=by
   rw[W0];have A:(L.flatMap fK).length=L.length*2:=gu (k:=2) λ_ _=>rfl;show(L.flatMap fK).take _=_;rw[j0 (by rw[A,c9,Nat.add_sub_cancel];exact p8 _)]
  rw[e]at this;exact this
 .obtain⟨a,n,c,f,p⟩:=z;split at f
  .cases f;exact⟨_,_,_,rfl,p⟩
  .cases base with
   |none=>cases f
   |some q=>cases f;exact⟨_,_,_,rfl,p⟩
theorem NI{g:Nat}{L:List hg}(x:y=(n:Int))(h:ba fK 2 ch w g v L)(z:n<=L.length)(A:∀p,iV w p (L.take n)->(∀r,leadsTo p r->leadsTo v r)->K p):aa x7 (V6 fk v ν (σ (Δ y)) ν) w K:=by
 have B:=wv h;obtain⟨_,b,o,base,cap,rfl,F,_⟩:=h.sl;rw[gk fk.u ch.i iG (nv n y x) eU (X4 _) Ω (p8 _)];refine A _ ?_ λr C=>?_
 .have:=cc.part (l:=0) (h:=n) (m:=cap) B (X4 _) z Ω (p8 _);have e:((L.flatMap fK).drop (0*2)).take ((n-0)*2)=(L.take n).flatMap fK:=by
   rw[Nat.zero_mul,List.drop_zero,Nat.sub_zero,qn (f:=fK) (k:=2) n λ_ _=>rfl]
  rw[e]at this;have E:(L.take n).length=n-0:=by rw[o7];omega
  unfold iV;rw[E];exact this
 .obtain⟨a,n,c,j,s⟩:=C;split at j
  .cases j;exact⟨_,_,_,rfl,s⟩
  .cases base with
   |none=>cases j
   |some q=>cases j;exact⟨_,_,_,rfl,s⟩
def NJ(w:x3)(pl:Λ)(v:x1)(w':x3):Prop:=Ext w w'/\∃a L,∃bad:Int,v= .tuple #[a,Δ bad]/\iV w' a L/\L.map (·.1)=(lex pl).1/\(0<=bad↔(lex pl).2=false)/\(∀r,leadsTo a r->w.heap.size<=r)/\∀r,leadsTo a r->∃c,ad w' r ch c
theorem NK{p:x1}(S:aH .u8 w p pl)(aA:Bytes pl)(bc:pl.length<=65536):ai x7 GP [p] w (NJ w pl):=by
 refine az func118 ?_;rw[aW cH.u S];refine pI.range pl.length (λi _ _ A N J=>Ext w J/\∃g L,∃(q:List (Λ))(B:Λ)(op:Bool),N= .bool op/\ba fK 2 ch J g A L/\L.map (·.1)=(if op then q++[B]else q)/\(op=true->B.length<=i)/\L.length<=i/\ig (pl.drop i) q B op=lex pl/\∀r,leadsTo A r->w.heap.size<=r) S.le
  ⟨Ext.refl _,0,[],[],[],false,rfl,ba.nil _ _ _ _ _,rfl,(λh=>by cases h),p8 _,Jv pl,λr C=>(fq C).elim⟩ ?_ ?_
 rotate_left
 .rintro aC t3 A N J aD ⟨G,g,L,q,B,op,rfl,E,z,_,_,s,H⟩;refine cn Ω ?_;rw[List.drop_length]at s;have s:(if op then q++[B]else q,true)=lex pl:=s;exact⟨G,A,L,-1,rfl,wv E,by rw[z,<-s],by rw[<-s];simp,H,λr C=>by obtain⟨rfl,c,X⟩:=ef E C;exact⟨c,X⟩⟩
 rintro i aC t3 A N J aD hi ⟨G,g,L,q,B,op,rfl,E,z,am,bf,s,H⟩ aE;obtain⟨b,Y⟩:=aF (l:=pl) hi;have bg:=aA b (x5 Y);have an:pl.drop i=b::pl.drop (i+1):=by rw[X8 hi,(x4.1 Y).2]
 rw[an]at s;unfold ig at s;refine bQ Ω ?_;refine zS (λ_ _ A N Z=>Ext w Z/\∃g L,∃(q:List (Λ))(B:Λ)(op:Bool),N= .bool op/\ba fK 2 ch Z g A L/\L.map (·.1)=(if op then q++[B]else q)/\(op=true->B.length<=i+1)/\L.length<=i+1/\ig (pl.drop (i+1)) q B op=lex pl/\∀r,leadsTo A r->w.heap.size<=r) ?_ ?_
 .rintro bh bi a3 a4 Z aG;rw[aP];exact aE _ _ _ _ _ aG
 intro ax ao;rw[be cH.u cD.i Ψ (S.ext G) Y];refine aT (λv O=>J=O/\v= .bool (cq b)) ?_ ?_
 rotate_left
 .intro ab y;unfold cq at y;rw[bd,aj];refine⟨λh=>y _ _ ⟨rfl,by rw[decide_eq_true (.inl h)]⟩,λh1=>?_⟩;rw[bd,aj];refine⟨λh=>y _ _ ⟨rfl,by rw[decide_eq_true (.inr (.inl h))]⟩,λU=>?_⟩;rw[bd,aj];refine⟨λh=>y _ _ ⟨rfl,by rw[decide_eq_true (.inr (.inr (.inl h)))]⟩,λaI=>?_⟩;rw[bd];refine y _ _ ⟨rfl,?_⟩;congr 1;rw[U1,decide_eq_true_eq,decide_eq_true_eq];exact⟨λh=>.inr (.inr (.inr h)),λh=>by rcases h with h|h|h|h;exact absurd h h1;exact absurd h U;exact absurd h aI;exact h⟩
 rintro _ _ ⟨rfl,rfl⟩;cases I:cq b with
 |true=>
  rw[bL];rw[if_pos I]at s;exact ao _ _ _ _ _ ⟨G,g,L,_,[],false,rfl,E,z,(λh=>by cases h),Ω,s,H⟩
 |false=>
  rw[aU];rw[if_neg (by rw[I];simp)]at s;refine aT (λv O=>J=O/\v= .bool (!bM b)) ?_ ?_
  rotate_left
  .intro ab y;unfold bM at y;rw[aQ,aj];refine⟨λh=>y _ _ ⟨rfl,by rw[decide_eq_false Ω];rfl⟩,λh=>?_⟩;rw[bP];refine y _ _ ⟨rfl,?_⟩;by_cases U:126<b
   .rw[decide_eq_true U,decide_eq_false Ω];rfl
   .rw[decide_eq_false U,decide_eq_true Ω];rfl
  rintro _ _ ⟨rfl,rfl⟩;cases hw:bM b with
  |false=>
   rw[W5,bL];rw[if_neg (by rw[hw];simp)]at s;refine aT (λv O=>J=O/\∃V,iV J v V/\V.map (·.1)=q/\(∀r,leadsTo v r->w.heap.size<=r)/\∀r,leadsTo v r->leadsTo A r) ?_ ?_
   .rintro v _ ⟨rfl,V,ac,aJ,W,aK⟩;exact⟨G,v,V,(i:Int),rfl,ac,by rw[aJ,<-s],by rw[<-s];simp,W,λr C=>by obtain⟨rfl,c,X⟩:=ef E (aK r C);exact⟨c,X⟩⟩
   .intro ab y;cases op with
    |false=>
     rw[aU];rw[if_neg Ξ]at z;exact y _ _ ⟨rfl,L,wv E,z,H,λ_ h=>h⟩
    |true=>
     rw[bL];rw[if_pos rfl]at z;have ad:L.length=q.length+1:=by have:=congrArg R6 z;simpa using this
     rw[ez fk.u E,dD,wrap_i64 Ω Ω];refine NI (n:=q.length) Ω E Ω λQ ac W=>y _ _ ⟨rfl,_,ac,?_,λr C=>H r (W r C),W⟩;rw[List.map_take,z,List.take_left]
  |true=>
   rw[Y6,aU];rw[if_pos hw]at s;refine aT (λA ae=>Ext w ae/\∃g M,∃x:hg,ba fK 2 ch ae g A (M++[x])/\M.map (·.1)=q/\x.1=(if op then B else[])/\(M++[x]).length<=i+1/\∀r,leadsTo A r->w.heap.size<=r) ?_ ?_
   .rintro bj ae ⟨ap,aL,M,x,aM,aN,af,aO,aq⟩;intro ag ah _ _;have R:=aM.ext ah;have au:(M++[x])[M.length]?=σ x:=Ξ
    have bk:(M++[x]).length=M.length+1:=Ξ
    rw[ez fk.u R,dD,wrap_i64 Ω Ω,dj (i:=M.length) Ω fk.u ch.i R Ω,aR ch.p rfl,aB (o:=M.length*2+0) Ψ (R.range au 0 _ rfl),aP,wrap_i64 Ω Ω];obtain⟨bl,av⟩:∃Q,aH .u8 ag Q [b]/\aa x7 (V6 cH p (σ (Δ (i:Int))) (σ (Δ ((i:Int)+1))) ν) ag (λv=>v=Q):=by
     have aS:=S.ext (ap.trans ah);have:=r7 (P:=x7) (low:=σ (Δ (i:Int))) (high:=σ (Δ ((i:Int)+1))) (K:=λv=>aH .u8 ag v [b]) cH.u cD.i aS (nu i _ rfl) (nv (i+1) ((i:Int)+1) Ω) Ω Ω λQ aw=>by
      have e:((ints .u8 pl).drop (i*1)).take ((i+1-i)*1)=ints .u8 [b]:=by
       simp only[T0,show i+1-i=1 by omega];rw[ints,<-List.map_drop,<-List.map_take,an];rfl
      rw[e]at aw;exact aH.of (n:=i+1-i) aw
     obtain⟨v,aV,aX⟩:=this;exact⟨v,aX,v,aV,rfl⟩
    refine NF av.2 ?_;have bm:x.1.length<=65536:=by
     rw[af];cases op with
     |true=>rw[if_pos rfl];have:=am rfl;omega
     |false=>simp
    rw[vg cH.u cD.u cZ.u av.1,vf Θ,dj (i:=M.length) Ω fk.u ch.i R Ω,aR ch.p rfl];refine pa (f:=fK) (j:=0) (a:=x) (a':=(x.1++[b],x.2)) cZ.i rfl rfl R au rfl Ω λbn aY bo ay=>?_;have e:(M++[x]).set M.length (x.1++[b],x.2)=M++[(x.1++[b],x.2)]:=by
     rw[S0 _ _ (p8 _),U2];rfl
    rw[e]at ay;refine ao _ _ _ _ _ ⟨(ap.trans ah).then aY (λr C he=>by have:=aq r he;omega),aL,_,q,x.1++[b],true,rfl,ay,by rw[Z4,aN];rfl,λ_=>?_,by simp at aO ⊢;omega,?_,aq⟩
    .rw[r8,af];cases op with
     |true=>rw[if_pos rfl];have:=am rfl;simp;omega
     |false=>simp
    .rw[<-s,af];cases op with
     |true=>rfl
     |false=>rfl
   .intro ab y;cases op with
    |true=>
     rw[bC,Y6,aU];rw[if_pos rfl]at z;have ad:L.length=q.length+1:=by have:=congrArg R6 z;simpa using this
     obtain⟨M,x,rfl⟩:∃M x,L=M++[x]:=by
      have:L≠[]:=λh=>by rw[h]at ad;simp at ad
      exact⟨L.dropLast,L.getLast this,(List.dropLast_concat_getLast this).symm⟩
     rw[Z4]at z;obtain⟨aZ,ak⟩:=List.append_inj' z Ξ;refine y _ _ ⟨G,g,M,x,E,aZ,?_,Ω,H⟩;rw[if_pos rfl];have ak:[x.1]=[B]:=ak;exact(List.cons.inj ak).1
    |false=>
     rw[bC,W5,bL];rw[if_neg Ξ]at z;rw[dh (cs:=#[bR [],Δ (i:Int)]) Ψ];refine h2 (f:=fK) (a:=(([],(i:Int)):hg)) fk.u ch.i Ω rfl rfl λv9 bp bq br al a1=>?_;have a2:=E.ext al;refine ik (f:=fK) (a:=(([],(i:Int)):hg)) fk.u ch.i rfl a2 (by simpa using a1.sl) (wu _) Ω Ω λQ a6 bt a7 a8 bb=>?_;have bu:=G.size;have z9:=al.size;refine y _ _ ⟨(G.trans al).then bb (λr C he=>by have:=H r he;omega),a6,L,_,a7,z,rfl,Θ,λr C=>?_⟩;rcases a8 r C with h|h
     .exact H r h
     .omega
structure wx where
 v:x1
 t:Λ
 c:Int
def n2(y:wx):List x1:=[y.v,Δ y.c]
def kz(w:x3)(g:Nat)(v:x1)(l:List (Λ×Int)):Prop:=∃L:List wx,ba n2 2 b5 w g v L/\(∀y∈L,∃gy,aq .i64 al w gy y.v y.t)/\L.map (λy=>(y.t,y.c))=l
structure iW where
 aN:x1
 szv:x1
 o:Int
 b3:x1
def eY(h:iW):List x1:=[h.aN,h.szv,Δ h.o,h.b3]
def gO(w:x3)(h:iW)(x:cm):Prop:=(∃g,aq .i64 al w g h.aN x.scope)/\(∃g,aq .i64 al w g h.szv x.sizes)/\h.o=x.other/\∃g,kz w g h.b3 x.lines
def hh(w:x3)(r:Nat):Prop:=∃e c,ad w r e c/\e≠al/\e≠b5
theorem eG{g:Nat}(h:aq .i64 al w g v l)(f:ae S w w')(j:∀r,S r->hh w r\/w.heap.size<=r):aq .i64 al w' g v l:=bo h f λr a I=>by
 rcases j r I with⟨e,c,p,q,_⟩|s
 .exact b4 h p (λhe=>q he.symm) a rfl
 .obtain⟨x,y⟩:=bO h a;omega
theorem wy{α:Type}{f:α->List x1}{g:Nat}{L:List α}(h:ba f k e w g v L)(p:ae S w w')(q:∀r,S r->(∃a c,ad w r a c/\a≠e)\/w.heap.size<=r):ba f k e w' g v L:=h.V p λr j I=>by
 rcases q r I with⟨a,c,s,x⟩|y
 .exact cC h s (λhe=>x he.symm) j
 .obtain⟨z,A⟩:=h.leads j;omega
theorem kz.dL{g:Nat}{l:List (Λ×Int)}(h:kz w g v l)(a:ae S w w')(f:∀r,S r->hh w r\/w.heap.size<=r):kz w' g v l:=by
 obtain⟨L,h1,j,p⟩:=h;refine⟨L,wy h1 a λr q=>(f r q).imp (λ⟨e,c,s,_,x⟩=>⟨e,c,s,x⟩) id,λy z=>?_,p⟩;obtain⟨gy,hm⟩:=j y z;exact⟨gy,eG hm a f⟩
theorem gO.dL{h:iW}{x:cm}(ao:gO w h x)(a:ae S w w')(e:∀r,S r->hh w r\/w.heap.size<=r):gO w' h x:=by
 obtain⟨⟨g1,h1⟩,⟨f,j⟩,p,q,s⟩:=ao;exact⟨⟨g1,eG h1 a e⟩,⟨f,eG j a e⟩,p,q,s.dL a e⟩
theorem gO.ext{h:iW}{x:cm}(ao:gO w h x)(a:Ext w w'):gO w' h x:=ao.dL (a.V λ_=>False) λ_ h=>h.elim
theorem gO.one{h:iW}{x:cm}(ao:gO w h x):∀u∈eY h,u.oneCell'=true:=by
 obtain⟨⟨g1,h1⟩,⟨f,a⟩,j,p,L,e,_⟩:=ao;intro u hu;simp[eY]at hu;rcases hu with rfl|rfl|rfl|rfl
 .exact h1.ls.cells.2
 .exact a.ls.cells.2
 .rfl
 .exact (dp e.sl).2
def l2(w:x3)(a:x1)(f:List hg)(gs:Nat)(sv:x1)(L:List iW)(e:List cm):Prop:=(iV w a f/\∀r,leadsTo a r->∃c,ad w r ch c)/\ba eY 4 a1 w gs sv L/\e.length=L.length/\∀(i:Nat)h x,L[i]?=σ h->e[i]?=σ x->gO w h x
theorem l2.dL{p:x1}{y:List hg}{gs:Nat}{L:List iW}{z:List cm}(h:l2 w p y gs sv L z)(j:ae S w w')(q:∀r,S r->(∃e c,ad w r e c/\e≠al/\e≠b5/\e≠ch/\¬leadsTo sv r)\/w.heap.size<=r):l2 w' p y gs sv L z:=by
 obtain⟨⟨h1,A⟩,B,E,F⟩:=h;have hw:∀r,leadsTo p r->¬S r:=λr a I=>by
  obtain⟨c,f⟩:=A r a;rcases q r I with⟨e,G,C,_,_,s,_⟩|H
  .exact s (ep C f)
  .have:=f.lt;omega
 refine⟨⟨h1.V j hw,λr a=>?_⟩,B.V j λr a I=>?_,E,λi ao x hi J=>(F i ao x hi J).dL j λr a=>(q r a).imp (λ⟨e,c,f,K,M,_⟩=>⟨e,c,f,K,M⟩) id⟩
 .obtain⟨c,f⟩:=A r a;exact⟨c,f.V j (hw r a)⟩
 .rcases q r I with⟨e,G,C,_,_,_,s⟩|H
  .exact s a
  .obtain⟨N,O⟩:=B.leads a;omega
def gB(a:x1)(e f bad h big j told:Int)(sv:x1):List x1:=[a,Δ e,Δ f,Δ bad,Δ h,Δ big,Δ j,Δ told,sv]
def NL(N:Nat)(so:Option aD)(a:List hg)(e bad big told:Int)(L:List iW)(f:List cm):Prop:=match so with
 |some s=>bad=0/\e≠0/\(big≠0↔s.big=true)/\(s.big=false->told=s.told)/\True/\a.map (·.1)=s.toks/\(∀t∈s.toks,Bytes t/\t.length<=65536)/\f.map (λx=>(x.sizes,x.lines))=s.shared/\L.length+a.length<=100000
 |none=>bad≠0/\L.length<=N
def bK(w:x3)(g B:Nat)(H:af)(N:Nat)(so:Option aD):Prop:=100000<=N/\∃w0 a e gs sv L f,∃(j h bad p big q told:Int),w0.heap.size=B/\ae (λr=>r=g) w0 w/\(∃c,ad w0 g bw c)/\ad w g bw (gB a j h bad p big q told sv)/\l2 w0 a e gs sv L f/\(∀r,leadsTo sv r->H r)/\NL N so e h bad big told L f
theorem l2.g{g:Nat}{e:x1}{f:List hg}{gs:Nat}{L:List iW}{j:List cm}(h:l2 w e f gs sv L j)(q:ae (λr=>r=g) w w')(s:∃c,ad w g bw c):l2 w' e f gs sv L j:=
 h.dL q λr a=>.inl (by
  have a:r=g:=a;subst a;obtain⟨c,p⟩:=s;exact⟨_,c,p,Φ,Φ,Φ,λx=>cC h.2.1 p Φ x⟩)
theorem bK.new{g:Nat}{H:af}{so:Option aD}(h:bK w g B H N so)(a:ae S w w')(e:∀r,S r->B<=r):bK w' g B H N so:=by
 obtain⟨s,w0,x,y,gs,sv,L,z,A,C,bad,E,big,F,told,h1,f,j,G,J,K,M⟩:=h;have p:g<w0.heap.size:=by obtain⟨c,O⟩:=j;exact O.lt
 exact⟨s,w0,x,y,gs,sv,L,z,A,C,bad,E,big,F,told,h1,⟨Y5 f.size a.size,λr o q I p=>a.aY r o (f.aY r o q I p) I λP=>by
  have:=e r P;have:=(n9.1 q).1;omega⟩,j,G.V a λI=>by have:=e g I;omega,J,K,M⟩
theorem bK.ext{g:Nat}{H:af}{so:Option aD}(h:bK w g B H N so)(a:Ext w w'):bK w' g B H N so:=h.new (a.V λ_=>False) λ_ h=>h.elim
theorem bK.base{g:Nat}{H:af}{so:Option aD}(h:bK w g B H N so):bK w g w.heap.size H N so:=by
 obtain⟨e,w0,f,j,gs,sv,L,p,q,r,bad,s,big,x,told,h1,y,z,a,A,C,E⟩:=h;exact⟨e,w,f,j,gs,sv,L,p,q,r,bad,s,big,x,told,rfl,ae.refl _ _,⟨_,a⟩,a,A.g y z,C,E⟩
theorem bK.dL{g:Nat}{H:af}{so:Option aD}(h:bK w g B H N so)(j:ae S w w')(p:∀r,S r->(∃e c,ad w r e c/\e≠al/\e≠b5/\e≠ch/\e≠bw/\¬H r)\/w.heap.size<=r):bK w' g w'.heap.size H N so:=by
 obtain⟨z,w0,q,s,gs,sv,L,x,A,C,bad,E,big,F,told,h1,G,J,f,K,y,M⟩:=h.base;have O:l2 w q s gs sv L x:=K.g G J;have a:=f.V j λI=>by
  rcases p g I with⟨e,c,a,_,_,_,P,_⟩|Z
  .exact P (ep a f)
  .have:=f.lt;omega
 refine⟨z,w',q,s,gs,sv,L,x,A,C,bad,E,big,F,told,rfl,ae.refl _ _,⟨_,a⟩,a,O.dL j λr Q=>(p r Q).imp (λ⟨e,c,a,R,U,W,_,X⟩=>⟨e,c,a,R,U,W,λY=>X (y r Y)⟩) id,y,M⟩
theorem bK.lt{g:Nat}{H:af}{so:Option aD}(h:bK w g B H N so):g<B/\B<=w.heap.size:=by
 obtain⟨f,w0,j,p,gs,sv,L,q,r,s,bad,x,big,y,told,h1,a,⟨c,e⟩,_⟩:=h;have:=e.lt;have:=a.size;omega
theorem h4{g:Nat}{H:af}{so:Option aD}(h:bK w g B H N so):∃a,∃(e f bad j big p told:Int),∃sv,ad w g bw (gB a e f bad j big p told sv)/\(so.isSome=true↔bad=0):=by
 obtain⟨x,w0,a,y,gs,sv,L,z,e,f,bad,j,big,p,told,h1,A,C,r,E,F,q⟩:=h;refine⟨a,e,f,bad,j,big,p,told,sv,r,?_⟩;cases so with
 |none=>exact⟨(λh=>by cases h),λh=>absurd h q.1⟩
 |some s=>exact⟨λ_=>q.1,λ_=>rfl⟩
theorem lg{g:Nat}{H:af}{so:Option aD}(h:bK w g B H N so):aa x7 (bN (Γ g)) w (λa=>aa x7 (u5 bw a 3) w λt45=>aa x7 (u4 ah t45) w λt46=>aa x7 (aJ .eql ah false true t46 (Δ 0)) w K)=K (.bool so.isSome):=by
 obtain⟨f,j,q,bad,r,big,s,told,sv,e,hi⟩:=h4 h;rw[aG bw.p 3 e rfl,bd];congr 2;rw[U1,decide_eq_true_eq];exact hi.symm
theorem qP{g:Nat}{H:af}{so:Option aD}(h:bK w g B H N so):aa x7 (bN (Γ g)) w (λf=>aa x7 (u5 bw f 3) w λt45=>aa x7 (u4 ah t45) w λt46=>aa x7 (aJ .neq ah false true t46 (Δ 0)) w K)=K (.bool (!so.isSome)):=by
 obtain⟨q,r,s,bad,x,big,y,told,sv,j,hi⟩:=h4 h;rw[aG bw.p 3 j rfl,bI];congr 2;cases e:so.isSome with
 |true=>have a:=hi.1 e;simp[a]
 |false=>
  have a:bad≠0:=λa=>by rw[hi.2 a]at e;cases e
  simp[a]
def po(w:x3)(g B:Nat)(H:af)(N:Nat)(so:Option aD)(w':x3):Prop:=ae (λr=>r=g) w w'/\bK w' g B H N so
theorem n3{g:Nat}{H:af}{so:Option aD}{e at_:Int}(h:bK w g B H N so)(he:e≠0):ai x7 nq [Γ g,Δ e,Δ at_] w λ_ w'=>po w g B H N ν w':=by
 refine az func123 ?_;rw[lg h];cases so with
 |none=>rw[R4,aU];exact⟨ae.refl _ _,h⟩
 |some s=>
  rw[R2,bL];obtain⟨y,w0,f,z,gs,sv,L,A,j,q,bad,R,big,r,told,h1,C,E,G,I,K,M⟩:=h;rw[bJ,aR bw.p rfl];refine bk (g:=g) (o:=3) ah.i rfl rfl G (by simp[gB]) λJ O S P=>?_;rw[bJ,aR bw.p rfl];refine bk (g:=g) (o:=4) ah.i rfl rfl P (by simp[gB]) λU Q V a=>?_;have a:ad U g bw (gB f j q e at_ big r told sv):=a;have x:=O.trans Q;obtain⟨_,_,_,_,_,_,_,_,W⟩:=M;exact⟨x,y,w0,f,z,gs,sv,L,A,j,q,e,at_,big,r,told,h1,C.trans x,E,a,I,K,he,Ω⟩
theorem mM{g:Nat}{H:af}{so:Option aD}{b:Bool}{at_:Int}(h:bK w g B H N so):ai x7 rK [Γ g,.bool b,Δ at_] w λ_ w'=>po w g B H N (so.map (a8 b)) w':=by
 refine az func120 ?_;obtain⟨I,w0,e,K,gs,sv,L,M,f,j,bad,q,big,X,told,h1,O,P,r,Q,R,x⟩:=id h;refine aT (λv J=>w=J/\v= .bool (b&&decide (big=0)&&so.isSome)) ?_ ?_
 .rintro _ _ ⟨rfl,rfl⟩;rw[b7];refine⟨λS=>?_,λY=>⟨ae.refl _ _,I,w0,e,K,gs,sv,L,M,f,j,bad,q,big,X,told,h1,O,P,r,Q,R,?_⟩⟩
  .rw[U4,U4]at S;obtain⟨⟨Z,ak⟩,aa⟩:=S;rw[bJ,aR bw.p rfl];refine bk (g:=g) (o:=5) ah.i rfl rfl r (by simp[gB]) λJ ab al ac=>?_;rw[bJ,aR bw.p rfl];refine bk (g:=g) (o:=6) ah.i rfl rfl ac (by simp[gB]) λU ag am y=>?_;have y:ad U g bw (gB e f j bad q 5 at_ told sv):=y;have V:=ab.trans ag;refine⟨V,I,w0,e,K,gs,sv,L,M,f,j,bad,q,5,at_,told,h1,O.trans V,P,y,Q,R,?_⟩;cases so with
   |none=>cases aa
   |some s=>
    obtain⟨z,A,W,C,E⟩:=x;exact⟨z,A,⟨λ_=>by show(s.big||b)=true;rw[Z,Bool.or_true],λ_=>Ω⟩,λao=>C (U5.1 ao).1,E⟩
  .cases so with
   |none=>exact x
   |some s=>
    obtain⟨z,A,W,C,E⟩:=x;refine⟨z,A,?_,λao=>C (U5.1 ao).1,E⟩;show big≠0↔(s.big||b)=true;cases b with
    |false=>rw[Bool.or_false];exact W
    |true=>
     have a:big≠0:=by simpa using Y
     simp[a]
 .intro ax G;cases b with
  |false=>rw[aU];exact G _ _ ⟨rfl,Ξ⟩
  |true=>
   rw[bL,aG bw.p 5 r rfl,bd,aj];refine⟨λa=>?_,λa=>G _ _ ⟨rfl,by rw[decide_eq_false a];simp⟩⟩;rw[lg h];exact G _ _ ⟨rfl,by rw[decide_eq_true a];simp⟩
def ju(so:Option aD):Option (Λ×aD):=so.bind dQ
theorem C1{g:Nat}{H:af}{so:Option aD}(h:bK w g B H N so):ai x7 GQ [Γ g] w λv w'=>po w g B H N ((ju so).map (·.2)) w'/\∃(t:Λ)(n:Int),v= .agg #[bR t,Δ n]/\Bytes t/\t.length<=65536/\∀q,ju so=σ q->t=q.1:=by
 have aH:=h.lt;refine az func119 ?_;refine bz ch.i λa J bm y z=>?_;have h1:=h.ext y;have zero:∀{f:x3},po J g B H N ν f->ad f a ch [.string ⟨#[]⟩,Δ 0]->ju so=ν->(aa x7 (Instr.build ch #[]) f λt9=>
   aC x7 (o6 ch (Γ a) t9) f λ(_:Unit)U=>
   aa x7 (do loadVar ch (<-asAddr (Γ a))) U λaI=>(λv w'=>po w g B H N ((ju so).map (·.2)) w'/\∃(t:Λ)(n:Int),v= .agg #[bR t,Δ n]/\Bytes t/\t.length<=65536/\∀q,ju so=σ q->t=q.1) aI U):=by
  intro f j I Q;rw[dh (cs:=#[.string ⟨#[]⟩,Δ 0]) Ψ];refine b6 (vs:=[.string ⟨#[]⟩,Δ 0]) ch.i rfl rfl (by intro v Z;simp at Z;rcases Z with rfl|rfl<;>rfl) I λaJ ab bn aK=>?_;rw[fC ch.p ch.i rfl aK.range,Q];have aL:=y.size;have bo:=aH;refine⟨⟨hC ((y.V _).trans j.1) ab λr e he=>?_,j.2.new ab λr e=>?_⟩,[],0,rfl,(λb aM=>by cases aM),Ξ,λq R=>by cases R⟩
  .have he:r=a:=he;omega
  .have e:r=a:=e;omega
 rw[qP h1];cases so with
 |none=>
  rw[R4,W5,bL];exact zero ⟨ae.refl _ _,h1⟩ z rfl
 |some s=>
 rw[R2,Y6,aU];obtain⟨aN,w0,bp,S,gs,sv,L,ac,ag,ah,bad,ak,big,al,told,aO,am,an,A,K,aP,aQ⟩:=id h1;have aS:=K.g am an;obtain⟨⟨M,bq⟩,_⟩:=id aS;obtain⟨aT,ao,aV,aW,aX,ap,aq,aY,aZ⟩:=id aQ;rw[aG bw.p 0 A rfl,CZ M,bd,aj];refine⟨λau=>?_,λau=>?_⟩
 .have a1:S=[]:=j4 Ω;have C:s.toks=[]:=by rw[<-ap,a1];rfl
  have Q:ju (σ s)=ν:=by show dQ s=ν;unfold dQ;rw[C]
  intro f O _ _;have I:=A.ext O;rw[aG bw.p 2 I rfl,aG bw.p 1 I rfl];refine(n3 (h1.ext O) ao).mono ?_;rintro _ aJ _ j;have a2:=z.lt;exact zero ⟨(O.V _).trans j.1,j.2⟩ ((z.ext O).V j.1 λhe=>by have he:a=g:=he;omega) Q
 .obtain⟨x,E,rfl⟩:∃x l,S=x::l:=by
   cases S with
   |nil=>exact absurd rfl au
   |cons x l=>exact⟨x,l,rfl⟩
  have C:s.toks=x.1::E.map (·.1):=by rw[<-ap];rfl
  have a6:ju (σ s)=σ (x.1,{s with toks:=E.map (·.1)}):=by show dQ s=_;unfold dQ;rw[C]
  have av:=aq x.1 (by rw[C];exact .head _);rw[aG bw.p 0 A rfl];refine C0 M λb o a7=>?_;rw[bH ch.p ch.i rfl a7];refine bz ch.i λaw br bt a8 ba=>?_;refine b6 (vs:=fK x) ch.i rfl rfl (wu x) ba λbb bc bu ax=>?_;have P:Ext J bb:=a8.put bc Ω;have ay:=A.ext P;rw[aG bw.p 0 ay rfl];refine NH (M.V (P.V λ_=>False) λ_ _ h=>h) λW aA be=>?_;have aB:=aA J M;rw[bJ,aR bw.p rfl];refine bk (g:=g) (o:=0) fk.i (dp aB).1 (dp aB).2 ay (by simp[gB]) λG X bx Y=>?_;have Y:ad G g bw (gB W ag ah bad ak big al told sv):=Y;have a2:=A.lt;have bA:=ax.lt;have bB:=z.lt;have aL:=y.size;have bf:ad G aw ch (fK x):=ax.V X λhe=>by have he:aw=g:=he;omega
  rw[bH ch.p ch.i rfl bf.range];have bg:ad G a ch [.string ⟨#[]⟩,Δ 0]:=(ad.ext z P).V X λhe=>by have he:a=g:=he;omega
  refine b6 (vs:=fK x) ch.i rfl rfl (wu x) bg λbC aE bD bh=>?_;rw[fC ch.p ch.i rfl bh.range];have aF:ae (λr=>r=g) J G:=(P.V _).trans X;rw[a6];refine⟨⟨hC ((y.V _).trans aF) aE λr e he=>?_,?_⟩,x.1,x.2,rfl,av.1,av.2,λq R=>by cases R;rfl⟩
  .have he:r=a:=he;omega
  .have bi:l2 w0 W E gs sv L ac:=⟨⟨aA w0 K.1.1,λr e=>K.1.2 r (be r e)⟩,K.2⟩;have bj:bK G g B H N (σ {s with toks:=E.map (·.1)}):=⟨aN,w0,W,E,gs,sv,L,ac,ag,ah,bad,ak,big,al,told,aO,am.trans aF,an,Y,bi,aP,aT,ao,aV,aW,aX,rfl,λt bl=>aq t (by rw[C];exact .tail _ bl),aY,by simp at aZ;omega⟩;refine bj.new aE λr e=>?_;have e:r=a:=e;omega
theorem NM{lo hi:Int}{so:Option aD}:a7 lo hi so=match ju so with
  |none=>ν
  |some (w,s)=>match gn w with
   |none=>ν
   |some n=>if lo<=n/\n<=hi then σ (n,s)else ν:=by
 cases so with
 |none=>rfl
 |some s=>rfl
theorem kA{g:Nat}{H:af}{so:Option aD}{lo hi:Int}(h:bK w g B H N so):ai x7 lH [Γ g,Δ lo,Δ hi] w λv w'=>po w g B H N ((a7 lo hi so).map (·.2)) w'/\∃n at_:Int,v= .tuple #[Δ n,Δ at_]/\(∀q,a7 lo hi so=σ q->n=q.1)/\(a7 lo hi so=ν->n=0):=by
 have ay:=h.lt;refine az func121 ?_;refine(C1 h).mono ?_;rintro _ J _ ⟨⟨M,h1⟩,t,at_,rfl,Y,aA,O⟩;have aB:=h1.lt;refine bz ch.i λZ U aC aa ab=>?_;refine b6 (vs:=[bR t,Δ at_]) ch.i rfl rfl (by intro v P;simp at P;rcases P with rfl|rfl<;>rfl) ab λac ad aE Q=>?_;have R:Ext J ac:=aa.put ad Ω;have ag:=h1.ext R;rw[aL ch.p 0 Q rfl];refine(NE Y Ω).mono ?_;rintro _ C _ ⟨rfl,E⟩;have G:=ag.ext E;have S:=Q.ext E;have ah:=R.trans E;have aF:=M.size;obtain⟨n,e,ak,I,al⟩:∃n e:Int,kq t= .tuple #[Δ n,Δ e]/\(∀m,gn t=σ m->n=m/\e=0)/\(gn t=ν->e≠0):=by
  unfold kq;cases gn t with
  |none=>exact⟨0,4,rfl,(λm hm=>by cases hm),λ_=>Ω⟩
  |some m=>exact⟨m,0,rfl,(λm hm=>by cases hm;exact⟨rfl,rfl⟩),λh=>by cases h⟩
 rw[ak,br,bt];have a:=NM (lo:=lo) (hi:=hi) (so:=so);have W:ae (λr=>r=g) w C:=M.trans (ah.V _);refine dd (λx=>ae (λr=>r=g) C x/\bK x g B H N ((a7 lo hi so).map (·.2))) ?_ ?_
 .rintro x ⟨y,s⟩;rw[qP s];cases z:a7 lo hi so with
  |none=>
   rw[z]at s;rw[Option.map_none,R4,W5,bL];exact⟨⟨W.trans y,s⟩,0,0,rfl,(λq z=>by cases z),λ_=>rfl⟩
  |some q=>
   rw[z]at s a;rw[Z7,R2,Y6,aU];intro aG K _ _;have am:=(S.V y λhe=>by have he:Z=g:=he;omega).ext K;rw[aL ch.p 1 am rfl];refine⟨⟨(W.trans y).trans (K.V _),s.ext K⟩,n,at_,rfl,λaH an=>?_,λh=>by cases h⟩;cases an;cases j:ju so with
   |none=>rw[j]at a;cases a
   |some p=>
    obtain⟨bi,s1⟩:=p;have L:=O (bi,s1) j;subst L;rw[j]at a;simp only at a;cases f:gn t with
    |none=>rw[f]at a;cases a
    |some m=>
     rw[f]at a;simp only at a;split at a
     .cases a;exact(I m f).1
     .cases a
 .intro ax X;refine aT (λv x=>C=x/\∃c:Bool,v= .bool c/\(c=true->a7 lo hi so=ν)/\(c=false->(a7 lo hi so).map (·.2)=(ju so).map (·.2))) ?_ ?_
  .rintro _ _ ⟨rfl,c,rfl,ap,aq⟩;rw[b7];refine⟨λh=>?_,λh=>X _ ⟨ae.refl _ _,by rw[aq h];exact G⟩⟩;rw[aL ch.p 1 S rfl];refine(n3 G Ω).mono ?_;rintro _ x _ ⟨y,s⟩;exact X _ ⟨y,by rw[ap h];exact s⟩
  .intro aI A;rw[lg G];cases j:ju so with
   |none=>
    rw[j]at a;simp only at a;rw[Option.map_none,R4,aU];exact A _ _ ⟨rfl,false,rfl,(λh=>by cases h),λ_=>by rw[a,j];rfl⟩
   |some p=>
    obtain⟨bi,s1⟩:=p;have L:=O (bi,s1) j;subst L;rw[j]at a;simp only at a;rw[Z7,R2,bL,bI,aj];refine⟨λhe=>?_,λhe=>?_⟩
    .refine A _ _ ⟨rfl,true,rfl,λ_=>?_,λh=>by cases h⟩;cases f:gn t with
     |none=>rw[a,f]
     |some m=>exact absurd (I m f).2 he
    .have au:e=0:=X3.1 he;cases f:gn t with
     |none=>exact absurd au (al f)
     |some m=>
      rw[f]at a;simp only at a;have av:=(I m f).1;subst av;rw[aQ,aj];refine⟨λaw=>A _ _ ⟨rfl,true,rfl,λ_=>by rw[a,if_neg Ω],λh=>by cases h⟩,λaw=>?_⟩;rw[bP];refine A _ _ ⟨rfl,_,rfl,λao=>?_,λao=>?_⟩
      .rw[a,if_neg (by have:=of_decide_eq_true ao;omega)]
      .rw[a,if_pos (by have:=of_decide_eq_false ao;omega),j];rfl
theorem wz{bb bv:x1}{a b:Λ}(e:aH .i64 w bb a)(s:aH .i64 w bv b):ai x7 rL [bb,bv] w λv w'=>v= .bool (decide (a=b))/\Ext w w':=by
 refine az func174 ?_;rw[aW au.u e,aW au.u s,bI,aj];refine⟨λh=>⟨by rw[decide_eq_false];intro he;rw[he]at h;exact h rfl,Ext.refl _⟩,λh=>?_⟩;have z:a.length=b.length:=by have:=X3.1 h;omega
 rw[aW au.u e];refine cd.range a.length (λi _ J=>Ext w J/\a.take i=b.take i) e.le ⟨Ext.refl _,rfl⟩ ?_ ?_
 .rintro i _ J k hi ⟨q,f⟩ hk;obtain⟨x,j⟩:=aF (l:=a) hi;obtain⟨y,r⟩:=aF (l:=b) (i:=i) Ω;refine bQ Ω ?_;intro U A _ _;have p:=q.trans A;rw[be au.u al.i Ψ (e.ext p) j,be au.u al.i Ψ (s.ext p) r,bI,aj];refine⟨λB=>⟨by rw[decide_eq_false];intro he;rw[he,r]at j;exact B (Z2 j).symm,p⟩,λhe=>?_⟩;rw[aP];refine hk _ _ ⟨p,?_⟩;rw[u7,u7,f,j,r,X3.1 he]
 .rintro _ J k ⟨q,f⟩;rw[aQ,aj];refine⟨λh=>Ω,λ_=>⟨?_,q⟩⟩;rw[o5,z,o5]at f;rw[decide_eq_true f]
def hj(w:x3)(B a:Nat)(x:cm):Prop:=∃aN szv b3 g1 e f,ad w a a1 [aN,szv,Δ x.other,b3]/\aq .i64 al w g1 aN x.scope/\aq .i64 al w e szv x.sizes/\kz w f b3 x.lines/\(∀r,leads aN r\/leads szv r->B<=r)/\(∀r,leads aN r->¬leads szv r)/\B<=a
def C2(w:x3)(r:Nat):Prop:=(∃e c,ad w r e c/\e≠al/\e≠b5/\e≠a1)\/w.heap.size<=r
theorem hj.dL{f:Nat}{x:cm}(h:hj w B f x)(a:ae S w w')(q:∀r,S r->C2 w r):hj w' B f x:=by
 obtain⟨aN,szv,b3,g1,s,y,h1,z,A,C,E,F,G⟩:=h;have j:∀r,S r->hh w r\/w.heap.size<=r:=λr H=>(q r H).imp (λ⟨e,c,p,J,K,_⟩=>⟨e,c,p,J,K⟩) id;refine⟨aN,szv,b3,g1,s,y,h1.V a λI=>?_,eG z a j,eG A a j,C.dL a j,E,F,G⟩;rcases q f I with⟨e,c,p,_,_,L⟩|M
 .exact L (ep p h1)
 .have:=h1.lt;omega
theorem hj.ext{x:cm}(h:hj w B a x)(e:Ext w w'):hj w' B a x:=h.dL (e.V λ_=>False) λ_ h=>h.elim
theorem kB{g:Nat}{H:af}{so:Option aD}(h:bK w g B H N so):∀r,r=g->C2 w r:=λr a=>by
 subst a;obtain⟨f,j,p,bad,q,big,s,told,sv,e,_⟩:=h4 h;exact .inl ⟨_,_,e,Φ,Φ,Φ⟩
def gP(g B:Nat):af:=λr=>r=g\/B<=r
theorem NN{n:Int}{acc:Λ}{s:aD}:cK (λacc s=>match bc 0 (n-1) s with
 |none=>ν
 |some (v,s)=>if v∈acc then ν else σ (v,s)) (k+1) acc s=match bc 0 (n-1) s with
  |none=>ν
  |some (v,s')=>if v∈acc then ν else cK (λacc s=>match bc 0 (n-1) s with
 |none=>ν
 |some (v,s)=>if v∈acc then ν else σ (v,s)) k (acc++[v]) s':=by
 rw[cK];cases bc 0 (n-1) s with
 |none=>rfl
 |some q=>
  obtain⟨v,s'⟩:=q;simp only;by_cases a:v∈acc
  .rw[if_pos a,if_pos a]
  .rw[if_neg a,if_neg a]
def C3(n:Int)(k:Nat)(acc:Λ)(s:aD):Option (Λ×aD):=cK (λacc s=>match bc 0 (n-1) s with
 |none=>ν
 |some (v,s)=>if v∈acc then ν else σ (v,s)) k acc s
theorem C4{g f ar:Nat}{H:af}{s:aD}{so:Option aD}{ac:x1}{aO aS:x3->Prop}(ao:bK w g B H N so)(b6:so=σ s\/(so=ν/\ar=0))(b7:hj w B f ⟨[],[],0,[]⟩)(b8:∀c,ad w f a1 c->c[3]?=σ (.slice ν 0 0))(bF:aq .i64 al w gz ac all)(b9:∀r,leads ac r->r<B)(dk:all.length<=100001)(dl:ar<=4611686018427387904)(aV:so=σ s->s.toks.length<=100000)(aw:so=σ s->∀w' x,ae (gP g B) w w'->e5 all.length ar s=ν->bK w' g B H N ν->hj w' B f x->aO w')(ca:so=ν->aS w)(aX:so=σ s->∀w' scope s',ae (gP g B) w w'->e5 all.length ar s=σ (scope,s')->bK w' g B H N (σ s')->hj w' B f ⟨scope,scope.map λv=>all.getD v.toNat 0,0,[]⟩->(∀c,ad w' f a1 c->c[3]?=σ (.slice ν 0 0))->aS w'):
  bZ (Δ 0) w λi z k=>
   ck (α:=x1->x3->Prop) (λ(cb:x1)(O:x3)=>
    Split cb (aa x7 (V2 #[au] ah #[ac]) O λt53=>
   aa x7 (aJ .sub al false true t53 (Δ 1)) O λcc=>
   ai x7 lH [Γ g,(Δ 0),cc] O λt55 A=>
   aa x7 (Y3 t55 0) A λaY=>
   aa x7 (Y3 t55 1) A λcd=>
   aa x7 (bN (Γ g)) A λce=>
   aa x7 (u5 bw ce 3) A λcg=>
   aa x7 (u4 ah cg) A λch=>
   aa x7 (aJ .neq ah false true ch (Δ 0)) A λci=>
   Split ci (aO A)
    (aa x7 (u5 a1 (Γ f) 0) A λcj=>
   aa x7 (u4 au cj) A λbG=>
   aa x7 (V2 #[au] ah #[bG]) A λt66=>
   bZ (Δ 0) A λaZ E cl=>
    aa x7 (aJ .lss ah false false aZ t66) E λcm=>
    Split cm (aa x7 (j5 au bG aZ) E λcn=>
    aa x7 (u4 al cn) E λt70=>
    aa x7 (aJ .eql al false false t70 aY) E λcp=>
    Split cp (ai x7 nq [Γ g,(Δ 4),cd] E λt76 a2=>aO a2)
     (aa x7 (aJ .add ah false true aZ (Δ 1)) E λcq=>
    cl cq E))
     (aa x7 (u5 a1 (Γ f) 0) E λcr=>
   aa x7 (u4 au cr) E λct=>
   aC x7 (Y7 au 1 #[(0,aY)]) E λcw ag=>
   aC x7 (Z3 #[au,au] au #[ct,cw]) ag λcz a6=>
   aa x7 (u5 a1 (Γ f) 0) a6 λcA=>
   aC x7 (o6 au cA cz) a6 λ(_:Unit)R=>
   ev R λU=>
   aa x7 (u5 a1 (Γ f) 1) U λa8=>
   aa x7 (u4 au a8) U λbH=>
   aa x7 (j5 au ac aY) U λcB=>
   aa x7 (u4 al cB) U λcD=>
   aC x7 (Y7 au 1 #[(0,cD)]) U λcE ab=>
    (Ext U ab\/cu x7 (u4 au a8) bH ab/\cu x7 (u5 a1 (Γ f) 1) a8 ab/\True)/\
   aC x7 (Z3 #[au,au] au #[bH,cE]) ab λcF ba=>
    aa x7 (u5 a1 (Γ f) 1) ba λcG=>
    aC x7 (o6 au cG cF) ba λ(_:Unit)W=>
     aa x7 (aJ .add al false true i (Δ 1)) W λcH=>
   k cH W)))
     (aS O)) λbI=>
   aa x7 (aJ .lss al false false i (Δ (ar:Int))) z λcI=>
   Split cI (aa x7 (bN (Γ g)) z λcJ=>
   aa x7 (u5 bw cJ 3) z λcK=>
   aa x7 (u4 ah cK) z λt45=>
   aa x7 (aJ .eql ah false true t45 (Δ 0)) z λt46=>
   bI t46 z)
    (bI (.bool false) z):=by
 have dm:=ao.lt;rcases b6 with rfl|⟨rfl,rfl⟩
 rotate_left
 .refine bZ.range 0 (λ_ J=>w=J) Ω rfl (λi J k hi=>Ω) ?_;rintro _ k rfl;refine aT (λv O=>w=O/\v= .bool false) ?_ ?_
  .rintro _ _ ⟨rfl,rfl⟩;rw[aU];exact ca rfl
  .intro ax ak;rw[aQ,aj];exact⟨λh=>Ω,λ_=>ak _ _ ⟨rfl,rfl⟩⟩
 have h:=ao;have aV:=aV rfl;have aw:=aw rfl;have aX:=aX rfl;refine bZ.range ar (λi z=>∃scope P,ae (gP g B) w z/\bK z g B H N (σ P)/\hj z B f ⟨scope,scope.map λv=>all.getD v.toNat 0,0,[]⟩/\scope.length=i/\scope.length+P.toks.length<=100000/\e5 all.length ar s=C3 all.length (ar-i) scope P/\∀c,ad z f a1 c->c[3]?=σ (.slice ν 0 0)) Ω ⟨[],s,ae.refl _ _,h,b7,rfl,by simpa using aV,rfl,b8⟩ ?_ ?_
 rotate_left
 .rintro z k ⟨scope,P,ay,S,az,bJ,cL,C,bb⟩;refine aT (λv O=>z=O/\v= .bool false) ?_ ?_
  .rintro _ _ ⟨rfl,rfl⟩;rw[aU];rw[U2]at C;exact aX z scope P ay C S az bb
  .intro ax ak;rw[aQ,aj];exact⟨λh=>Ω,λ_=>ak _ _ ⟨rfl,rfl⟩⟩
 rintro i z k hi ⟨scope,P,ay,S,az,bJ,cL,C,bb⟩ hk;refine aT (λv O=>z=O/\v= .bool true) ?_ ?_
 rotate_left
 .intro ax ak;refine bQ Ω ?_;rw[lg S];exact ak _ _ ⟨rfl,rfl⟩
 rintro _ _ ⟨rfl,rfl⟩;rw[bL];have bM:∀{w':x3},ae (gP g B) w w'->aq .i64 al w' gz ac all:=λcM=>bo bF cM λr e I=>by
  rcases I with rfl|I
  .obtain⟨cN,G,am,bad,cO,big,cP,told,sv,K,_⟩:=h4 h;exact b4 bF K Φ e rfl
  .have:=b9 r e;omega
 rw[aW au.u (bM ay).ls,dD,wrap_i64 Ω Ω];refine(kA S).mono ?_;rintro _ A _ ⟨⟨bf,M⟩,n,at_,rfl,bg,cQ⟩;rw[br,bt,qP M];have bh:=az.dL bf (kB S);have bi:ae (gP g B) w A:=ay.trans (bf.mono λr _ h=>.inl h);have cR:=NN (n:=(all.length:Int)) (k:=ar-(i+1)) (acc:=scope) (s:=P);have cS:ar-i=(ar-(i+1))+1:=Ω
 rw[cS]at C;unfold C3 at C;rw[cR]at C;have cT:a7 0 ((all.length:Int)-1) (σ P)=bc 0 ((all.length:Int)-1) P:=rfl;rw[cT]at M bg cQ ⊢;cases aA:bc 0 ((all.length:Int)-1) P with
 |none=>
  rw[aA]at M C;rw[Option.map_none,R4,W5,bL];exact aw A _ bi C M bh
 |some q=>
  obtain⟨v,bj⟩:=q;rw[aA]at M C bg;have cU:n=v:=bg _ rfl;subst cU;have dn:=(hY aA).1;have dp:=(dF aA).1;simp only at C;rw[Z7,R2,Y6,aU];have M:bK A g B H N (σ bj):=M;obtain⟨aN,szv,b3,g1,cV,bl,f1,f2,f3,f4,f5,f6,f7⟩:=id bh;rw[aL a1.p 0 f1 rfl,aW au.u f2.ls];have dq:scope.length<=100000:=Ω
  refine bZ.range scope.length (λj E=>A=E/\n∉scope.take j) Ω ⟨rfl,Ξ⟩ ?_ ?_
  .rintro j _ cW cX ⟨rfl,aB⟩ cY;obtain⟨u,hu⟩:=aF (l:=scope) cX;rw[aQ,aj];refine⟨λ_=>?_,λh=>by simp only at h;omega⟩;rw[be au.u al.i Ψ f2.ls hu,bd,aj];refine⟨λhe=>?_,λcZ=>?_⟩
   .refine (n3 M Ω).mono ?_;rintro _ a2 _ ⟨bP,c0⟩;rw[if_pos (by rw[<-he];exact x5 hu)]at C;exact aw a2 _ (bi.trans (bP.mono λr _ h=>.inl h)) C c0 (bh.dL bP (kB M))
   .rw[aP];refine cY _ ⟨rfl,?_⟩;rw[u7,hu];intro hm;rcases o9.1 hm with hm|hm
    .exact aB hm
    .simp at hm;exact cZ hm.symm
  .rintro _ cW ⟨rfl,aB⟩;rw[o5]at aB;rw[aQ,aj];refine⟨λh=>by simp only at h;omega,λ_=>?_⟩;rw[if_neg aB]at C;rw[aL a1.p 0 f1 rfl];refine en au.u al.i rfl λdr ds ag dt Q c1=>?_;have du:=M.lt;refine gN au.u al.i rfl (f2.ext Q) c1.ls Θ Θ λX bm a6 aE c2 bR=>?_;have aG:=f1.ext Q;have f113:=aG.V bR λhe=>b4 (f2.ext Q) aG Φ he rfl;rw[aR a1.p rfl];refine bk (g:=f) (o:=0) au.i aE.ls.cells.1 aE.ls.cells.2 f113 Ξ λR bS dv aH=>?_;have aH:ad R f a1 [X,szv,Δ 0,b3]:=aH;intro U bn _ _;have an:ae (λr=>leads aN r\/r=f) ag R:=(bR.mono λr _ h=>.inl h).trans (bS.mono λr _ h=>.inr h);have bT:∀r,(leads aN r\/r=f)->gP g B r:=λr e=>.inr (e.elim (λe=>f5 r (.inl e)) λe=>e▸f7);have bU:ae (gP g B) w R:=(bi.trans (Q.V _)).trans (an.mono λr _ e=>bT r e);have c3:ae (gP g B) w U:=bU.trans (bn.V _);have c4:aq .i64 al R cV szv _:=bo (f3.ext Q) an λr e I=>by
    rcases I with I|rfl
    .exact f6 r I e
    .exact b4 (f3.ext Q) aG Φ e rfl
   have c5:aq .i64 al R bm X (scope++[n]):=bo aE bS λr e he=>by
    have he:r=f:=he;subst he;exact b4 aE f113 Φ e rfl
   have c6:∀r,(leads aN r\/r=f)->(∃c,ad ag r al c)\/∃c,ad ag r a1 c:=λr e=>by
    rcases e with e|rfl
    .obtain⟨G,_⟩:=bO f2 e;obtain⟨_,⟨ap,_⟩|⟨_,cs,ap,K,_⟩⟩:=f2.ext Q
     .rw[ap]at e;obtain⟨a,c7,c,G,am⟩:=e;cases G
     .exact .inl ⟨cs,G▸K⟩
    .exact .inr ⟨_,aG⟩
   have c8:kz R bl b3 []:=by
    obtain⟨L,Y,c9,bp⟩:=f4.dL (Q.V λ_=>False) λ_ h=>h.elim;have bq:L=[]:=List.map_eq_nil_iff.1 bp;subst bq;refine⟨[],Y.V an λr e I=>?_,λy bu=>(by cases bu),rfl⟩;rcases c6 r I with⟨c,K⟩|⟨c,K⟩
    .exact cC Y K Φ e
    .exact cC Y K Φ e
   have da:bK R g B H N (σ bj):=(M.ext Q).new an λr e=>by
    rcases bT r e with rfl|h
    .rcases e with e|e
     .exact f5 _ (.inl e)
     .exact e▸f7
    .exact h
   rw[aL a1.p 1 (aH.ext bn) rfl];have db:all[n.toNat]?=σ (all.getD n.toNat 0):=by rw[v8,x6 Ω];rfl
   rw[gl (y:=n) (i:=n.toNat) Ω au.u al.i Ψ (bM c3).ls db];refine en au.u al.i rfl λdw dx ab dy bV dc=>?_;refine⟨.inl bV,?_⟩;have Z:=bn.trans bV;have f316:=c4.ext Z;have bW:(scope.map λv=>all.getD v.toNat 0).length=scope.length:=u9 _;refine gN au.u al.i rfl f316 dc.ls (by simp at bW ⊢;omega) (by simp at bW ⊢;omega) λbx dd ba aI bX bY=>?_;have aK:=aH.ext Z;have b0:=aK.V bY λhe=>b4 f316 aK Φ he rfl;rw[aR a1.p rfl];refine bk (g:=f) (o:=1) au.i aI.ls.cells.1 aI.ls.cells.2 b0 Ξ λW b1 dz av=>?_;have av:ad W f a1 [X,bx,Δ 0,b3]:=av;rw[aP];have aM:ae (λr=>leads szv r\/r=f) ab W:=(bY.mono λr _ h=>.inl h).trans (b1.mono λr _ h=>.inr h);have b2:∀r,(leads szv r\/r=f)->B<=r:=λr e=>e.elim (λe=>f5 r (.inr e)) λe=>e▸f7;have bz:=c5.ext Z;have dA:=Q.size;have dC:=an.size;have bA:∀r,leads X r->B<=r/\¬leads szv r:=λr e=>by
    rcases c2 r e with h|h
    .exact⟨f5 r (.inl h),f6 r h⟩
    .exact⟨Ω,λbB=>by obtain⟨G,am⟩:=bO f3 bB;omega⟩
   have de:aq .i64 al W bm X (scope++[n]):=bo bz aM λr e I=>by
    rcases I with I|rfl
    .exact (bA r e).2 I
    .exact b4 bz aK Φ e rfl
   have df:=bo aI b1 λr e he=>by
    have he:r=f:=he;subst he;exact b4 aI b0 Φ e rfl
   have dg:kz W bl b3 []:=by
    obtain⟨L,Y,c9,bp⟩:=c8.dL (Z.V λ_=>False) λ_ h=>h.elim;have bq:L=[]:=List.map_eq_nil_iff.1 bp;subst bq;refine⟨[],Y.V aM λr e I=>?_,λy bu=>(by cases bu),rfl⟩;rcases I with I|rfl
    .obtain⟨G,_⟩:=bO f316 I;obtain⟨_,⟨ap,_⟩|⟨_,cs,ap,K,_⟩⟩:=f316
     .rw[ap]at I;obtain⟨a,c7,c,G,am⟩:=I;cases G
     .exact cC Y (G▸K) Φ e
    .exact cC Y aK Φ e
   refine hk _ ⟨scope++[n],bj,((bU.trans (Z.V _)).trans (aM.mono λr _ e=>.inr (b2 r e))),(da.ext Z).new aM b2,⟨X,bx,b3,bm,dd,bl,av,de,by rw[Z4];exact df,dg,λr e=>?_,λr e bB=>?_,f7⟩,by rw[r8,bJ];rfl,by rw[r8];simp;omega,C,λc bC=>?_⟩
   .rcases e with e|e
    .exact (bA r e).1
    .rcases bX r e with h|h
     .exact f5 r (.inr h)
     .have:=Z.size;omega
   .rcases bX r bB with h|h
    .exact (bA r e).2 h
    .obtain⟨G,am⟩:=bO bz e;omega
   .have dh:c=[X,bx,Δ 0,b3]:=by
     unfold ad at bC av;rw[av]at bC;have:=(Obj.cells.inj (Z2 bC)).1;exact(Array.toList_inj.2 this).symm
    have di:b3= .slice ν 0 0:=by
     obtain⟨dE,dG,dH,_,_,_,bD,_⟩:=az;have b5:=bb _ bD;have bE:=bD.V bf λhe=>by
      have he:f=g:=he;obtain⟨cN,G,am,bad,cO,big,cP,told,sv,K,_⟩:=h4 S;subst he;exact absurd (ep K bD) Φ
     unfold ad at bE f1;rw[f1]at bE;have dj:=Array.toList_inj.2 (Obj.cells.inj (Z2 bE)).1;have S:=congrArg (λl=>l[3]?) dj;simp at S;simp at b5;rw[S,b5]
    rw[dh,di];rfl
theorem NO{x:x1->x3->Prop}(h:aH .i64 w sv l)(h1:∀z∈l,1<=z)(I:∀c:Int,(4096<c↔ds l=true)->x (Δ c) w):
  cd (Δ 1) (Δ 0) w λy q a K=>
   aa x7 (aJ .lss ah false false q (Δ (l.length:Int))) a λL=>
   Split L (ck (α:=x1->x3->Prop) (λ(M:x1)(A:x3)=>
    aa x7 (aJ .add ah false true q (Δ 1)) A λN=>
    K M N A) λB=>
   aa x7 (j5 au sv q) a λO=>
   aa x7 (u4 al O) a λC=>
   ck (α:=x1->x3->Prop) (λ(P:x1)(f:x3)=>
    aa x7 (aJ .mul al false false y P) f λE=>
    aa x7 (aJ .gtr al false true E (Δ 4096)) f λQ=>
    Split Q (B (Δ 4097) f)
     (B E f)) λF=>
   aa x7 (aJ .gtr al false true C (Δ 4096)) a λR=>
   Split R (F (Δ 4097) a)
    (F C a))
    (x y a):=by
 refine cd.range l.length (λi c J=>w=J/\∃p:Int,p=aK ((l.take i).map λk=>min k 4097)/\1<=p/\c=Δ (if 4096<p then 4097 else p)) h.le ⟨rfl,1,by simp[aK],Ω,by rw[if_neg Ω]⟩ ?_ ?_
 .rintro i _ _ S hi ⟨rfl,p,j,V,rfl⟩ W;obtain⟨z,r⟩:=aF (l:=l) hi;have Y:=h1 z (x5 r);have e:aK ((l.take (i+1)).map λk=>min k 4097)=p*min z 4097:=by
   rw[j,u7,r,o8,Z4,T4,List.map_nil,AW]
  have Z:p*1<=p*min z 4097:=Int.mul_le_mul_of_nonneg_left Ω Ω;refine bQ Ω ?_;refine aT (λv U=>w=U/\v=Δ (if 4096<p*min z 4097 then 4097 else p*min z 4097)) ?_ ?_
  .rintro _ _ ⟨rfl,rfl⟩;rw[aP];exact W _ _ ⟨rfl,_,e.symm,Ω,rfl⟩
  intro ax s;rw[be au.u al.i Ψ h r];refine aT (λv U=>w=U/\v=Δ (min z 4097)) ?_ ?_
  .rintro _ _ ⟨rfl,rfl⟩;rw[hV];by_cases G:4096<p
   .rw[if_pos G];have X:(4097:Int)*1<=4097*min z 4097:=Int.mul_le_mul_of_nonneg_left Ω Ω;rw[wrap_i64 Ω Ω,bP,aj];refine⟨λ_=>s _ _ ⟨rfl,by rw[if_pos Ω]⟩,λab=>Ω⟩
   .rw[if_neg G];have X:p*min z 4097<=4096*4097:=by
     have ac:=Int.mul_le_mul_of_nonneg_right (show p<=4096 by omega) (show 0<=min z 4097 by omega);have ad:=Int.mul_le_mul_of_nonneg_left (show min z 4097<=4097 by omega) (show(0:Int)<=4096 by omega);omega
    rw[wrap_i64 Ω Ω,bP,aj];exact⟨λao=>s _ _ ⟨rfl,by rw[if_pos ao]⟩,λao=>s _ _ ⟨rfl,by rw[if_neg ao]⟩⟩
  .intro ae H;rw[bP,aj];exact⟨λao=>H _ _ ⟨rfl,by congr 1;omega⟩,λao=>H _ _ ⟨rfl,by congr 1;omega⟩⟩
 .rintro _ _ S ⟨rfl,p,j,V,rfl⟩;rw[o5]at j;rw[aQ,aj];refine⟨λh=>Ω,λ_=>I _ ?_⟩;unfold ds;rw[<-j,decide_eq_true_eq];split
  .exact⟨λ_=>Ω,λ_=>Ω⟩
  .exact Iff.rfl
theorem NP{g ak:Nat}{H:af}{so:Option aD}{szv:x1}{ab:x3->Prop}(h:bK w g B H N so)(C:aq .i64 al w gz szv sizes)(aG:∀z∈sizes,1<=z/\z<=av)(bp:sizes.length<=100001)(S:ad w ak b5 [.slice ν 0 0,Δ 0])(aH:B<=ak)(ac:∀t w' aM gt,t.length=sizes.length->ae (λr=>r=g\/r=ak\/w.heap.size<=r) w w'->ad w' ak b5 [aM,Δ 0]->aq .i64 al w' gt aM t->(∀r,leads aM r->w.heap.size<=r)->bK w' g B H N ((e7 sizes [] so).map (·.2))->(∀q,e7 sizes [] so=σ q->t=q.1)->ab w'):
  bZ (Δ 0) w λW s aI=>
      aa x7 (aJ .lss ah false false W (Δ (sizes.length:Int))) s λaK=>
      Split aK (aa x7 (j5 au szv W) s λaN=>
      aa x7 (u4 al aN) s λaO=>
      aa x7 (aJ .sub al false true aO (Δ 1)) s λaQ=>
      ai x7 lH [Γ g,(Δ 0),aQ] s λag E=>
      aa x7 (Y3 ag 0) E λaS=>
      aa x7 (Y3 ag 1) E λbq=>
      aa x7 (u5 b5 (Γ ak) 0) E λaT=>
      aa x7 (u4 au aT) E λaU=>
      aC x7 (Y7 au 1 #[(0,aS)]) E λaV aW=>
      aC x7 (Z3 #[au,au] au #[aU,aV]) aW λaX aj=>
      aa x7 (u5 b5 (Γ ak) 0) aj λaY=>
      aC x7 (o6 au aY aX) aj λ(_:Unit)am=>
      aa x7 (aJ .add ah false true W (Δ 1)) am λaZ=>
      aI aZ am)
       (ab s):=by
 have bu:=S.lt;have bx:=h.lt;refine bZ.range sizes.length (λj J=>∃t aM gt s1,t.length=j/\ae (λr=>r=g\/r=ak\/w.heap.size<=r) w J/\ad J ak b5 [aM,Δ 0]/\aq .i64 al J gt aM t/\(∀r,leads aM r->w.heap.size<=r)/\bK J g B H N s1/\e7 sizes [] so=e7 (sizes.drop j) t s1) C.ls.le
  ⟨[],_,0,so,rfl,ae.refl _ _,S,aq.nil _ _ _ _,(λr e=>by obtain⟨a,n,c,M,X⟩:=e;cases M),h,rfl⟩ ?_ ?_
 rotate_left
 .rintro J a1 ⟨t,aM,gt,s1,O,x,P,G,y,K,he⟩;refine cn Ω ?_;rw[List.drop_length]at he;cases s1 with
  |none=>
   have he:e7 sizes [] so=ν:=he;exact ac t J aM gt O x P G y (by rw[he];exact K) (λq f=>by rw[he]at f;cases f)
  |some s1=>
   have he:e7 sizes [] so=σ (t,s1):=he;exact ac t J aM gt O x P G y (by rw[he];exact K) (λq f=>by rw[he]at f;cases f;rfl)
 rintro j J a1 an ⟨t,aM,gt,s1,O,x,P,G,y,K,he⟩ a2;obtain⟨z,Y⟩:=aF (l:=sizes) an;have a6:=aG z (x5 Y);have bz:z<=4611686018427387904:=a6.2;have a8:aq .i64 al J gz szv sizes:=bo C x λr e I=>by
  rcases I with rfl|rfl|I
  .obtain⟨ba,M,X,bad,bb,big,bc,told,sv,L,_⟩:=h4 h;exact b4 C L Φ e rfl
  .exact b4 C S Φ e rfl
  .obtain⟨M,X⟩:=bO C e;omega
 refine bQ Ω ?_;rw[be au.u al.i Ψ a8.ls Y,dD,wrap_i64 Ω Ω];refine(kA K).mono ?_;rintro _ U _ ⟨⟨Q,bd⟩,n,at_,rfl,bf,bA⟩;rw[br,bt];have bg:ak≠g:=Ω
 have ao:=P.V Q λhe=>bg he;have bh:∃c,ad J g bw c:=by obtain⟨ba,M,X,bad,bb,big,bc,told,sv,L,_⟩:=h4 K;exact⟨_,L⟩
 have ap:aq .i64 al U gt aM t:=bo G Q λr e he=>by
  have he:r=g:=he;obtain⟨c,L⟩:=bh;exact b4 G L Φ e he
 rw[aL b5.p 0 ao rfl];refine en au.u al.i rfl λa3 bB bi bC A bj=>?_;refine gN au.u al.i rfl (ap.ext A) bj.ls Θ Θ λaw bl bD R bm ax=>?_;have ay:=ao.ext A;have az:=ay.V ax λhe=>b4 (ap.ext A) ay Φ he rfl;rw[aR b5.p rfl];refine bk (g:=ak) (o:=0) au.i R.ls.cells.1 R.ls.cells.2 az Ξ λaA aB bE Z=>?_;have Z:ad aA ak b5 [aw,Δ 0]:=Z;rw[aP];have aE:ae (λr=>leads aM r\/r=ak) bi aA:=(ax.mono λr _ h=>.inl h).trans (aB.mono λr _ h=>.inr h);have bF:=x.size;have bG:=Q.size;have z3:=A.size;refine a2 _ ⟨t++[n],aw,bl,(a7 0 (z-1) s1).map (·.2),by simp[O],?_,Z,bo R aB λr e he=>?_,λr e=>?_,?_,?_⟩
 .refine (x.trans (Q.mono λr _ h=>.inl h)).trans ((A.V _).trans (aE.mono λr _ h=>?_));exact h.elim (λh=>.inr (.inr (y r h))) λh=>.inr (.inl h)
 .have he:r=ak:=he;subst he;exact b4 R az Φ e rfl
 .rcases bm r e with h|h
  .exact y r h
  .omega
 .refine (bd.ext A).new aE λr e=>?_;rcases e with e|rfl
  .have:=y r e;omega
  .exact aH
 .rw[he];have bn:sizes.drop j=z::sizes.drop (j+1):=by rw[X8 an,(x4.1 Y).2]
  rw[bn,BA];cases f:a7 0 (z-1) s1 with
  |none=>rfl
  |some q=>
   obtain⟨v,bH⟩:=q;have:=bf _ f;subst this;rfl
theorem wA{g:Nat}{t:Λ}{c:Int}(h:aq .i64 al w g v t):∀u∈n2 ⟨v,t,c⟩,u.oneCell'=true:=by
 intro u hu;simp[n2]at hu;rcases hu with rfl|rfl
 .exact h.ls.cells.2
 .rfl
def NQ(sizes:Λ)(cnt i:Nat)(s0:aD)(A:List (Λ×Int))(so:Option aD):Prop:=(∃s,so=σ s/\cK (dR sizes) cnt [] s0=cK (dR sizes) (cnt-i) A s/\A.length+s.toks.length<=100000)\/(so=ν/\cK (dR sizes) cnt [] s0=ν)
theorem NR{g K g1 ba Y:Nat}{H:af}{s0:aD}{aN szv b3:x1}{scope:Λ}{o n:Int}{aE:List (Λ×Int)}{b0:x3->Prop}(h:bK w g B H N (σ s0))(f1:ad w K a1 [aN,szv,Δ o,b3])(f2:aq .i64 al w g1 aN scope)(f3:aq .i64 al w ba szv sizes)(f4:kz w Y b3 aE)(f5:∀r,leads aN r\/leads szv r->B<=r)(f6:∀r,leads aN r->¬leads szv r)(f7:B<=K)(cV:∀z∈sizes,1<=z/\z<=av)(cW:sizes.length<=100001)(eU:n<=4611686018427387904)(bu:0<n->aE=[]/\∀r,¬leadsTo b3 r)(cX:s0.toks.length<=100000)(b1:∀w' A bx,ae (gP g B) w w'->hj w' B K ⟨scope,sizes,o,A⟩->bK w' g B H N bx->(n<=0->A=aE/\bx=σ s0)->(0<n->bx=(cK (dR sizes) n.toNat [] s0).map (·.2)/\∀q,cK (dR sizes) n.toNat [] s0=σ q->A=q.1)->b0 w'):
  bZ (Δ 0) w λb2 ag cY=>
     ck (α:=x1->x3->Prop) (λ(cZ:x1)(b7:x3)=>
      Split cZ (aC x7 (Instr.alloc b5 true (.tuple #[])) b7 λx Z=>
     aa x7 (u5 a1 (Γ K) 1) Z λc0=>
     aa x7 (u4 au c0) Z λb8=>
     aa x7 (V2 #[au] ah #[b8]) Z λc1=>
     bZ (Δ 0) Z λbA am c2=>
      aa x7 (aJ .lss ah false false bA c1) am λc3=>
      Split c3 (aa x7 (j5 au b8 bA) am λc4=>
      aa x7 (u4 al c4) am λc5=>
      aa x7 (aJ .sub al false true c5 (Δ 1)) am λc6=>
      ai x7 lH [Γ g,(Δ 0),c6] am λb9 aG=>
      aa x7 (Y3 b9 0) aG λc7=>
      aa x7 (Y3 b9 1) aG λeV=>
      aa x7 (u5 b5 x 0) aG λc8=>
      aa x7 (u4 au c8) aG λc9=>
      aC x7 (Y7 au 1 #[(0,c7)]) aG λda db=>
      aC x7 (Z3 #[au,au] au #[c9,da]) db λdc ca=>
      aa x7 (u5 b5 x 0) ca λde=>
      aC x7 (o6 au de dc) ca λ(_:Unit)cb=>
      aa x7 (aJ .add ah false true bA (Δ 1)) cb λdf=>
      c2 df cb)
       (ai x7 lH [Γ g,(Δ 0),(Δ 4611686018427387904)] am λcc E=>
     aa x7 (Y3 cc 0) E λdg=>
     aa x7 (Y3 cc 1) E λdh=>
     aa x7 (u5 a1 (Γ K) 3) E λdi=>
     aa x7 (u4 ea di) E λcd=>
     aa x7 (V2 #[ea] ah #[cd]) E λdk=>
     bZ (Δ 0) E λbB M dl=>
      aa x7 (aJ .lss ah false false bB dk) M λdm=>
      Split dm (ck (α:=x3->Prop) (λ(ay:x3)=>
       aa x7 (aJ .add ah false true bB (Δ 1)) ay λdn=>
       dl dn ay) λce=>
      aa x7 (j5 ea cd bB) M λdq=>
      aa x7 (u4 b5 dq) M λdr=>
      aC x7 (Instr.alloc b5 true (.tuple #[])) M λy cg=>
      aC x7 (o6 b5 y dr) cg λ(_:Unit)O=>
      ck (α:=x1->x3->Prop) (λ(ds:x1)(aH:x3)=>
       Split ds (ai x7 nq [Γ g,(Δ 4),dh] aH λeW ch=>
        ce ch)
        (ce aH)) λci=>
      aa x7 (bN (Γ g)) O λdt=>
      aa x7 (u5 bw dt 3) O λdu=>
      aa x7 (u4 ah du) O λdv=>
      aa x7 (aJ .eql ah false true dv (Δ 0)) O λdw=>
      Split dw (aa x7 (u5 b5 x 0) O λdx=>
       aa x7 (u4 au dx) O λdy=>
      aa x7 (u5 b5 y 0) O λdz=>
      aa x7 (u4 au dz) O λdA=>
      ai x7 rL [dy,dA] O λdC cj=>
      ci dC cj)
       (ci (.bool false) O))
       (aa x7 (u5 b5 x 1) M λdD=>
     aC x7 (o6 al dD dg) M λ(_:Unit)ab=>
     aa x7 (u5 a1 (Γ K) 3) ab λdE=>
     aa x7 (u4 ea dE) ab λdG=>
     aa x7 (u4 b5 x) ab λdH=>
     aC x7 (Y7 ea 1 #[(0,dH)]) ab λdI bb=>
     aC x7 (Z3 #[ea,ea] ea #[dG,dI]) bb λdJ bC=>
     aa x7 (u5 a1 (Γ K) 3) bC λdK=>
     aC x7 (o6 ea dK dJ) bC λ(_:Unit)ac=>
     aa x7 (aJ .add al false true b2 (Δ 1)) ac λdM=>
     cY dM ac)))
       (b0 b7)) λcl=>
     aa x7 (aJ .lss al false false b2 (Δ n)) ag λdN=>
     Split dN (aa x7 (bN (Γ g)) ag λdO=>
     aa x7 (u5 bw dO 3) ag λdP=>
     aa x7 (u4 ah dP) ag λdQ=>
     aa x7 (aJ .eql ah false true dQ (Δ 0)) ag λdS=>
     cl dS ag)
      (cl (.bool false) ag):=by
 have dT:=h.lt;refine bZ.range n.toNat (λi J=>∃A so b3 Y,ae (gP g B) w J/\ad J K a1 [aN,szv,Δ o,b3]/\aq .i64 al J g1 aN scope/\aq .i64 al J ba szv sizes/\kz J Y b3 A/\(0<n->∀r,leadsTo b3 r->B<=r)/\bK J g B H N so/\(n<=0->A=aE/\so=σ s0)/\(0<n->NQ sizes n.toNat i s0 A so)) Ω
  ⟨aE,σ s0,b3,Y,ae.refl _ _,f1,f2,f3,f4,λW r C=>absurd C ((bu W).2 r),h,λ_=>⟨rfl,rfl⟩,λW=>.inl ⟨s0,rfl,by rw[(bu W).1];rfl,by rw[(bu W).1];simpa using cX⟩⟩ ?_ ?_
 rotate_left
 .rintro J k ⟨A,so,b3,Y,aI,az,bd,aK,aO,bD,an,cm,G⟩;refine aT (λv U=>J=U/\v= .bool false) ?_ ?_
  .rintro _ _ ⟨rfl,rfl⟩;rw[aU];refine b1 J A so aI ⟨aN,szv,b3,g1,ba,Y,az,bd,aK,aO,f5,f6,f7⟩ an cm λW=>?_;rcases G W with⟨s,rfl,he,_⟩|⟨rfl,he⟩
   .rw[U2]at he;rw[he];exact⟨rfl,λq P=>by cases P;rfl⟩
   .rw[he];exact⟨rfl,λq P=>by cases P⟩
  .intro ax bE;rw[aQ,aj];exact⟨λh=>Ω,λ_=>bE _ _ ⟨rfl,rfl⟩⟩
 rintro i J k hi ⟨A,so,b3,Y,aI,az,bd,aK,aO,bD,an,cm,G⟩ hk;have W:0<n:=Ω
 refine aT (λv U=>J=U/\v= .bool so.isSome) ?_ ?_
 rotate_left
 .intro ax bE;refine bQ Ω ?_;rw[lg an];exact bE _ _ ⟨rfl,rfl⟩
 rintro _ _ ⟨rfl,rfl⟩;rcases G W with⟨eh,rfl,he,eX⟩|⟨rfl,he⟩
 rotate_left
 .rw[R4,aU];refine b1 J A ν aI ⟨aN,szv,b3,g1,ba,Y,az,bd,aK,aO,f5,f6,f7⟩ an (λh=>Ω) λ_=>?_;rw[he];exact⟨rfl,λq P=>by cases P⟩
 rw[R2,bL];have eY:=an.lt;refine bz b5.i λak Z eZ aS bF=>?_;have bF:ad Z ak b5 [.slice ν 0 0,Δ 0]:=bF;have dU:=az.ext aS;have cp:=aK.ext aS;have e0:=aS.size;have e1:=az.lt;rw[aR a1.p rfl,aB Ψ (dU.cell (o:=0+1) rfl),aW au.u cp.ls];refine NP (an.ext aS) cp cV cW bF Ω λt am aM gt e2 dV dW dX dY dZ eb=>?_;refine(kA dZ).mono ?_;rintro _ E _ ⟨⟨bG,be⟩,c,at_,rfl,ec,e3⟩;rw[br,bt];have bI:ak≠g:=Ω
 have cq:K≠g:=by have:=h.lt;omega
 have ed:ae (λr=>r=g\/r=ak\/Z.heap.size<=r) Z E:=dV.trans (bG.mono λr _ h=>.inl h);have cr:∀{S:Nat->Prop},(∀r,S r->r=g\/J.heap.size<=r)->∀r,S r->hh J r\/J.heap.size<=r:=λee r C=>(ee r C).imp (λhe=>by
  subst he;obtain⟨ct,aV,aX,bad,cu,big,cw,told,sv,G,_⟩:=h4 an;exact⟨_,_,G,Φ,Φ⟩) id
 have bf:ae (λr=>r=g\/J.heap.size<=r) J E:=(aS.V _).trans (ed.mono λr _ h=>h.elim .inl λh=>h.elim (λh=>.inr Ω) λh=>.inr Ω);have cz:ad E K a1 [aN,szv,Δ o,b3]:=az.V bf λh=>h.elim cq λh=>Ω
 obtain⟨L,bg,cA,bJ⟩:=aO.dL bf (cr λr C=>C);have cB:ad E ak b5 [aM,Δ 0]:=dW.V bG λhe=>bI he;have cD:aq .i64 al E gt aM t:=bo dX bG λr C he=>by
  have he:r=g:=he;have:=dY r C;omega
 have e4:L.length=A.length:=by rw[<-bJ,u9]
 rw[aL a1.p 3 cz rfl,ez ea.u bg];generalize cE:(a7 0 4611686018427387904 (U3 (λx=>x.snd) (e7 sizes [] (σ eh)))).map (·.2)=ao at be;have e5:=bf.size;refine bZ.range L.length (λj M=>ae (λr=>r=g) E M/\bK M g B H N (if t∈(L.take j).map (·.t)then ν else ao)) bg.le ⟨ae.refl _ _,by simpa using be⟩ ?_ ?_
 .rintro j M eg cF ⟨Q,aY⟩ ei;obtain⟨y,R⟩:=aF (l:=L) cF;have bM:∃c,ad E g bw c:=by obtain⟨ct,aV,aX,bad,cu,big,cw,told,sv,G,_⟩:=h4 be;exact⟨_,G⟩
  have ap:∀r,r=g->hh E r\/E.heap.size<=r:=λr C=>by
   subst C;obtain⟨c,G⟩:=bM;exact .inl ⟨_,c,G,Φ,Φ⟩
  have bh:=wy bg Q λr C=>(ap r C).imp (λ⟨e,c,G,_,aZ⟩=>⟨e,c,G,aZ⟩) id;obtain⟨e6,ej⟩:=cA y (x5 R);have cG:=eG ej Q ap;have bO:=eG cD Q ap;have bj:=cB.V Q λhe=>bI he;refine bQ Ω ?_;have bP:t∈(L.take (j+1)).map (·.t)↔t∈(L.take j).map (·.t)\/t=y.t:=by
   rw[u7,R,o8,Z4,o9];simp
  refine dd (λay=>ae (λr=>r=g) E ay/\bK ay g B H N (if t∈(L.take (j+1)).map (·.t)then ν else ao)) ?_ ?_
  .rintro ay ek;rw[aP];exact ei _ ek
  intro e8 cH;rw[dj rfl ea.u b5.i bh cF,bH b5.p b5.i rfl (bh.range R)];refine bz b5.i λgy cg e9 em en=>?_;refine b6 (vs:=n2 y) b5.i rfl rfl (wA cG) en λO eo fa ep=>?_;have a2:Ext M O:=em.put eo Ω;have cI:=aY.ext a2;have cJ:ae (λr=>r=g) E O:=Q.trans (a2.V _);refine aT (λv aH=>∃b:Bool,v= .bool b/\Ext O aH/\(b=true->t=y.t)/\(b=false->t≠y.t\/(if t∈(L.take j).map (·.t)then ν else ao)=ν)) ?_ ?_
  .rintro _ aH ⟨b,rfl,bR,er,es⟩;have aw:=cI.ext bR;cases b with
   |true=>
    rw[bL];refine(n3 aw Ω).mono ?_;rintro _ ch _ ⟨et,eu⟩;refine cH _ ⟨(cJ.trans (bR.V _)).trans et,?_⟩;rw[if_pos (bP.2 (.inr (er rfl)))];exact eu
   |false=>
    rw[aU];refine cH _ ⟨cJ.trans (bR.V _),?_⟩;by_cases hm:t∈(L.take j).map (·.t)
    .rw[if_pos (bP.2 (.inl hm))];rw[if_pos hm]at aw;exact aw
    .rw[if_neg hm]at aw;rcases es rfl with aZ|cL
     .rw[if_neg (λh=>(bP.1 h).elim hm aZ)];exact aw
     .rw[if_neg hm]at cL;rw[cL]at aw ⊢;split<;>exact aw
  .intro fb cM;rw[lg cI];cases a6:(if t∈(L.take j).map (·.t)then ν else ao)with
   |none=>
    rw[R4,aU];exact cM _ _ ⟨false,rfl,Ext.refl _,(λh=>by cases h),λ_=>.inr a6⟩
   |some fc=>
    rw[R2,bL];have ev:=bj.ext a2;rw[aL b5.p 0 ev rfl,aL b5.p 0 ep rfl];refine(wz (bO.ls.ext a2) (cG.ls.ext a2)).mono ?_;rintro _ cj _ ⟨rfl,ew⟩;exact cM _ _ ⟨_,rfl,ew,λh=>of_decide_eq_true h,λh=>.inl (of_decide_eq_false h)⟩
 .rintro M eg ⟨Q,aY⟩;rw[o5]at aY;have ey:L.map (·.t)=A.map (·.1):=by rw[<-bJ,Q0];rfl
  rw[ey]at aY;have bM:∃c,ad E g bw c:=by obtain⟨ct,aV,aX,bad,cu,big,cw,told,sv,G,_⟩:=h4 be;exact⟨_,G⟩
  have ap:∀r,r=g->hh E r\/E.heap.size<=r:=λr C=>by
   subst C;obtain⟨c,G⟩:=bM;exact .inl ⟨_,c,G,Φ,Φ⟩
  have cN:∀r,(r=g\/J.heap.size<=r)->hh J r\/J.heap.size<=r:=cr λr C=>C;have bl:ae (λr=>r=g\/J.heap.size<=r) J M:=bf.trans (Q.mono λr _ h=>.inl h);have eA:=cz.V Q λhe=>cq he;have eB:=eG bd bl cN;have eC:=eG aK bl cN;have bh:=wy bg Q λr C=>(ap r C).imp (λ⟨e,c,G,_,aZ⟩=>⟨e,c,G,aZ⟩) id;have eD:∀y∈L,∃gy,aq .i64 al M gy y.v y.t:=λy R=>by
   obtain⟨gy,hm⟩:=cA y R;exact⟨gy,eG hm Q ap⟩
  have bO:=eG cD Q ap;have bj:=cB.V Q λhe=>bI he;refine cn Ω ?_;rw[aR b5.p rfl];refine bk (g:=ak) (o:=1) al.i rfl rfl bj Ξ λab aA fd bS=>?_;have bS:ad ab ak b5 [aM,Δ c]:=bS;have eE:K≠ak:=Ω
  have cO:=eA.V aA λhe=>eE he;have fe:J.heap.size<=ak:=Ω
  have eF:∀r,leadsTo b3 r->r≠ak:=λr C=>by obtain⟨aV,aX⟩:=aO.choose_spec.1.leads C;omega
  have eH:=bh.V aA λr C he=>eF r C he;rw[aL a1.p 3 cO rfl,bH b5.p b5.i rfl bS.range];let a:wx:=⟨aM,t,c⟩;have bm:∀{v:x1}{a8:Nat}{l:Λ},aq .i64 al M a8 v l->aq .i64 al ab a8 v l:=λhm=>bo hm aA λr C he=>by
   have he:r=ak:=he;exact b4 hm bj Φ C he
  have cP:=bm bO;refine h2 (f:=n2) (a:=a) ea.u b5.i Ω rfl rfl λv45 ff bb fg X eI=>?_;have bT:=eH.ext X;refine ik (f:=n2) (a:=a) ea.u b5.i rfl bT (by simpa using eI.sl) (wA (cP.ext X)) Ω Ω λbU cQ bC bn eJ cR=>?_;have bV:=cO.ext X;have cS:=bV.V cR λhe=>cC bT bV Φ he;rw[aR a1.p rfl];refine bk (g:=K) (o:=3) ea.i (dp bn.sl).1 (dp bn.sl).2 cS Ξ λac cT fh bW=>?_;have bW:ad ac K a1 [aN,szv,Δ o,bU]:=bW;rw[aP];have bX:ae (λr=>leadsTo b3 r\/r=K) bb ac:=(cR.mono λr _ h=>.inl h).trans (cT.mono λr _ h=>.inr h);have bp:∀{v:x1}{a8:Nat}{l:Λ},aq .i64 al bb a8 v l->aq .i64 al ac a8 v l:=λhm=>bo hm bX λr C I=>by
   rcases I with I|rfl
   .obtain⟨rfl,fi,G⟩:=ef bT I;exact b4 hm G Φ C rfl
   .exact b4 hm bV Φ C rfl
  have cU:∀r,(leadsTo b3 r\/r=K)->B<=r:=λr C=>C.elim (λC=>bD W r C) λC=>C▸f7;have eK:bK ab g B H N (if t∈A.map (·.1)then ν else ao):=aY.new aA λr C=>by
   have C:r=ak:=C;omega
  have eL:=(eK.ext X).new bX cU;have eM:ae (gP g B) J ac:=((bl.mono λr _ h=>h.elim .inl λh=>.inr Ω).trans (aA.mono λr _ h=>.inr (by have h:r=ak:=h;omega))).trans ((X.V _).trans (bX.mono λr _ h=>.inr (cU r h)));have eN:kz ac cQ bU (A++[(t,c)]):=⟨L++[a],bn.V cT λr C he=>by
   have he:r=K:=he;subst he;exact cC bn cS Φ C,λy R=>by
   rcases o9.1 R with R|R
   .obtain⟨gy,hm⟩:=eD y R;exact⟨gy,bp ((bm hm).ext X)⟩
   .rw[l7.1 R];exact⟨gt,bp (cP.ext X)⟩,by rw[Z4,bJ];rfl⟩
  refine hk _ ⟨A++[(t,c)],_,bU,cQ,aI.trans eM,bW,bp ((bm eB).ext X),bp ((bm eC).ext X),eN,λ_ r C=>?_,eL,λh=>Ω,λ_=>?_⟩
  .rcases eJ r C with h|h
   .exact bD W r h
   .have:=aI.size;have:=bl.size;have:=aA.size;have:=X.size;have:=dT.2;omega
  .have eO:n.toNat-i=(n.toNat-(i+1))+1:=Ω
   rw[eO]at he;obtain⟨eP,eQ⟩:=BE (sizes:=sizes) (acc:=A) (st:=eh) (t:=t) (c:=c) eb ec;cases P:a7 0 av ((e7 sizes [] (σ eh)).map (·.2))with
   |none=>
    have a6:ao=ν:=by rw[<-cE];show(a7 0 av _).map _=ν;rw[P];rfl
    rw[o1 (eP P)]at he;refine .inr ⟨?_,he⟩;rw[a6];split<;>rfl
   |some q=>
    have a6:ao=σ q.2:=by rw[<-cE];show(a7 0 av _).map _=_;rw[P];rfl
    have bq:=eQ q P;by_cases hm:t∈A.map (·.1)
    .rw[if_pos hm]at bq;rw[o1 bq]at he;exact .inr ⟨by rw[if_pos hm],he⟩
    .rw[if_neg hm]at bq;rw[sx bq]at he;refine .inl ⟨q.2,by rw[if_neg hm,a6],he,?_⟩;cases bY:e7 sizes [] (σ eh)with
     |none=>rw[bY]at P;cases P
     |some p=>
      rw[bY]at P;obtain⟨bi,s1⟩:=p;have aV:iJ sizes [] eh=σ (bi,s1):=bY;obtain⟨u,_,_,eR⟩:=vx aV;have aX:bc 0 av s1=σ q:=P;obtain⟨fj,fk⟩:=q;have eS:=dF aX;have:=eR.1;have:=eS.1;rw[r8];simp only[U9];omega
def jX(s:aD):Prop:=s.big=false->0<=s.told/\s.told<=16384
def jY(neg:Bool)(ar:Nat)(scope sizes:Λ)(e:Option aD):Option (cm×aD):=match a7 0 av (e.map (a8 (decide (6<ar)||ds sizes)))with
 |none=>ν
 |some (other,f)=>match dS sizes f with
  |none=>ν
  |some (lines,a)=>σ (⟨scope,sizes,other,lines⟩,if neg=true then{a with shared:=a.shared++[(sizes,lines)]}else a)
theorem C5{s s':aD}{l:List (Λ×Int)}(h:dS sizes s=σ (l,s')):s'.toks.length+1<=s.toks.length/\s'.shared=s.shared:=by
 unfold dS at h;cases e:bc (-av) av s with
 |none=>rw[e]at h;cases h
 |some q=>
  obtain⟨n,s1⟩:=q;have p:=dF e;have z:=p.1;have r:=p.eqs.2.2;rw[e]at h;simp only at h;split at h
  .split at h
   .cases h
   .split at h
    .cases h;exact⟨Ω,r⟩
    .cases h
  .have h':cK (dR sizes) n.toNat [] (a8 (decide (16384<min (s1.told+n) av)) {s1 with told:=min (s1.told+n) av})=σ (l,s'):=h;have:=kr (f:=dR sizes) (λ_ t=>t.toks.length<=s1.toks.length/\t.shared=s1.shared) (λacc t a bi w y=>by
    obtain⟨_,_,_,x⟩:=oY y;have h1:=x.1;have j:=x.eqs.2.2;exact⟨by have:=w.1;omega,j.trans w.2⟩) n.toNat [] (a8 (decide (16384<min (s1.told+n) av)) {s1 with told:=min (s1.told+n) av}) l s' ⟨p8 _,rfl⟩ h'
   obtain⟨⟨h1,j⟩,_⟩:=this;exact⟨Ω,j.trans r⟩
theorem th{g:Nat}{H:af}{s:aD}(h:bK w g B H N (σ s)):s.toks.length<=100000/\s.shared.length+s.toks.length<=100000:=by
 obtain⟨j,w0,p,q,gs,sv,L,r,x,y,bad,z,big,A,told,h1,C,E,F,e,G,I,J,K,M,O,a,P,f,Q⟩:=h;have R:=e.2.2.1;refine⟨by rw[<-a,u9];omega,by rw[<-a,<-f,u9,u9];omega⟩
def C6(w:x3)(g h B:Nat)(H:af)(e:Option (cm×aD))(v:x1)(w':x3):Prop:=∃f x a,ae (λr=>r=g\/H r\/r=h\/B<=r) w w'/\v= .agg (eY f).toArray/\gO w' f x/\bK w' g w'.heap.size a 100001 (e.map (·.2))/\(∀q,e=σ q->x=q.1)/\(∀r,H r->a r)/\(∀r,a r->H r\/B<=r)/\∀r,a r->r<w'.heap.size
theorem C7{g E ar:Nat}{H:af}{R:Option aD}{neg:Bool}{dx:Int}{scope:Λ}{Q:x1->x3->Prop}(h:bK w g B H 100000 R)(dz:hj w B E ⟨scope,sizes,0,[]⟩)(fi:∀c,ad w E a1 c->c[3]?=σ (.slice ν 0 0))(dA:∀z∈sizes,1<=z/\z<=av)(fj:sizes.length<=100001)(dC:ad w N a1 [.slice ν 0 0,.slice ν 0 0,Δ 0,.slice ν 0 0])(jt:N<B)(cG:¬H N)(cH:∀r,H r->r<B)(fk:∀ao,R=σ ao->jX ao)(fm:∀v w',C6 w g N B H (jY neg ar scope sizes R) v w'->Q v w'):
  aa x7 (u5 a1 (Γ E) 1) w λfo=>
  aa x7 (u4 au fo) w λdE=>
  aa x7 (V2 #[au] ah #[dE]) w λfp=>
  cd (Δ 1) (Δ 0) w λdG cX aE fs=>
   aa x7 (aJ .lss ah false false cX fp) aE λft=>
   Split ft (ck (α:=x1->x3->Prop) (λ(fu:x1)(dH:x3)=>
    aa x7 (aJ .add ah false true cX (Δ 1)) dH λfv=>
    fs fu fv dH) λdI=>
   aa x7 (j5 au dE cX) aE λfw=>
   aa x7 (u4 al fw) aE λdJ=>
   ck (α:=x1->x3->Prop) (λ(fx:x1)(cI:x3)=>
    aa x7 (aJ .mul al false false dG fx) cI λdK=>
    aa x7 (aJ .gtr al false true dK (Δ 4096)) cI λfy=>
    Split fy (dI (Δ 4097) cI)
     (dI dK cI)) λdM=>
   aa x7 (aJ .gtr al false true dJ (Δ 4096)) aE λfz=>
   Split fz (dM (Δ 4097) aE)
    (dM dJ aE))
    (ck (α:=x3->Prop) (λ(bW:x3)=>
   ai x7 lH [(Γ g),(Δ 0),(Δ 4611686018427387904)] bW λdN bB=>
   aa x7 (Y3 dN 0) bB λfA=>
   aa x7 (Y3 dN 1) bB λju=>
   aa x7 (u5 a1 (Γ E) 2) bB λfB=>
   aC x7 (o6 al fB fA) bB λ(_:Unit)bf=>
   ai x7 lH [(Γ g),(Δ (-4611686018427387904)),(Δ 4611686018427387904)] bf λdO O=>
   aa x7 (Y3 dO 0) O λbD=>
   aa x7 (Y3 dO 1) O λdP=>
   aa x7 (bN (Γ g)) O λfD=>
   aa x7 (u5 bw fD 3) O λfE=>
   aa x7 (u4 ah fE) O λfF=>
   aa x7 (aJ .neq ah false true fF (Δ 0)) O λfG=>
   Split fG (aa x7 (u4 a1 (Γ E)) O λbX=>
    aC x7 (o6 a1 (Γ N) bX) O λ(_:Unit)bg=>
    aa x7 (do loadVar a1 (<-asAddr (Γ N))) bg λbY=>
 Q bY bg)
    (ck (α:=x3->Prop) (λ(aV:x3)=>
    bZ (Δ 0) aV λdQ bn fH=>
     ck (α:=x1->x3->Prop) (λ(fI:x1)(b0:x3)=>
      Split fI (aC x7 (Instr.alloc b5 true (.tuple #[])) b0 λx cJ=>
     aa x7 (u5 a1 (Γ E) 1) cJ λfJ=>
     aa x7 (u4 au fJ) cJ λdT=>
     aa x7 (V2 #[au] ah #[dT]) cJ λfK=>
     bZ (Δ 0) cJ λcY bE fL=>
      aa x7 (aJ .lss ah false false cY fK) bE λfM=>
      Split fM (aa x7 (j5 au dT cY) bE λfN=>
      aa x7 (u4 al fN) bE λfO=>
      aa x7 (aJ .sub al false true fO (Δ 1)) bE λfP=>
      ai x7 lH [(Γ g),(Δ 0),fP] bE λdU b1=>
      aa x7 (Y3 dU 0) b1 λfQ=>
      aa x7 (Y3 dU 1) b1 λjv=>
      aa x7 (u5 b5 x 0) b1 λfR=>
      aa x7 (u4 au fR) b1 λfS=>
      aC x7 (Y7 au 1 #[(0,fQ)]) b1 λfU fV=>
      aC x7 (Z3 #[au,au] au #[fS,fU]) fV λfW dV=>
      aa x7 (u5 b5 x 0) dV λfX=>
      aC x7 (o6 au fX fW) dV λ(_:Unit)dW=>
      aa x7 (aJ .add ah false true cY (Δ 1)) dW λfY=>
      fL fY dW)
       (ai x7 lH [(Γ g),(Δ 0),(Δ 4611686018427387904)] bE λdX bF=>
     aa x7 (Y3 dX 0) bF λfZ=>
     aa x7 (Y3 dX 1) bF λgb=>
     aa x7 (u5 a1 (Γ E) 3) bF λgc=>
     aa x7 (u4 ea gc) bF λdY=>
     aa x7 (V2 #[ea] ah #[dY]) bF λgd=>
     bZ (Δ 0) bF λcZ bG gf=>
      aa x7 (aJ .lss ah false false cZ gd) bG λgg=>
      Split gg (ck (α:=x3->Prop) (λ(dZ:x3)=>
       aa x7 (aJ .add ah false true cZ (Δ 1)) dZ λgh=>
       gf gh dZ) λeb=>
      aa x7 (j5 ea dY cZ) bG λgi=>
      aa x7 (u4 b5 gi) bG λgj=>
      aC x7 (Instr.alloc b5 true (.tuple #[])) bG λy gk=>
      aC x7 (o6 b5 y gj) gk λ(_:Unit)aH=>
      ck (α:=x1->x3->Prop) (λ(gl:x1)(ec:x3)=>
       Split gl (ai x7 nq [(Γ g),(Δ 4),gb] ec λjw gm=>
        eb gm)
        (eb ec)) λed=>
      aa x7 (bN (Γ g)) aH λgn=>
      aa x7 (u5 bw gn 3) aH λgp=>
      aa x7 (u4 ah gp) aH λgq=>
      aa x7 (aJ .eql ah false true gq (Δ 0)) aH λgu=>
      Split gu (aa x7 (u5 b5 x 0) aH λgv=>
       aa x7 (u4 au gv) aH λgw=>
      aa x7 (u5 b5 y 0) aH λgx=>
      aa x7 (u4 au gx) aH λgA=>
      ai x7 rL [gw,gA] aH λgC gD=>
      ed gC gD)
       (ed (.bool false) aH))
       (aa x7 (u5 b5 x 1) bG λgE=>
     aC x7 (o6 al gE fZ) bG λ(_:Unit)cL=>
     aa x7 (u5 a1 (Γ E) 3) cL λgF=>
     aa x7 (u4 ea gF) cL λgH=>
     aa x7 (u4 b5 x) cL λgI=>
     aC x7 (Y7 ea 1 #[(0,gI)]) cL λgJ gK=>
     aC x7 (Z3 #[ea,ea] ea #[gH,gJ]) gK λgL ee=>
     aa x7 (u5 a1 (Γ E) 3) ee λgM=>
     aC x7 (o6 ea gM gL) ee λ(_:Unit)eg=>
     aa x7 (aJ .add al false true dQ (Δ 1)) eg λgN=>
     fH gN eg)))
       (ck (α:=x3->Prop) (λ(ag:x3)=>
     aa x7 (u4 a1 (Γ E)) ag λgQ=>
     aC x7 (o6 a1 (Γ N) gQ) ag λ(_:Unit)eh=>
     aa x7 (do loadVar a1 (<-asAddr (Γ N))) eh λgR=>
 Q gR eh) λei=>
    Split (.bool neg) (ev b0 λap=>
     aa x7 (bN (Γ g)) ap λc0=>
     aa x7 (u5 bw c0 8) ap λc1=>
     aa x7 (u4 dy c1) ap λej=>
     aa x7 (u4 a1 (Γ E)) ap λgS=>
     aC x7 (Y7 dy 1 #[(0,gS)]) ap λgT aX=>
     (Ext ap aX\/cu x7 (u4 dy c1) ej aX/\cu x7 (u5 bw c0 8) c1 aX/\cu x7 (bN (Γ g)) c0 aX/\True)/\
     aC x7 (Z3 #[dy,dy] dy #[ej,gT]) aX λgU cM=>
      aa x7 (bN (Γ g)) cM λgV=>
      aa x7 (u5 bw gV 8) cM λgW=>
      aC x7 (o6 dy gW gU) cM λ(_:Unit)bo=>
      ei bo)
     (ei b0))) λek=>
     aa x7 (aJ .lss al false false dQ bD) bn λgX=>
     Split gX (aa x7 (bN (Γ g)) bn λgY=>
     aa x7 (u5 bw gY 3) bn λgZ=>
     aa x7 (u4 ah gZ) bn λg0=>
     aa x7 (aJ .eql ah false true g0 (Δ 0)) bn λg2=>
     ek g2 bn)
      (ek (.bool false) bn)) λem=>
   aa x7 (aJ .lss al false true bD (Δ 0)) O λg3=>
   Split g3 (ck (α:=x1->x3->Prop) (λ(g4:x1)(X:x3)=>
     Split g4 (ai x7 nq [(Γ g),(Δ 4),dP] X λjx c2=>
     aa x7 (u4 a1 (Γ E)) c2 λg5=>
     aC x7 (o6 a1 (Γ N) g5) c2 λ(_:Unit)en=>
     aa x7 (do loadVar a1 (<-asAddr (Γ N))) en λg6=>
 Q g6 en)
     (aa x7 (bN (Γ g)) X λg7=>
    aa x7 (u5 bw g7 8) X λg8=>
    aa x7 (u4 dy g8) X λg9=>
    aa x7 (Op.unary .neg bD) X λha=>
    aa x7 (aJ .sub al false true ha (Δ 1)) X λhb=>
    aa x7 (j5 dy g9 hb) X λhc=>
    aa x7 (u5 a1 hc 3) X λhd=>
    aa x7 (u4 ea hd) X λhf=>
    aa x7 (u5 a1 (Γ E) 3) X λhg=>
    aC x7 (o6 ea hg hf) X λ(_:Unit)eo=>
    em eo)) λer=>
    ev O λP=>
    aa x7 (Op.unary .neg bD) P λhl=>
    aa x7 (bN (Γ g)) P λhn=>
    aa x7 (u5 bw hn 8) P λho=>
    aa x7 (u4 dy ho) P λhp=>
    aa x7 (V2 #[dy] ah #[hp]) P λhq=>
    aa x7 (aJ .gtr al false false hl hq) P λhr=>
    Split hr (er (.bool true) P)
    (aa x7 (bN (Γ g)) P λhs=>
    aa x7 (u5 bw hs 8) P λht=>
    aa x7 (u4 dy ht) P λhv=>
    aa x7 (Op.unary .neg bD) P λhx=>
    aa x7 (aJ .sub al false true hx (Δ 1)) P λhy=>
    aa x7 (j5 dy hv hy) P λhz=>
    aa x7 (u5 a1 hz 1) P λhA=>
    aa x7 (u4 au hA) P λhB=>
    aa x7 (u5 a1 (Γ E) 1) P λhC=>
    aa x7 (u4 au hC) P λhD=>
    ai x7 rL [hB,hD] P λhE c3=>
    aa x7 (Op.unary .not hE) c3 λhF=>
    er hF c3))
    (aa x7 (bN (Γ g)) O λhG=>
    aa x7 (u5 bw hG 7) O λhH=>
    aa x7 (u4 al hH) O λhI=>
    aa x7 (aJ .add al false false hI bD) O λhJ=>
    aa x7 (bN (Γ g)) O λhK=>
    aa x7 (u5 bw hK 7) O λhL=>
    aC x7 (o6 al hL hJ) O λ(_:Unit)aI=>
    ck (α:=x3->Prop) (λ(aK:x3)=>
     aa x7 (bN (Γ g)) aK λhM=>
     aa x7 (u5 bw hM 7) aK λhN=>
     aa x7 (u4 al hN) aK λhO=>
     aa x7 (aJ .gtr al false true hO (Δ 16384)) aK λhP=>
     ai x7 rK [(Γ g),hP,dP] aK λjy c4=>
     em c4) λes=>
    aa x7 (bN (Γ g)) aI λhQ=>
    aa x7 (u5 bw hQ 7) aI λhR=>
    aa x7 (u4 al hR) aI λhS=>
    aa x7 (aJ .gtr al false true hS (Δ 4611686018427387904)) aI λhT=>
    Split hT (aa x7 (bN (Γ g)) aI λhU=>
    aa x7 (u5 bw hU 7) aI λhV=>
    aC x7 (o6 al hV (Δ 4611686018427387904)) aI λ(_:Unit)et=>
    es et)
    (es aI)))) λeu=>
  aa x7 (aJ .gtr al false true (Δ (ar:Int)) (Δ 6)) aE λhW=>
  Split hW (ai x7 rK [(Γ g),(.bool true),(Δ dx)] aE λjz hX=>
  eu hX)
   (aa x7 (aJ .gtr al false true dG (Δ 4096)) aE λhZ=>
  ai x7 rK [(Γ g),hZ,(Δ dx)] aE λjA h0=>
  eu h0)):=by
 have h3:=h.lt;have ew:N≠g:=λhe=>by
  obtain⟨aw,Z,ab,bad,ay,big,az,told,sv,C,_⟩:=h4 h;subst he;exact absurd (ep C dC) Φ
 obtain⟨aN,szv,b3,g1,cN,cO,f1,f2,f3,f4,f5,f6,f7⟩:=id dz;have b2:E≠g:=Ω
 have ret:∀{G:x3}{x:cm}{S:af},hj G B E x->ad G N a1 [.slice ν 0 0,.slice ν 0 0,Δ 0,.slice ν 0 0]->ae (λr=>r=g\/H r\/B<=r) w G->bK G g G.heap.size S 100001 ((jY neg ar scope sizes R).map (·.2))->(∀q,jY neg ar scope sizes R=σ q->x=q.1)->¬S N->(∀r,H r->S r)->(∀r,S r->H r\/B<=r)->(∀r,S r->r<G.heap.size)->
   (aa x7 (u4 a1 (Γ E)) G λbX=>
    aC x7 (o6 a1 (Γ N) bX) G λ(_:Unit)bg=>
    aa x7 (do loadVar a1 (<-asAddr (Γ N))) bg λbY=>Q bY bg):=by
  intro G x S c5 c6 h5 h6 h7 h8 c7 h9 ia;obtain⟨aN,szv,b3,g1,cN,cO,c8,c9,da,db,dc,ey,eA⟩:=c5;let ac:iW:=⟨aN,szv,x.other,b3⟩;have b4:gO G ac x:=⟨⟨g1,c9⟩,⟨cN,da⟩,rfl,cO,db⟩;rw[bH a1.p a1.i rfl (show G.rangeAt E 0 (eY ac)from c8.range)];refine b6 (vs:=eY ac) a1.i rfl rfl b4.one c6 λjB de ib ic=>?_;rw[fC a1.p a1.i rfl ic.range];have ie:∀r,r=N->hh G r\/G.heap.size<=r:=λr j=>by subst j;exact .inl ⟨_,_,c6,Φ,Φ⟩
  refine fm _ _ ⟨ac,x,S,(h5.mono λr _ h=>?_).trans (de.mono λr _ h=>.inr (.inr (.inl h))),rfl,b4.dL de ie,h6.dL de λr j=>.inl ?_,h7,c7,h9,λr j=>by rw[ib];exact ia r j⟩
  .exact h.elim .inl λh=>h.elim (λh=>.inr (.inl h)) λh=>.inr (.inr (.inr h))
  .have j:r=N:=j;subst j;exact⟨_,_,c6,Φ,Φ,Φ,Φ,h8⟩
 have df:∀{G:x3},ae (gP g B) w G->ad G N a1 [.slice ν 0 0,.slice ν 0 0,Δ 0,.slice ν 0 0]:=λaY=>dC.V aY λI=>I.elim ew λh=>Ω
 have dg:∀{G:x3},ae (gP g B) w G->ae (λr=>r=g\/H r\/B<=r) w G:=λaY=>aY.mono λr _ h=>h.elim .inl λh=>.inr (.inr h);have eB:∀{G:x3}{eC:Nat}{S:af}{so:Option aD},bK G g eC S 100000 so->bK G g eC S 100001 so:=λj=>by
  obtain⟨b7,w0,aw,bh,gs,sv,L,aA,Z,ab,bad,ay,big,az,told,h1,ig,ih,ii,ij,dh,di⟩:=j;refine⟨Ω,w0,aw,bh,gs,sv,L,aA,Z,ab,bad,ay,big,az,told,h1,ig,ih,ii,ij,dh,?_⟩;rename_i so;cases so with
  |none=>exact⟨di.1,by have:=di.2;omega⟩
  |some s=>exact di
 have eD:∀{G:x3}{x:cm},hj G B E x->ae (gP g B) w G->bK G g B H 100000 ν->jY neg ar scope sizes R=ν->(aa x7 (u4 a1 (Γ E)) G λbX=>
    aC x7 (o6 a1 (Γ N) bX) G λ(_:Unit)bg=>
    aa x7 (do loadVar a1 (<-asAddr (Γ N))) bg λbY=>Q bY bg):=λc5 aY j eE=>
  ret c5 (df aY) (dg aY) (by rw[eE];exact eB j.base) (λq U=>by rw[eE]at U;cases U) cG (λ_ h=>h) (λ_ h=>.inl h) λr j=>by have:=cH r j;have:=aY.size;omega
 rw[aL a1.p 1 f1 rfl,aW au.u f3.ls];refine NO f3.ls (λz il=>(dA z il).1) λc aY=>?_;refine dd (λbW=>ae (λr=>r=g) w bW/\bK bW g B H 100000 (R.map (a8 (decide (6<ar)||ds sizes)))) ?_ ?_
 rotate_left
 .intro ax aZ;rw[bP,aj];refine⟨λdh=>?_,λdh=>?_⟩
  .refine (mM h).mono ?_;rintro _ J _ a2;refine aZ _ ⟨a2.1,?_⟩;rw[decide_eq_true (show 6<ar by omega),Bool.true_or];exact a2.2
  .rw[bP];refine(mM h).mono ?_;rintro _ J _ a2;refine aZ _ ⟨a2.1,?_⟩;have e:ds sizes=decide (4096<c):=by rw[U1,decide_eq_true_eq];exact aY.symm
   rw[decide_eq_false (show¬6<ar by omega),Bool.false_or,e];exact a2.2
 rintro bW ⟨im,io⟩;refine(kA io).mono ?_;rintro _ bB _ ⟨⟨ip,iq⟩,o,jC,rfl,ir,jD⟩;rw[br,bt];have bI:ae (λr=>r=g) w bB:=im.trans ip;have jE:=dz.dL bI (kB h);have f123:=f1.V bI λhe=>b2 he;rw[aR a1.p rfl];refine bk (g:=E) (o:=2) al.i rfl rfl f123 Ξ λbf b8 jF bM=>?_;have bM:ad bf E a1 [aN,szv,Δ o,b3]:=bM;have dk:∀r,r=g->hh w r\/w.heap.size<=r:=λr j=>(kB h r j).imp (λ⟨e,c,C,a6,ba,_⟩=>⟨e,c,C,a6,ba⟩) id;have bO:∀{G:x3}{c:List x1},ad G E a1 c->∀r,r=E->hh G r\/G.heap.size<=r:=λC r j=>by subst j;exact .inl ⟨_,_,C,Φ,Φ⟩
 have f224:=eG (eG f2 bI dk) b8 (bO f123);have f324:=eG (eG f3 bI dk) b8 (bO f123);have eF:=(f4.dL bI dk).dL b8 (bO f123);have bQ:=iq.new b8 λr j=>by have j:r=E:=j;omega
 have eH:ae (gP g B) w bf:=(bI.mono λr _ h=>.inl h).trans (b8.mono λr _ h=>.inr (by have h:r=E:=h;omega));refine(kA bQ).mono ?_;rintro _ O _ ⟨⟨bi,bb⟩,n,jG,rfl,it,eI⟩;rw[br,bt,qP bb];have eJ:ae (gP g B) w O:=eH.trans (bi.mono λr _ h=>.inl h);have iu:hj bf B E ⟨scope,sizes,o,[]⟩:=⟨aN,szv,b3,g1,cN,cO,bM,f224,f324,eF,f5,f6,f7⟩;have eK:=iu.dL bi (kB bQ);cases bd:a7 (-4611686018427387904) 4611686018427387904 (U3 (λx=>x.snd) (a7 0 4611686018427387904 (R.map (a8 (decide (6<ar)||ds sizes)))))with
 |none=>
  rw[bd]at bb;rw[Option.map_none,R4,W5,bL];refine eD eK eJ bb ?_;unfold jY;cases W:a7 0 av (R.map (a8 (decide (6<ar)||ds sizes)))with
  |none=>rfl
  |some p=>
   obtain⟨o',M⟩:=p;have iv:a7 0 4611686018427387904 (R.map (a8 (decide (6<ar)||ds sizes)))=σ (o',M):=W;rw[iv]at bd;have e:bc (-av) av M=ν:=bd;simp only;unfold dS;rw[e]
 |some q=>
 obtain⟨jH,K⟩:=q;have iw:=it _ bd;subst iw;rw[bd]at bb;have bb:bK O g B H 100000 (σ K):=bb;rw[Z7,R2,Y6,aU];obtain⟨M,W,dl⟩:∃M,a7 0 av (R.map (a8 (decide (6<ar)||ds sizes)))=σ (o,M)/\bc (-av) av M=σ (n,K):=by
  cases W:a7 0 4611686018427387904 (R.map (a8 (decide (6<ar)||ds sizes)))with
  |none=>rw[W]at bd;cases bd
  |some p=>
   obtain⟨o',M⟩:=p;have:=ir _ W;subst this;rw[W]at bd;exact⟨M,W,bd⟩
 have b9:jY neg ar scope sizes R=match dS sizes M with
   |none=>ν
   |some (lines,K)=>σ (⟨scope,sizes,o,lines⟩,if neg=true then{K with shared:=K.shared++[(sizes,lines)]}else K):=by
  unfold jY;rw[W]
 have ix:=(hY dl).1;have iy: -4611686018427387904<=n/\n<=4611686018427387904:=ix;have eL:dS sizes M=(if n<0 then match K.shared[(-n-1).toNat]? with
   |none=>ν
   |some (z,l)=>if z=sizes then σ (l,K)else ν
  else cK (dR sizes) n.toNat [] (a8 (decide (16384<min (K.told+n) av)) {K with told:=min (K.told+n) av})):=by
  unfold dS;rw[dl];rfl
 have iz:jX K:=by
  cases bR:R with
  |none=>rw[bR]at W;cases W
  |some ao=>
   rw[bR]at W;have dm:bc 0 av (a8 (decide (6<ar)||ds sizes) ao)=σ (o,M):=W;have cP:=(dF dm).eqs;have ca:=(dF dl).eqs;intro C;rw[ca.2.1,cP.2.1]at C;rw[ca.1,cP.1];exact fk ao bR (U5.1 C).1
 refine dd (λaV=>ae (gP g B) w aV/\∃bp cb cQ bj,ad aV E a1 [aN,szv,Δ o,bp]/\aq .i64 al aV g1 aN scope/\aq .i64 al aV cN szv sizes/\kz aV cb bp cQ/\bK aV g B H 100000 (σ bj)/\(0<n->cQ=[]/\∀r,¬leadsTo bp r)/\dS sizes M=(if n<=0 then σ (cQ,bj)else cK (dR sizes) n.toNat [] bj)) ?_ ?_
 .rintro aV ⟨iA,bp,cb,cQ,bj,c8,c9,da,db,dc,ey,eA⟩;refine NR dc c8 c9 da db f5 f6 f7 dA fj iy.2 ey (th dc).1 λb0 A dn iB eM eN iC cc=>?_;have bS:=iA.trans iB;have bq:dn=(dS sizes M).map (·.2)/\∀q,dS sizes M=σ q->A=q.1:=by
   rw[eA];by_cases dq:n<=0
   .obtain⟨Z,ab⟩:=iC dq;rw[if_pos dq];exact⟨ab,λq U=>by cases U;exact Z⟩
   .rw[if_neg dq];exact cc Ω
  obtain⟨bq,a2⟩:=bq;cases neg with
  |false=>
   refine dd (λag=>b0=ag) ?_ ?_
   .rintro _ rfl;refine ret eM (df bS) (dg bS) ?_ ?_ cG (λ_ h=>h) (λ_ h=>.inl h) λr j=>by have:=cH r j;have:=bS.size;omega
    .have:(jY false ar scope sizes R).map (·.2)=dn:=by
      rw[b9,bq];cases dS sizes M with
      |none=>rfl
      |some p=>rfl
     rw[this];exact eB eN.base
    .intro q U;rw[b9]at U;cases ak:dS sizes M with
     |none=>rw[ak]at U;cases U
     |some p=>
      rw[ak]at U;have:=a2 p ak;cases U;rw[this]
   .intro ax aZ;rw[aU];exact aZ _ rfl
  |true=>
   refine dd (λag=>∃S,ae (λr=>r=g\/H r\/B<=r) w ag/\hj ag B E ⟨scope,sizes,o,A⟩/\ad ag N a1 [.slice ν 0 0,.slice ν 0 0,Δ 0,.slice ν 0 0]/\bK ag g ag.heap.size S 100001 ((jY true ar scope sizes R).map (·.2))/\¬S N/\(∀r,H r->S r)/\(∀r,S r->H r\/B<=r)/\∀r,S r->r<ag.heap.size) ?_ ?_
   .rintro ag ⟨S,iD,iE,a3,a4,a5,iF,iG,iH⟩;refine ret iE a3 iD a4 ?_ a5 iF iG iH;intro q U;rw[b9]at U;cases ak:dS sizes M with
    |none=>rw[ak]at U;cases U
    |some p=>
     rw[ak]at U;have:=a2 p ak;cases U;rw[this]
   .intro ax aZ;rw[bL];intro ap ce _ _;have iI:=eN.ext ce;have iJ:=eM.ext ce;have iK:=(df bS).ext ce;obtain⟨b7,w0,aw,bh,gs,sv,L,aA,Z,ab,bad,ay,big,az,told,cR,bu,bx,am,bz,bl,bA⟩:=id iI;have iL:=bz.g bu bx;obtain⟨⟨iM,eO⟩,aM,cg,ch⟩:=id iL;have iN:∀r,leadsTo sv r->r<B:=λr j=>cH r (bl r j);rw[aG bw.p 8 am rfl];obtain⟨eP,eQ,bp,eR,eS,cb,eU,eV,eW,eX,iO,iP,iQ⟩:=id iJ;let ac:iW:=⟨eP,eQ,o,bp⟩;let x:cm:=⟨scope,sizes,o,A⟩;have b4:gO ap ac x:=⟨⟨eR,eV⟩,⟨eS,eW⟩,rfl,cb,eX⟩;rw[bH a1.p a1.i rfl (show ap.rangeAt E 0 (eY ac)from eU.range)];refine h2 (f:=eY) (a:=ac) dy.u a1.i Ω rfl rfl λjI jJ aX jK Y iR=>?_;refine⟨.inl Y,?_⟩;have jL:L.length<=100000:=by
     cases dn with
     |none=>exact bA.2
     |some s=>have:=bA.2.2.2.2.2.2.2.2;omega
    have dr:=aM.ext Y;refine ik (f:=eY) (a:=ac) dy.u a1.i rfl dr (by simpa using iR.sl) (b4.ext Y).one Ω Ω λeZ iS cM ci iT e0=>?_;have dt:=am.ext Y;have e1:=dt.V e0 λhe=>cC dr dt Φ he;rw[bJ,aR bw.p rfl];refine bk (g:=g) (o:=8) dy.i (dp ci.sl).1 (dp ci.sl).2 e1 (by simp[gB]) λbo du jM cS=>?_;have cS:ad bo g bw (gB aw Z ab bad ay big az told eZ):=cS;have aO:ae (λr=>leadsTo sv r\/r=g) aX bo:=(e0.mono λr _ h=>.inl h).trans (du.mono λr _ h=>.inr h);have cT:∀r,(leadsTo sv r\/r=g)->hh aX r\/aX.heap.size<=r:=λr j=>by
     rcases j with j|rfl
     .obtain⟨rfl,c,C⟩:=ef dr j;exact .inl ⟨_,c,C,Φ,Φ⟩
     .exact .inl ⟨_,_,dt,Φ,Φ⟩
    have e2:∀{ac x},gO ap ac x->gO bo ac x:=λhe=>(he.ext Y).dL aO cT;have z50:=ce.size;have jN:=Y.size;have z53:=aO.size;have jO:=bS.size;have jP:=h3.2;refine aZ _ ⟨λr=>H r\/(ap.heap.size<=r/\r<bo.heap.size),?_,?_,?_,?_,?_,λr j=>.inl j,λr j=>j.imp id λj=>Ω,λr j=>?_⟩
    .refine (((dg bS).trans (ce.V _)).trans (Y.V _)).trans (aO.mono λr _ j=>?_);exact j.elim (λj=>.inr (.inl (bl r j))) .inl
    .have iU:=eU.ext Y;refine⟨eP,eQ,bp,eR,eS,cb,iU.V aO λj=>?_,eG (eV.ext Y) aO cT,eG (eW.ext Y) aO cT,(eX.dL (Y.V λ_=>False) λ_ h=>h.elim).dL aO cT,iO,iP,iQ⟩;rcases j with j|j
     .have:=iN _ j;omega
     .exact b2 j
    .exact (iK.ext Y).V aO λj=>j.elim (λj=>cG (bl _ j)) ew
    .refine⟨Ω,bo,aw,bh,iS,eZ,L++[ac],aA++[x],Z,ab,bad,ay,big,az,told,rfl,ae.refl _ _,⟨_,cS⟩,cS,⟨⟨?_,λr j=>?_⟩,ci.V du λr j he=>?_,by rw[r8,r8,cg];rfl,λi iV iX hi cj=>?_⟩,λr j=>?_,?_⟩
     .refine (iM.V (Y.V λ_=>False) λ_ _ h=>h).V aO λr j I=>?_;obtain⟨c,C⟩:=eO r j;rcases I with I|rfl
      .obtain⟨rfl,iY,dv⟩:=ef aM I;exact absurd (ep C dv) Φ
      .exact absurd (ep C am) Φ
     .obtain⟨c,C⟩:=eO r j;refine⟨c,(C.ext Y).V aO λI=>?_⟩;rcases I with I|rfl
      .obtain⟨rfl,iY,dv⟩:=ef aM I;exact absurd (ep C dv) Φ
      .exact absurd (ep C am) Φ
     .have he:r=g:=he;subst he;exact cC ci e1 Φ j
     .by_cases iZ:i<L.length
      .rw[Y1 iZ]at hi;rw[Y1 Ω]at cj;exact e2 (ch i iV iX hi cj)
      .rw[Y2 Ω]at hi;rw[Y2 Ω]at cj;have i0:i-L.length=0:=by have:=(x4.1 hi).1;simp at this;omega
       have c7:i-aA.length=0:=Ω
       rw[i0]at hi;rw[c7]at cj;cases hi;cases cj;exact e2 b4
     .rcases iT r j with h|h
      .exact .inl (bl r h)
      .have:=(ci.leads j);have:=du.size;exact .inr ⟨Ω,Ω⟩
     .rw[b9];cases ak:dS sizes M with
      |none=>
       rw[ak]at bq;rw[bq]at bA;exact⟨bA.1,by rw[r8];simp;have:=bA.2;omega⟩
      |some p=>
       obtain⟨lines,bj⟩:=p;rw[ak]at bq;rw[bq]at bA;have i1:=a2 _ ak;obtain⟨cl,cn,cp,cq,cr,bT,ct,aS,cU⟩:=id bA;have e3:=C5 ak;refine⟨cl,cn,cp,cq,cr,bT,ct,?_,?_⟩
       .show (aA++[x]).map _=bj.shared++[(sizes,lines)];rw[Z4,aS];simp only[x,T4,List.map_nil];rw[i1]
       .have jQ:M.shared.length+M.toks.length<=100000:=by
         cases bR:R with
         |none=>rw[bR]at W;cases W
         |some ao=>
          rw[bR]at W h;have dm:bc 0 av (a8 (decide (6<ar)||ds sizes) ao)=σ (o,M):=W;have t9:=dF dm;have cP:=t9.1;have ca:=t9.eqs.2.2;have t3:=(th h).2;have e4:(a8 (decide (6<ar)||ds sizes) ao).toks=ao.toks:=rfl;have e5:(a8 (decide (6<ar)||ds sizes) ao).shared=ao.shared:=rfl;rw[e4]at cP;rw[e5]at ca;rw[ca];omega
        have e6:L.length=bj.shared.length:=by rw[<-aS,u9,cg]
        have i2:bh.length=bj.toks.length:=by rw[<-bT,u9]
        rw[e3.2]at e6;rw[r8,e6,i2];simp only[U9];have:=e3.1;omega
    .rintro (j|j)
     .exact cG j
     .omega
    .rcases j with j|j
     .have:=cH r j;omega
     .exact j.2
 .intro ax aZ;rw[aQ,aj];refine⟨λi3=>?_,λi4=>?_⟩
  .
   refine aT (λv X=>Ext O X/\∃b:Bool,v= .bool b/\(b=true->dS sizes M=ν)/\(b=false->∃lines,dS sizes M=σ (lines,K)/\K.shared[(-n-1).toNat]?=σ (sizes,lines))) ?_ ?_
   .rintro _ X ⟨bU,b,rfl,i5,i6⟩;have cV:=bb.ext bU;have i7:=eK.ext bU;have e7:=eJ.trans (bU.V _);cases b with
    |true=>
     rw[bL];refine(n3 cV Ω).mono ?_;rintro _ c2 _ ⟨e8,i8⟩;exact eD (i7.dL e8 (kB cV)) (e7.trans (e8.mono λr _ h=>.inl h)) i8 (by rw[b9,i5 rfl])
    |false=>
     rw[aU];obtain⟨lines,i9,bV⟩:=i6 rfl;obtain⟨b7,w0,aw,bh,gs,sv,L,aA,Z,ab,bad,ay,big,az,told,cR,bu,bx,am,bz,bl,cl,cn,cp,cq,cr,bT,ct,aS,cU⟩:=id cV;obtain⟨_,aM,cg,ch⟩:=bz.g bu bx;have cw:(-n-1).toNat<L.length:=by
      have h1:=(x4.1 bV).1;rw[<-aS,u9]at h1;omega
     obtain⟨hk,cz⟩:∃h,L[(-n-1).toNat]?=σ h:=⟨_,x6 cw⟩;obtain⟨be,cA⟩:=aF (l:=aA) (i:=(-n-1).toNat) Ω;obtain⟨_,_,_,ja,an⟩:=ch _ hk be cz cA;have jb:be.lines=lines:=by
      rw[<-aS,x8,cA]at bV;have:=Z2 bV;exact(Prod.mk.inj this).2
     rw[aG bw.p 8 am rfl,lM,wrap_i64 Ω Ω,dD,wrap_i64 Ω Ω,dj (i:=(-n-1).toNat) Ω dy.u a1.i aM cw,aR a1.p rfl,aB Ψ (aM.range cz 3 _ rfl)];obtain⟨jR,e9,jS,jT⟩:=id an;have cW:ad X E a1 [aN,szv,Δ o,b3]:=(bM.V bi λhe=>b2 he).ext bU;have jc:=(eG f224 bi λr j=>(kB bQ r j).imp (λ⟨e,c,C,a6,ba,_⟩=>⟨e,c,C,a6,ba⟩) id).ext bU;have jd:=(eG f324 bi λr j=>(kB bQ r j).imp (λ⟨e,c,C,a6,ba,_⟩=>⟨e,c,C,a6,ba⟩) id).ext bU;rw[aR a1.p rfl];refine bk (g:=E) (o:=3) ea.i (dp e9.sl).1 (dp e9.sl).2 cW Ξ λeo cB jU je=>?_;refine aZ _ ⟨e7.trans (cB.mono λr _ h=>.inr (by have h:r=E:=h;omega)),hk.b3,ja,lines,K,je,eG jc cB (bO cW),eG jd cB (bO cW),?_,cV.new cB λr j=>by have j:r=E:=j;omega,λh=>Ω,by rw[i9,if_pos Ω]⟩;rw[<-jb];exact an.dL cB (bO cW)
   .intro jV fa;intro P cD _ _;have jf:=bb.ext cD;obtain⟨b7,w0,aw,bh,gs,sv,L,aA,Z,ab,bad,ay,big,az,told,cR,bu,bx,am,bz,bl,cl,cn,cp,cq,cr,bT,ct,aS,cU⟩:=id jf;obtain⟨_,aM,cg,ch⟩:=bz.g bu bx;have jW:K.shared.length=L.length:=by rw[<-aS,u9,cg]
    have an:=eL;rw[if_pos i3]at an;rw[lM,wrap_i64 Ω Ω,aG bw.p 8 am rfl,ez dy.u aM,bP,aj];refine⟨λcc=>fa _ _ ⟨cD,true,rfl,λ_=>?_,λh=>by cases h⟩,λcc=>?_⟩
    .rw[an,Y0 Ω]
    have cw:(-n-1).toNat<L.length:=Ω
    obtain⟨hk,cz⟩:∃h,L[(-n-1).toNat]?=σ h:=⟨_,x6 cw⟩;obtain⟨be,cA⟩:=aF (l:=aA) (i:=(-n-1).toNat) Ω;obtain⟨_,⟨gz,jg⟩,_,_⟩:=ch _ hk be cz cA;have bV:K.shared[(-n-1).toNat]?=σ (be.sizes,be.lines):=by rw[<-aS,x8,cA];rfl
    rw[bV]at an;simp only at an;rw[aG bw.p 8 am rfl,lM,wrap_i64 Ω Ω,dD,wrap_i64 Ω Ω,dj (i:=(-n-1).toNat) Ω dy.u a1.i aM cw,aR a1.p rfl,aB Ψ (aM.range cz 1 _ rfl)];have jh:ad P E a1 [aN,szv,Δ o,b3]:=(bM.V bi λhe=>b2 he).ext cD;have ji:=(eG f324 bi λr j=>(kB bQ r j).imp (λ⟨e,c,C,a6,ba,_⟩=>⟨e,c,C,a6,ba⟩) id).ext cD;rw[aL a1.p 1 jh rfl];refine(wz jg.ls ji.ls).mono ?_;rintro _ c3 _ ⟨rfl,jj⟩;rw[bC];refine fa _ _ ⟨cD.trans jj,_,rfl,λC=>?_,λC=>?_⟩
    .have jk:be.sizes≠sizes:=by simpa using C
     rw[an,if_neg jk]
    .have fb:be.sizes=sizes:=by simpa using C
     exact⟨be.lines,by rw[an,if_pos fb],by rw[bV,fb]⟩
  .
   have an:=eL;rw[if_neg i4]at an;obtain⟨b7,w0,aw,bh,gs,sv,L,aA,Z,ab,bad,ay,big,az,told,cR,bu,bx,am,bz,bl,cl,cn,cp,cq,cr,bT,ct,aS,cU⟩:=id bb;rw[aG bw.p 7 am rfl,aP];generalize jl:X7.wrap (told+n)=bm;have fc:K.big=false->bm=K.told+n/\0<=bm:=λC=>by
    obtain⟨e4,e5⟩:=iz C;have jm:=cq C;rw[<-jl,jm,wrap_i64 Ω Ω];exact⟨rfl,Ω⟩
   rw[bJ,aR bw.p rfl];refine bk (g:=g) (o:=7) al.i rfl rfl am (by simp[gB]) λaI fd jZ cE=>?_;have cE:ad aI g bw (gB aw Z ab bad ay big az bm sv):=cE;refine dd (λaK=>ae (λr=>r=g) O aK/\ad aK g bw (gB aw Z ab bad ay big az (min bm av) sv)) ?_ ?_
   rotate_left
   .intro j0 fe;rw[aG bw.p 7 cE rfl,bP,aj];refine⟨λcc=>?_,λcc=>fe _ ⟨fd,?_⟩⟩
    .rw[bJ,aR bw.p rfl];refine bk (g:=g) (o:=7) al.i rfl rfl cE (by simp[gB]) λet jn j1 jo=>?_;refine fe _ ⟨fd.trans jn,?_⟩;have e:min bm av=4611686018427387904:=by unfold av;omega
     rw[e];exact jo
    .have e:min bm av=bm:=by unfold av;omega
     rw[e];exact cE
   rintro aK ⟨ff,fg⟩;have jp:bK aK g B H 100000 (σ {K with told:=min (K.told+n) av}):=⟨b7,w0,aw,bh,gs,sv,L,aA,Z,ab,bad,ay,big,az,_,cR,bu.trans ff,bx,fg,bz,bl,cl,cn,cp,λC=>by
    have C:K.big=false:=C;rw[(fc C).1],cr,bT,ct,aS,cU⟩
   rw[aG bw.p 7 fg rfl,bP];refine(mM jp).mono ?_;rintro _ c4 _ ⟨jq,fh⟩;have jr:(σ {K with told:=min (K.told+n) av}).map (a8 (decide (16384<min bm av)))=σ (a8 (decide (16384<min (K.told+n) av)) {K with told:=min (K.told+n) av}):=by
    show σ (a8 _ _)=_;congr 1;unfold a8;cases C:K.big with
    |true=>simp
    |false=>rw[(fc C).1]
   rw[jr]at fh;have cF:ae (λr=>r=g) bf c4:=(bi.trans ff).trans jq;have dw:∀r,r=g->hh bf r\/bf.heap.size<=r:=λr j=>(kB bQ r j).imp (λ⟨e,c,C,a6,ba,_⟩=>⟨e,c,C,a6,ba⟩) id;have js:b3= .slice ν 0 0:=by
    have:=fi _ f1;simpa using this
   refine aZ _ ⟨eH.trans (cF.mono λr _ h=>.inl h),b3,cO,[],_,bM.V cF λhe=>b2 he,eG f224 cF dw,eG f324 cF dw,eF.dL cF dw,fh,λ_=>⟨rfl,λr j=>by rw[js]at j;exact fq j⟩,?_⟩;rw[an];by_cases eI:n<=0
   .have:n=0:=Ω
    subst this;rw[if_pos (Int.le_refl _)];rfl
   .rw[if_neg eI]
theorem C8{s:aD}:c6 all s=match bc (-av) av s with
  |none=>ν
  |some (a,s1)=>match e5 all.length a.natAbs s1 with
   |none=>ν
   |some (scope,e)=>jY (decide (a<0)) a.natAbs scope (scope.map λv=>all.getD v.toNat 0) (σ e):=by
 unfold c6;cases bc (-av) av s with
 |none=>rfl
 |some q=>
  obtain⟨a,s1⟩:=q;simp only;cases e5 all.length a.natAbs s1 with
  |none=>rfl
  |some p=>
   obtain⟨scope,e⟩:=p;simp only;unfold jY;show _=match bc 0 av (a8 (decide (6<a.natAbs)||ds (scope.map λv=>all.getD v.toNat 0)) e)with
    |none=>ν
    |some (other,f)=>_
   cases bc 0 av (a8 (decide (6<a.natAbs)||ds (scope.map λv=>all.getD v.toNat 0)) e)with
   |none=>rfl
   |some j=>
    obtain⟨o,f⟩:=j;simp only;cases dS (scope.map λv=>all.getD v.toNat 0) f with
    |none=>rfl
    |some r=>
     obtain⟨ls,w⟩:=r;by_cases h:a<0
     .simp[h]
     .simp[h]
def wB(w:x3)(g:Nat)(H:af)(e:Option (cm×aD))(v:x1)(w':x3):Prop:=∃f x a,ae (λr=>r=g\/H r) w w'/\v= .agg (eY f).toArray/\gO w' f x/\bK w' g w'.heap.size a 100001 (e.map (·.2))/\(∀q,e=σ q->x=q.1)/\(∀r,H r->a r)/\(∀r,a r->H r\/w.heap.size<=r)/\∀r,a r->r<w'.heap.size
theorem C9{n:Int}{s s':aD}(h:e5 n k s=σ (l,s')):s'.toks.length+l.length<=s.toks.length/\s'.told=s.told/\s'.big=s.big/\s'.shared=s.shared/\∀v∈l,0<=v/\v<n:=by
 have:=kr (f:=kt n) (λ(acc:Λ)t=>t.toks.length+acc.length<=s.toks.length/\t.told=s.told/\t.big=s.big/\t.shared=s.shared/\∀v∈acc,0<=v/\v<n) (λacc t a bi j e=>by
  unfold kt at e;cases r:bc 0 (n-1) t with
  |none=>rw[r]at e;cases e
  |some q=>
   obtain⟨v,C⟩:=q;rw[r]at e;simp only at e;split at e
   .cases e
   .cases e;have w:=dF r;have E:=(hY r).1;obtain⟨x,z,A⟩:=w.eqs;have t0:=w.1;refine⟨by have:=j.1;rw[r8];simp only[U9];omega,x.trans j.2.1,z.trans j.2.2.1,A.trans j.2.2.2.1,λy p=>?_⟩;rcases o9.1 p with p|p
    .exact j.2.2.2.2 y p
    .rw[l7.1 p];omega) k [] s l s' ⟨Ξ,rfl,rfl,rfl,λv B=>by cases B⟩ h
 exact this.1
theorem NS{g B0:Nat}{H:af}{s:aD}{P:x1}(h:bK w g B0 H 100000 (σ s))(ac:aq .i64 al w gz P all)(ag:∀z∈all,1<=z/\z<=av)(aR:all.length<=100001)(Q:∀r,H r->r<w.heap.size)(bj:jX s):
  ai x7 yX [Γ g,P] w (wB w g H (c6 all s)):=by
 have bW:=h.lt;refine az func122 ?_;refine bz a1.i λG J bX R S=>?_;have S:ad J G a1 [.slice ν 0 0,.slice ν 0 0,Δ 0,.slice ν 0 0]:=S;refine bz a1.i λM U bY W X=>?_;have X:ad U M a1 [.slice ν 0 0,.slice ν 0 0,Δ 0,.slice ν 0 0]:=X;have h1:=(h.ext R).base;have ah:=h1.ext W;have bZ:=R.size;have aS:=S.lt;have b0:=X.lt;refine(kA ah).mono ?_;rintro _ E _ ⟨⟨Y,j⟩,a,b1,rfl,ak,am⟩;rw[br,bt,aQ];have bk:M≠g:=Ω
 have an:G≠g:=Ω
 have ap:=X.V Y λhe=>bk he;have au:=(S.ext W).V Y λhe=>an he;have aU:aq .i64 al E gz P all:=bo ((ac.ext R).ext W) Y λr e he=>by
  have he:r=g:=he;obtain⟨aV,B,K,bad,aW,big,aX,told,sv,Z,_⟩:=h4 h;subst he;exact b4 ac Z Φ e rfl
 have aY:∀r,leads P r->r<J.heap.size:=λr e=>by obtain⟨B,K⟩:=bO ac e;omega
 have aw:hj E J.heap.size M ⟨[],[],0,[]⟩:=⟨_,_,_,0,0,0,ap,aq.nil _ _ _ _,aq.nil _ _ _ _,⟨[],ba.nil _ _ _ _ _,λy bl=>(by cases bl),rfl⟩,(λr e=>by rcases e with⟨a,n,c,B,K⟩|⟨a,n,c,B,K⟩<;>cases B),(λr e=>by obtain⟨a,n,c,B,K⟩:=e;cases B),Ω⟩;have ay:∀c,ad E M a1 c->c[3]?=σ (.slice ν 0 0):=λc aA=>by
  unfold ad at aA ap;rw[ap]at aA;have:=Array.toList_inj.2 (Obj.cells.inj (Z2 aA)).1;simp at this;rw[<-this];rfl
 have aZ:ae (λr=>r=g) J E:=(W.V _).trans Y;have b2:J.heap.size<=E.heap.size:=aZ.size;have aB:∀{f:x3}{aE:Option (cm×aD)}{v:x1}{w':x3},ae (gP g J.heap.size) E f->aE=c6 all s->C6 f g G J.heap.size H aE v w'->wB w g H (c6 all s) v w':=by
  rintro f aE v w' C rfl ⟨O,x,bm,aF,aG,aH,aI,a2,a6,a8,bn⟩;refine⟨O,x,bm,?_,aG,aH,aI,a2,a6,λr e=>(a8 r e).imp id λh=>Ω,bn⟩;refine hC (hC ((R.V _).trans (aZ.mono λr _ h=>.inl h)) C λr e he=>?_) aF λr e he=>?_
  .exact he.elim .inl λhe=>Ω
  .rcases he with he|he|he|he
   .exact .inl he
   .exact .inr he
   .omega
   .omega
 have bp:∀{f:x3}{x:cm},ae (gP g J.heap.size) E f->c6 all s=ν->bK f g J.heap.size H 100000 ν->hj f J.heap.size M x->
   (aa x7 (u4 a1 (Γ M)) f λbq=>
    aC x7 (o6 a1 (Γ G) bq) f λ(_:Unit)bb=>
    aa x7 (do loadVar a1 (<-asAddr (Γ G))) bb λbu=>wB w g H (c6 all s) bu bb):=by
  intro f x C bd aJ bw;obtain⟨aN,szv,b3,g1,bx,bA,aF,aG,aH,aI,a2,a6,a8⟩:=bw;let O:iW:=⟨aN,szv,x.other,b3⟩;have be:gO f O x:=⟨⟨g1,aG⟩,⟨bx,aH⟩,rfl,bA,aI⟩;have aK:=au.V C λI=>I.elim an λh=>Ω
  rw[bH a1.p a1.i rfl (show f.rangeAt M 0 (eY O)from aF.range)];refine b6 (vs:=eY O) a1.i rfl rfl be.one aK λb5 aL b7 bB=>?_;rw[fC a1.p a1.i rfl bB.range];have bC:∀r,r=G->hh f r\/f.heap.size<=r:=λr e=>by subst e;exact .inl ⟨_,_,aK,Φ,Φ⟩
  have b8:=C.size;refine aB C rfl ⟨O,x,H,aL.mono λr _ h=>.inr (.inr (.inl h)),rfl,be.dL aL bC,?_,(λq A=>by rw[bd]at A;cases A),λ_ h=>h,λ_ h=>.inl h,λr e=>by have:=Q r e;omega⟩;rw[bd];have bD:bK f g J.heap.size H 100001 ν:=by
   obtain⟨b9,w0,aV,bE,gs,sv,L,bF,B,K,bad,aW,big,aX,told,h1,ah,j,bG,bI,aM,bf⟩:=aJ;exact⟨Ω,w0,aV,bE,gs,sv,L,bF,B,K,bad,aW,big,aX,told,h1,ah,j,bG,bI,aM,bf.1,by have:=bf.2;omega⟩
  refine bD.dL aL λr e=>.inl ?_;have e:r=G:=e;subst e;exact⟨_,_,aK,Φ,Φ,Φ,Φ,λao=>by have:=Q _ ao;omega⟩
 have N:=C8 (all:=all) (s:=s);have bJ:a7 (-4611686018427387904) 4611686018427387904 (σ s)=bc (-av) av s:=rfl;rw[bJ]at j ak am;have ca: -4611686018427387904<=a/\a<=4611686018427387904:=by
  cases A:bc (-av) av s with
  |none=>have:=am A;omega
  |some q=>have:=ak q A;rw[this];exact(hY (n:=q.1) (s':=q.2) A).1
 refine aT (λv bL=>E=bL/\v=Δ (a.natAbs:Int)) ?_ ?_
 rotate_left
 .intro ax bg;rw[aj];refine⟨λcb=>?_,λcc=>bg _ _ ⟨rfl,by congr 1;omega⟩⟩;rw[lM,wrap_i64 Ω Ω];exact bg _ _ ⟨rfl,by congr 1;omega⟩
 rintro _ _ ⟨rfl,rfl⟩;have bh:∀r,H r->r<J.heap.size:=λr e=>by have:=Q r e;omega
 have bi:¬H G:=λao=>by have:=Q _ ao;omega
 have bM:∀{scope:Λ},(∀v∈scope,0<=v/\v<(all.length:Int))->∀z∈scope.map (λv=>all.getD v.toNat 0),1<=z/\z<=av:=λbN z bP=>by
  obtain⟨v,bQ,rfl⟩:=l9.1 bP;have:=bN v bQ;refine ag _ ?_;rw[v8,x6 Ω];exact S9 _
 cases A:bc (-av) av s with
 |none=>
  rw[A]at j N;have bR:=am A;subst bR;refine C4 (s:=s) (ar:=(0:Int).natAbs) j (.inr ⟨rfl,rfl⟩) aw ay aU aY aR Φ (λh=>by cases h) ?_ ?_ ?_
  .intro h;cases h
  .intro _;exact C7 (neg:=decide ((0:Int)<0)) j aw ay (λz ag=>by cases ag) Ξ au aS bi bh (λbS I=>by cases I) λv w' aO=>aB (ae.refl _ _) (by rw[N];rfl) aO
  .intro h;cases h
 |some q=>
  obtain⟨a',s1⟩:=q;rw[A]at j N;have:=ak _ A;subst this;simp only at N;have j:bK E g J.heap.size H 100000 (σ s1):=j;have bT:=dF A;refine C4 (s:=s1) (ar:=a.natAbs) j (.inl rfl) aw ay aU aY aR Ω (λ_=>(th j).1) ?_ ?_ ?_
  .intro _ f x C ab aJ aP;exact bp C (by rw[N,ab]) aJ aP
  .intro h;cases h
  .intro _ f scope s' C ab aM aP bU;obtain⟨cd,bV,t3,t4,t5⟩:=C9 ab;rw[ab]at N;obtain⟨B,K,ce⟩:=bT.eqs;refine C7 (neg:=decide (a<0)) aM aP bU (bM t5) ?_ (au.V C λI=>I.elim an λh=>Ω) aS bi bh (λbS I=>?_) λv w' aO=>aB C N.symm aO
   .rw[u9];have:=(th j).1;omega
   .cases I;intro Z;rw[t3,K]at Z;rw[bV,B];exact bj Z
theorem NT{s s':aD}{l:List (Λ×Int)}(h:dS sizes s=σ (l,s'))(r:jX s):jX s':=by
 unfold dS at h;cases j:bc (-av) av s with
 |none=>rw[j]at h;cases h
 |some q=>
  obtain⟨n,s1⟩:=q;obtain⟨w,x,t3⟩:=(dF j).eqs;have p:jX s1:=λe=>by rw[w];exact r (by rw[<-x];exact e)
  rw[j]at h;simp only at h;split at h
  .split at h
   .cases h
   .split at h
    .cases h;exact p
    .cases h
  .rename_i G;have h':cK (dR sizes) n.toNat [] (a8 (decide (16384<min (s1.told+n) av)) {s1 with told:=min (s1.told+n) av})=σ (l,s'):=h;have:=kr (f:=dR sizes) (λ_ t=>jX t) (λacc t a bi y z=>by
    obtain⟨_,_,_,A⟩:=oY z;obtain⟨B,C,H⟩:=A.eqs;intro e;rw[B];exact y (by rw[<-C];exact e)) n.toNat [] (a8 (decide (16384<min (s1.told+n) av)) {s1 with told:=min (s1.told+n) av}) l s' (λe=>by
     obtain⟨E,F⟩:=U5.1 e;have I:=p E;have J:=of_decide_eq_false F;show 0<=min (s1.told+n) av/\min (s1.told+n) av<=16384;unfold av at*;omega) h'
   exact this.1
theorem NU{s s':aD}{x:cm}(h:c6 all s=σ (x,s')):s'.toks.length+1<=s.toks.length/\(jX s->jX s'):=by
 rw[C8]at h;cases r:bc (-av) av s with
 |none=>rw[r]at h;cases h
 |some q=>
  obtain⟨a,s1⟩:=q;rw[r]at h;simp only at h;have A:=dF r;cases I:e5 all.length a.natAbs s1 with
  |none=>rw[I]at h;cases h
  |some p=>
   obtain⟨scope,f⟩:=p;rw[I]at h;simp only at h;obtain⟨T,F,t3,_⟩:=C9 I;unfold jY at h;have e:a7 0 av ((σ f).map (a8 (decide (6<a.natAbs)||ds (scope.map λv=>all.getD v.toNat 0))))=bc 0 av (a8 (decide (6<a.natAbs)||ds (scope.map λv=>all.getD v.toNat 0)) f):=rfl;rw[e]at h;cases w:bc 0 av (a8 (decide (6<a.natAbs)||ds (scope.map λv=>all.getD v.toNat 0)) f)with
   |none=>rw[w]at h;cases h
   |some G=>
    obtain⟨o,B⟩:=G;rw[w]at h;simp only at h;have C:=dF w;cases j:dS (scope.map λv=>all.getD v.toNat 0) B with
    |none=>rw[j]at h;cases h
    |some H=>
     obtain⟨ls,y⟩:=H;rw[j]at h;simp only[X0,S2]at h;obtain⟨_,J⟩:=h;have U:=C5 j;have K:(a8 (decide (6<a.natAbs)||ds (scope.map λv=>all.getD v.toNat 0)) f).toks=f.toks:=rfl;have L:=C.1;rw[K]at L;have V:=A.1;obtain⟨M,N,_⟩:=A.eqs;obtain⟨f1,f2,_⟩:=C.eqs;have z:s'.toks=y.toks/\s'.told=y.told/\s'.big=y.big:=by
      rw[<-J];split<;>exact⟨rfl,rfl,rfl⟩
     refine⟨by rw[z.1];omega,λO=>?_⟩;have P:jX B:=λE=>by
      rw[f2]at E;rw[f1];have Q:f.big=false:=(U5.1 E).1;show 0<=f.told/\f.told<=16384;rw[F,M];exact O (by rw[<-N,<-t3];exact Q)
     have R:=NT j P;intro S;rw[z.2.1];exact R (by rw[<-z.2.2];exact S)
theorem bK.shrink{g:Nat}{H:af}{so:Option aD}(h:bK w g B H N so):∃a,bK w g B a N so/\(∀r,a r->H r)/\∀r,a r->∃c,ad w r a1 c:=by
 obtain⟨s,w0,x,y,gs,sv,L,z,A,C,bad,E,big,F,told,h1,f,j,G,p,I,J⟩:=h;refine⟨λr=>leadsTo sv r,⟨s,w0,x,y,gs,sv,L,z,A,C,bad,E,big,F,told,h1,f,j,G,p,λr e=>e,J⟩,I,λr e=>?_⟩;obtain⟨rfl,c,q⟩:=ef p.2.1 e;refine⟨c,q.V f λhe=>?_⟩;obtain⟨M,K⟩:=j;subst he;exact absurd (ep q K) Φ
theorem bK.low{g:Nat}{H:af}{s:aD}(h:bK w g B H N (σ s)):bK w g B H 100000 (σ s):=by
 obtain⟨F,w0,a,e,gs,sv,L,f,j,p,bad,q,big,r,told,h1,x,y,z,A,C,E⟩:=h;exact⟨p8 _,w0,a,e,gs,sv,L,f,j,p,bad,q,big,r,told,h1,x,y,z,A,C,E⟩
theorem bK.up{g M:Nat}{H:af}{so:Option aD}(h:bK w g B H N so)(F:N<=M):bK w g B H M so:=by
 obtain⟨G,w0,e,f,gs,sv,L,j,p,q,bad,r,big,x,told,h1,y,z,A,C,E,a⟩:=h;refine⟨Ω,w0,e,f,gs,sv,L,j,p,q,bad,r,big,x,told,h1,y,z,A,C,E,?_⟩;cases so with
 |none=>exact⟨a.1,by have:=a.2;omega⟩
 |some s=>exact a
def lh{α:Type}(f:List α->aD->Option (α×aD))(cnt i:Nat)(a:Option aD)(A:List α)(so:Option aD):Prop:=a.bind (cK f cnt [])=(match so with
 |none=>ν
 |some s=>cK f (cnt-i) A s)
theorem lh.step{α:Type}{f:List α->aD->Option (α×aD)}{cnt i:Nat}{j:Option aD}{A:List α}{s:aD}{a:α}{p:Option aD}(h:lh f cnt i j A (σ s))(hi:i<cnt)(h1:p=(f A s).map (·.2))(r:∀q,f A s=σ q->a=q.1):lh f cnt (i+1) j (A++[a]) p:=by
 unfold lh at*;rw[h,show cnt-i=(cnt-(i+1))+1 by omega];simp only;cases e:f A s with
 |none=>rw[o1 e,h1,e];rfl
 |some q=>
  obtain⟨a',s'⟩:=q;have:=r _ e;subst this;rw[sx e,h1,e];rfl
theorem NV{s0:aD}{t acc:Λ}{n most p k:Int}{F:List cm}{x y z A G so6 e:Option aD}(h1:x=((dQ s0).map (·.2)).map (a8 (decide (64<t.length))))(P:∀q,dQ s0=σ q->t=q.1)(r:y=((a7 1 av x).map (·.2)).map (a8 (decide (64<n))))(M:∀q,a7 1 av x=σ q->n=q.1)(h:z=(a7 1 av y).map (·.2))(hm:∀q,a7 1 av y=σ q->most=q.1)(f:A=((a7 0 av z).map (·.2)).map (a8 (decide (256<p))))(N:∀q,a7 0 av z=σ q->p=q.1)(a:G=((a7 1 av A).map (·.2)).map (a8 (decide (2147483648<k))))(hk:∀q,a7 1 av A=σ q->k=q.1)(w:G.bind (cK (fQ most) n.toNat [])=so6.map λs=>(acc,s))(j:so6.bind (cK (λ_ s=>c6 acc s) p.toNat [])=e.map λs=>(F,s)):hW s0=e.map λs=>(⟨t,k,acc,F⟩,s):=by
 unfold hW;cases H:dQ s0 with
 |none=>
  rw[H]at h1;subst h1;subst r;subst h;subst f;subst a;have:so6=ν:=by cases so6 with|none=>rfl|some s=>cases w
  subst this;cases e with|none=>rfl|some s=>cases j
 |some Q=>
 obtain⟨bi,s1⟩:=Q;have:=P _ H;subst this;rw[H]at h1;have h1:x=σ (a8 (decide (64<t.length)) s1):=h1;subst h1;simp only;have R:a7 1 av (σ (a8 (decide (64<t.length)) s1))=bc 1 av (a8 (decide (64<t.length)) s1):=rfl;rw[R]at r M;cases I:bc 1 av (a8 (decide (64<t.length)) s1)with
 |none=>
  rw[I]at r;subst r;subst h;subst f;subst a;have:so6=ν:=by cases so6 with|none=>rfl|some s=>cases w
  subst this;cases e with|none=>rfl|some s=>cases j
 |some S=>
 obtain⟨aa,B⟩:=S;have:=M _ I;subst this;rw[I]at r;have r:y=σ (a8 (decide (64<n)) B):=r;subst r;simp only;have T:a7 1 av (σ (a8 (decide (64<n)) B))=bc 1 av (a8 (decide (64<n)) B):=rfl;rw[T]at h hm;cases J:bc 1 av (a8 (decide (64<n)) B)with
 |none=>
  rw[J]at h;subst h;subst f;subst a;have:so6=ν:=by cases so6 with|none=>rfl|some s=>cases w
  subst this;cases e with|none=>rfl|some s=>cases j
 |some U=>
 obtain⟨bU,C⟩:=U;have:=hm _ J;subst this;rw[J]at h;have h:z=σ C:=h;subst h;simp only;have V:a7 0 av (σ C)=bc 0 av C:=rfl;rw[V]at f N;cases K:bc 0 av C with
 |none=>
  rw[K]at f;subst f;subst a;have:so6=ν:=by cases so6 with|none=>rfl|some s=>cases w
  subst this;cases e with|none=>rfl|some s=>cases j
 |some W=>
 obtain⟨ab,E⟩:=W;have:=N _ K;subst this;rw[K]at f;have f:A=σ (a8 (decide (256<p)) E):=f;subst f;simp only;have X:a7 1 av (σ (a8 (decide (256<p)) E))=bc 1 av (a8 (decide (256<p)) E):=rfl;rw[X]at a hk;cases L:bc 1 av (a8 (decide (256<p)) E)with
 |none=>
  rw[L]at a;subst a;have:so6=ν:=by cases so6 with|none=>rfl|some s=>cases w
  subst this;cases e with|none=>rfl|some s=>cases j
 |some Y=>
 obtain⟨ac,O⟩:=Y;have:=hk _ L;subst this;rw[L]at a;have a:G=σ (a8 (decide (2147483648<k)) O):=a;subst a;simp only;have w:cK (fQ most) n.toNat [] (a8 (decide (2147483648<k)) O)=so6.map λs=>(acc,s):=w;rw[w];cases so6 with
 |none=>cases e with|none=>rfl|some s=>cases j
 |some Z=>
  simp only[Z7];have j:cK (λ_ s=>c6 acc s) p.toNat [] Z=e.map λs=>(F,s):=j;rw[j];cases e<;>rfl
def pp(w:x3)(gr:Nat)(e:x1)(a:List cm):Prop:=∃L,ba eY 4 a1 w gr e L/\a.length=L.length/\∀(i:Nat)h x,L[i]?=σ h->a[i]?=σ x->gO w h x
def n4(w:x3)(e:Nat)(f:b2):Prop:=∃szv gz a gr,ad w e dC [bR f.name,Δ f.k,szv,a]/\aq .i64 al w gz szv f.sizes/\pp w gr a f.funs
theorem pp.ext{gr:Nat}{a:x1}{e:List cm}(h:pp w gr a e)(f:Ext w w'):pp w' gr a e:=by
 obtain⟨L,h1,j,p⟩:=h;exact⟨L,h1.ext f,j,λi ao x hi q=>(p i ao x hi q).ext f⟩
theorem n4.ext{e:Nat}{f:b2}(h:n4 w e f)(a:Ext w w'):n4 w' e f:=by
 obtain⟨szv,gz,j,gr,h1,p,q⟩:=h;exact⟨szv,gz,j,gr,h1.ext a,p.ext a,q.ext a⟩
def NW(w:x3)(pl:Λ)(v:x1)(w':x3):Prop:=Ext w w'/\∃n e:Int,(gp pl=ν->v= .tuple #[.pointer ν,Δ n,Δ e])/\∀f,gp pl=σ f->∃a,v= .tuple #[Γ a,Δ n,Δ e]/\n4 w' a f
theorem NX{w0:x3}{g A:Nat}{so6:Option aD}{t acc:Λ}{k R bad:Int}{szv p:x1}{Q:x1->x3->Prop}(da:ae (λr=>w0.heap.size<=r) w0 w)(b1:ad w A dC [bR t,Δ k,szv,.slice ν 0 0])(db:aq .i64 al w gz szv acc)(h:bK w g B bx 100000 so6)(dc:∀s,so6=σ s->jX s/\s.toks.length<=100000/\(∀z∈acc,1<=z/\z<=av)/\acc.length<=100001)(fa:w0.heap.size<=g)(fb:w0.heap.size<=A)(de:aH .u8 w0 p pl)(fc:0<=R/\R<=4611686018427387904)(bj:∀v w' M bl,Ext w0 w'->so6.bind (cK (λ_ s=>c6 acc s) R.toNat [])=bl.map (λs=>(M,s))->
   (∀s,bl=σ s->s.toks=[]/\¬0<=bad/\s.big=false->v= .tuple #[Γ A,Δ (pl.length:Int),Δ 0]/\n4 w' A ⟨t,k,acc,M⟩)->
   ((∀s,bl=σ s->¬(s.toks=[]/\¬0<=bad/\s.big=false))->∃n e:Int,v= .tuple #[.pointer ν,Δ n,Δ e])->Q v w'):
  bZ (Δ 0) w λb2 E df=>
   ck (α:=x1->x3->Prop) (λ(dg:x1)(N:x3)=>
    Split dg (ev N λJ=>
   aa x7 (bN (Γ A)) J λaI=>
   aa x7 (u5 dC aI 3) J λaK=>
   aa x7 (u4 dy aK) J λbm=>
   aa x7 (bN (Γ A)) J λdh=>
   aa x7 (u5 dC dh 2) J λdi=>
   aa x7 (u4 au di) J λdj=>
   ai x7 yX [(Γ g),dj] J λdk ak=>
    (Ext J ak\/cu x7 (u4 dy aK) bm ak/\cu x7 (u5 dC aI 3) aK ak/\cu x7 (bN (Γ A)) aI ak/\True)/\
   aC x7 (Y7 dy 1 #[(0,dk)]) ak λdl S=>
    (Ext J S\/cu x7 (u4 dy aK) bm S/\cu x7 (u5 dC aI 3) aK S/\cu x7 (bN (Γ A)) aI S/\True)/\
    aC x7 (Z3 #[dy,dy] dy #[bm,dl]) S λdm aZ=>
     aa x7 (bN (Γ A)) aZ λdn=>
     aa x7 (u5 dC dn 3) aZ λdq=>
     aC x7 (o6 dy dq dm) aZ λ(_:Unit)aL=>
     aa x7 (aJ .add al false true b2 (Δ 1)) aL λdr=>
   df dr aL)
     (ck (α:=x3->Prop) (λ(P:x3)=>
   ck (α:=x3->Prop) (λ(G:x3)=>
    aa x7 (bN (Γ g)) G λds=>
    aa x7 (u5 bw ds 3) G λdt=>
    aa x7 (u4 ah dt) G λdu=>
    aa x7 (aJ .neq ah false true du (Δ 0)) G λdv=>
    Split dv (ev G λZ=>
     aa x7 (bN (Γ g)) Z λdw=>
     aa x7 (u5 bw dw 4) Z λdx=>
     aa x7 (u4 ah dx) Z λdz=>
     aa x7 (bN (Γ g)) Z λdA=>
     aa x7 (u5 bw dA 3) Z λdD=>
     aa x7 (u4 ah dD) Z λdE=>
     Q (.tuple #[(.pointer ν),dz,dE]) Z)
     (aa x7 (bN (Γ g)) G λdF=>
    aa x7 (u5 bw dF 5) G λdG=>
    aa x7 (u4 ah dG) G λdH=>
    aa x7 (aJ .neq ah false true dH (Δ 0)) G λdI=>
    Split dI (ev G λab=>
     aa x7 (bN (Γ g)) ab λdJ=>
     aa x7 (u5 bw dJ 6) ab λdK=>
     aa x7 (u4 ah dK) ab λdM=>
     aa x7 (bN (Γ g)) ab λdN=>
     aa x7 (u5 bw dN 5) ab λdO=>
     aa x7 (u4 ah dO) ab λdP=>
     Q (.tuple #[(.pointer ν),dM,dP]) ab)
     (aa x7 (V2 #[cH] ah #[p]) G λdQ=>
    Q (.tuple #[(Γ A),dQ,(Δ 0)]) G))) λb3=>
   ck (α:=x1->x3->Prop) (λ(dR:x1)(a2:x3)=>
    Split dR (ai x7 nq [(Γ g),(Δ 11),(Δ bad)] a2 λfd b4=>
     b3 b4)
     (b3 a2)) λb6=>
   aa x7 (bN (Γ g)) P λdS=>
   aa x7 (u5 bw dS 3) P λdT=>
   aa x7 (u4 ah dT) P λdU=>
   aa x7 (aJ .eql ah false true dU (Δ 0)) P λdV=>
   Split dV (aa x7 (aJ .geq ah false true (Δ bad) (Δ 0)) P λdW=>
   b6 dW P)
    (b6 (.bool false) P)) λb7=>
  ck (α:=x1->x3->Prop) (λ(dX:x1)(U:x3)=>
   Split dX (aa x7 (bN (Γ g)) U λdY=>
    aa x7 (u5 bw dY 0) U λdZ=>
    aa x7 (u4 fk dZ) U λea=>
    aa x7 (j5 fk ea (Δ 0)) U λeb=>
    aa x7 (u5 ch eb 1) U λec=>
    aa x7 (u4 ah ec) U λed=>
    ai x7 nq [(Γ g),(Δ 4),ed] U λfe bn=>
    b7 bn)
    (b7 U)) λb8=>
  aa x7 (bN (Γ g)) N λee=>
  aa x7 (u5 bw ee 3) N λeg=>
  aa x7 (u4 ah eg) N λeh=>
  aa x7 (aJ .eql ah false true eh (Δ 0)) N λei=>
  Split ei (aa x7 (bN (Γ g)) N λej=>
  aa x7 (u5 bw ej 0) N λek=>
  aa x7 (u4 fk ek) N λem=>
  aa x7 (V2 #[fk] ah #[em]) N λen=>
  aa x7 (aJ .gtr ah false true en (Δ 0)) N λeo=>
  b8 eo N)
   (b8 (.bool false) N))) λb9=>
   aa x7 (aJ .lss al false false b2 (Δ R)) E λer=>
   Split er (aa x7 (bN (Γ g)) E λes=>
   aa x7 (u5 bw es 3) E λet=>
   aa x7 (u4 ah et) E λeu=>
   aa x7 (aJ .eql ah false true eu (Δ 0)) E λew=>
   b9 ew E)
    (b9 (.bool false) E):=by
 have ca:A≠g:=λhe=>by
  obtain⟨am,ac,ag,bad,an,big,ap,told,sv,C,_⟩:=h4 h;subst he;exact absurd (ep C b1) Φ
 refine⟨λbo E=>∃i:Nat,bo=Δ (i:Int)/\i<=R.toNat/\ae (λr=>w0.heap.size<=r) w0 E/\∃O gr M so,∃H:af,ad E A dC [bR t,Δ k,szv,O]/\aq .i64 al E gz szv acc/\pp E gr O M/\(∀r,leadsTo O r->w0.heap.size<=r/\¬H r)/\¬H A/\(∀r,leads szv r->¬H r)/\(∀r,H r->w0.heap.size<=r)/\bK E g E.heap.size H 100001 so/\lh (λ_ s=>c6 acc s) R.toNat i so6 M so/\
   ∀s,so=σ s->jX s/\M.length+s.toks.length<=100000/\(∀z∈acc,1<=z/\z<=av)/\acc.length<=100001,λbo _=>R.toNat-(bS bo).toNat,
  ⟨0,rfl,X4 _,da,_,0,[],so6,bx,b1,db,⟨[],ba.nil _ _ _ _ _,rfl,λi h x hi=>by simp at hi⟩,λr y=>(fq y).elim,id,λr _ h=>h,λr h=>h.elim,h.base.up Ω,?_,λs I=>?_⟩,?_⟩
 .unfold lh;cases so6<;>rfl
 .obtain⟨ey,ez,a3,a4⟩:=dc s I;exact⟨ey,by simpa using ez,a3,a4⟩
 rintro _ E ⟨i,rfl,hi,a6,O,gr,M,so,H,cb,cc,cd,aM,bp,eA,ce,Y,bq,eB⟩;refine aT (λv N=>E=N/\((v= .bool true/\i<R.toNat/\∃s,so=σ s)\/(v= .bool false/\(so=ν\/i=R.toNat)))) ?_ ?_
 rotate_left
 .intro ax br;rw[aQ,aj];refine⟨λcg=>?_,λff=>br _ _ ⟨rfl,.inr ⟨rfl,.inr Ω⟩⟩⟩;rw[lg Y];cases so with
  |none=>exact br _ _ ⟨rfl,.inr ⟨rfl,.inl rfl⟩⟩
  |some s=>exact br _ _ ⟨rfl,.inl ⟨rfl,Ω,s,rfl⟩⟩
 rintro _ _ ⟨rfl,⟨rfl,cg,s,rfl⟩|⟨rfl,eC⟩⟩
 .
  rw[bL];intro J aw _ _;obtain⟨ci,fg,cj,cl⟩:=eB s rfl;have aN:=cb.ext aw;obtain⟨eD,cm,aO,cn⟩:=(Y.ext aw).low.shrink;have bt:=cc.ext aw;have eE:=cd.ext aw;rw[aG dC.p 3 aN rfl,aG dC.p 2 aN rfl];refine(NS cm bt cj cl (λr y=>by obtain⟨c,C⟩:=cn r y;exact C.lt) ci).mono ?_;rintro _ ak _ ⟨bu,x,cp,ay,rfl,cq,eF,eH,fh,cr,eI⟩;have ct:∃c,ad J g bw c:=by obtain⟨am,ac,ag,bad,an,big,ap,told,sv,C,_⟩:=h4 cm;exact⟨_,C⟩
  have cw:∀r,(r=g\/eD r)->hh J r\/J.heap.size<=r:=λr y=>by
   rcases y with rfl|y
   .obtain⟨c,C⟩:=ct;exact .inl ⟨_,c,C,Φ,Φ⟩
   .obtain⟨c,C⟩:=cn r y;exact .inl ⟨_,c,C,Φ,Φ⟩
  have bz:=aN.V ay λy=>y.elim (λhe=>ca he) λy=>bp (aO _ y);have st:∀{w':x3},ad w' A dC [bR t,Δ k,szv,O]->cu x7 (u4 dy (.pointer (σ ⟨A,0+3,ν⟩))) O w'/\cu x7 (u5 dC (Γ A) 3) (.pointer (σ ⟨A,0+3,ν⟩)) w'/\cu x7 (bN (Γ A)) (Γ A) w'/\True:=λC=>
   ⟨jo Ψ (C.cell (o:=0+3) rfl),hG (by rw[aR dC.p rfl]),hG (by rw[bJ]),trivial⟩
  refine⟨.inr (st bz),?_⟩;refine h2 (f:=eY) (a:=bu) dy.u a1.i Ω rfl rfl λfi fj S fm W eJ=>?_;refine⟨.inr (st (bz.ext W)),?_⟩;obtain⟨L,az,bA,bB⟩:=id eE;have eK:ba eY 4 a1 ak gr O L:=az.V ay λr y I=>I.elim (λhe=>by
   obtain⟨c,C⟩:=ct;subst he;exact cC az C Φ y) λI=>(aM r y).2 (aO r I)
  have bC:=eK.ext W;refine ik (f:=eY) (a:=bu) dy.u a1.i rfl bC (by simpa using eJ.sl) (cq.ext W).one Ω Ω λcz eL aZ a7 eM cA=>?_;have bD:=bz.ext W;have cB:=bD.V cA λhe=>cC bC bD Φ he;rw[bJ,aR dC.p rfl];refine bk (g:=A) (o:=3) dy.i (dp a7.sl).1 (dp a7.sl).2 cB Ξ λaL cD fo bE=>?_;have bE:ad aL A dC [bR t,Δ k,szv,cz]:=bE;have fp:i<=4611686018427387904:=Ω
  rw[aP,wrap_i64 Ω Ω];have aA:ae (λr=>leadsTo O r\/r=A) S aL:=(cA.mono λr _ h=>.inl h).trans (cD.mono λr _ h=>.inr h);have cE:∀r,(leadsTo O r\/r=A)->∃e c,ad S r e c/\e≠al/\e≠b5/\e≠ch/\e≠bw:=λr y=>by
   rcases y with y|rfl
   .obtain⟨rfl,c,C⟩:=ef bC y;exact⟨_,c,C,Φ,Φ,Φ,Φ⟩
   .exact⟨_,_,bD,Φ,Φ,Φ,Φ⟩
  have bF:∀r,(leadsTo O r\/r=A)->hh S r\/S.heap.size<=r:=λr y=>by
   obtain⟨e,c,C,bG,bH,_⟩:=cE r y;exact .inl ⟨e,c,C,bG,bH⟩
  have fs:=aw.size;have ft:=ay.size;have fu:=W.size;have fv:=aA.size;have cF:∀r,leadsTo O r->r<J.heap.size:=λr y=>by obtain⟨ac,ag⟩:=az.leads y;omega
  have aS:∀r,r<J.heap.size->¬H r->¬cp r:=λr y eN bM=>(cr r bM).elim (λh=>eN (aO r h)) λh=>Ω
  have eO:∀r,leads szv r->r<J.heap.size:=λr y=>by obtain⟨ac,ag⟩:=bO bt y;omega
  refine⟨⟨i+1,rfl,Ω,?_,cz,eL,M++[x],_,cp,bE,eG ((eG bt ay cw).ext W) aA bF,⟨L++[bu],a7.V cD λr y he=>?_,by rw[r8,r8,bA];rfl,λj cG eP aE aV=>?_⟩,λr y=>?_,aS A aN.lt bp,λr y=>aS r (eO r y) (eA r y),λr y=>?_,?_,bq.step cg rfl λq K=>eH q K,λs' X=>?_⟩,by simp only[bS];omega⟩
  .refine (((a6.trans (aw.V _)).trans (ay.mono λr _ h=>?_)).trans (W.V _)).trans (aA.mono λr _ h=>?_)
   .exact h.elim (λh=>Ω) λh=>ce r (aO r h)
   .exact h.elim (λh=>(aM r h).1) λh=>Ω
  .have he:r=A:=he;subst he;exact cC a7 cB Φ y
  .by_cases eQ:j<L.length
   .rw[Y1 eQ]at aE;rw[Y1 Ω]at aV;exact(((bB j cG eP aE aV).dL ay cw).ext W).dL aA bF
   .rw[Y2 Ω]at aE;rw[Y2 Ω]at aV;have eR:j-L.length=0:=by have:=(x4.1 aE).1;simp at this;omega
    have eS:j-M.length=0:=Ω
    rw[eR]at aE;rw[eS]at aV;cases aE;cases aV;exact(cq.ext W).dL aA bF
  .rcases eM r y with h|h
   .exact⟨(aM r h).1,aS r (cF r h) (aM r h).2⟩
   .exact⟨by have:=a6.size;omega,λbM=>by have:=eI r bM;omega⟩
  .rcases cr r y with h|h
   .exact ce r (aO r h)
   .have:=a6.size;omega
  .refine (eF.ext W).dL aA λr y=>.inl ?_;obtain⟨e,c,C,bG,bH,eU,eV⟩:=cE r y;refine⟨e,c,C,bG,bH,eU,eV,?_⟩;rcases y with y|rfl
   .exact aS r (cF r y) (aM r y).2
   .exact aS _ aN.lt bp
  .cases bQ:c6 acc s with
   |none=>rw[bQ]at X;cases X
   |some q=>
    obtain⟨fw,cJ⟩:=q;rw[bQ]at X;cases X;obtain⟨fx,eW⟩:=NU bQ;refine⟨eW ci,?_,cj,cl⟩;rw[r8];simp only[U9];omega
 .
  rw[aU];have bT:so6.bind (cK (λ_ s=>c6 acc s) R.toNat [])=so.map λs=>(M,s):=by
   unfold lh at bq;rw[bq];cases so with
   |none=>rfl
   |some s=>
    rcases eC with h|rfl
    .cases h
    .simp only[U2];rfl
  have row:∀{w':x3},ae (λr=>r=g) E w'->pp w' gr O M/\ad w' A dC [bR t,Δ k,szv,O]/\aq .i64 al w' gz szv acc:=λa8=>by
   obtain⟨am,ac,ag,bad,an,big,ap,told,sv,C,_⟩:=h4 Y;have cL:∀r,r=g->hh E r\/E.heap.size<=r:=λr y=>by subst y;exact .inl ⟨_,_,C,Φ,Φ⟩
   obtain⟨L,az,bA,bB⟩:=id cd;refine⟨⟨L,az.V a8 λr y he=>?_,bA,λi h x hi eX=>(bB i h x hi eX).dL a8 cL⟩,cb.V a8 λhe=>ca he,eG cc a8 cL⟩;have he:r=g:=he;subst he;exact cC az C Φ y
  refine dd (λP=>ae (λr=>r=g) E P/\bK P g E.heap.size H 100001 (so.bind λs=>if s.toks=[]then σ s else ν)) ?_ ?_
  rotate_left
  .intro fy cM;refine aT (λv U=>E=U/\∃b:Bool,v= .bool b/\(b=true->∃s,so=σ s/\s.toks≠[])/\(b=false->∀s,so=σ s->s.toks=[])) ?_ ?_
   .rintro _ _ ⟨rfl,b,rfl,bU,bV⟩;cases b with
    |true=>
     obtain⟨s,rfl,bb⟩:=bU rfl;rw[bL];obtain⟨cN,cO,am,aX,gs,sv,L,cP,ac,ag,bW,an,big,ap,told,cQ,bc,bd,aF,be,cR,cS,cT,bf,cU,cV,bg,cW,cX,cY⟩:=id Y;obtain⟨⟨bX,eZ⟩,_⟩:=be.g bc bd;obtain⟨x,fz,rfl⟩:∃x l,aX=x::l:=by
      cases aX with
      |nil=>exact absurd bg.symm (by simpa using bb)
      |cons x l=>exact⟨x,l,rfl⟩
     rw[aG bw.p 0 aF rfl];refine C0 bX λb o e0=>?_;rw[aR ch.p rfl,aB Ψ (e0 1 _ rfl)];refine(n3 Y Ω).mono ?_;rintro _ bn _ ⟨e1,e2⟩;refine cM _ ⟨e1,?_⟩;show bK bn g _ H 100001 (if s.toks=[]then σ s else ν);rw[if_neg bb];exact e2
    |false=>
     rw[aU];refine cM _ ⟨ae.refl _ _,?_⟩;cases so with
     |none=>exact Y
     |some s=>
      show bK _ g _ H 100001 (if s.toks=[]then σ s else ν);rw[if_pos (bV rfl s rfl)];exact Y
   .intro fA cZ;rw[lg Y];cases so with
    |none=>
     rw[R4,aU];exact cZ _ _ ⟨rfl,false,rfl,(λh=>by cases h),λ_ s I=>by cases I⟩
    |some s=>
     rw[R2,bL];obtain⟨cN,cO,am,aX,gs,sv,L,cP,ac,ag,bW,an,big,ap,told,cQ,bc,bd,aF,be,cR,cS,cT,bf,cU,cV,bg,cW,cX,cY⟩:=id Y;obtain⟨⟨bX,eZ⟩,_⟩:=be.g bc bd;rw[aG bw.p 0 aF rfl,CZ bX,bP];have fB:aX.length=s.toks.length:=by rw[<-bg,u9]
     refine cZ _ _ ⟨rfl,_,rfl,λh=>⟨s,rfl,λaY=>?_⟩,λh s' X=>?_⟩
     .have:=of_decide_eq_true h;have cG:s.toks.length=0:=by rw[aY];rfl
      omega
     .cases X;have:=of_decide_eq_false h;exact j4 Ω
  rintro P ⟨c0,bY⟩;refine dd (λG=>ae (λr=>r=g) E G/\bK G g E.heap.size H 100001 (so.bind λs=>if s.toks=[]/\¬0<=bad then σ s else ν)) ?_ ?_
  rotate_left
  .intro fD c1;refine aT (λv a2=>P=a2/\∃b:Bool,v= .bool b/\(b=true->(so.bind λs=>if s.toks=[]/\¬0<=bad then σ s else ν)=ν)/\(b=false->(so.bind λs=>if s.toks=[]/\¬0<=bad then σ s else ν)=so.bind λs=>if s.toks=[]then σ s else ν)) ?_ ?_
   .rintro _ _ ⟨rfl,b,rfl,bU,bV⟩;cases b with
    |true=>
     rw[bL];refine(n3 bY Ω).mono ?_;rintro _ b4 _ ⟨e3,e4⟩;exact c1 _ ⟨c0.trans e3,by rw[bU rfl];exact e4⟩
    |false=>
     rw[aU];exact c1 _ ⟨c0,by rw[bV rfl];exact bY⟩
   .intro fE c2;rw[lg bY];cases K:(so.bind λs=>if s.toks=[]then σ s else ν)with
    |none=>
     rw[R4,aU];refine c2 _ _ ⟨rfl,false,rfl,(λh=>by cases h),λ_=>?_⟩;cases so with
     |none=>rfl
     |some s=>
      have K:(if s.toks=[]then σ s else ν)=ν:=K;show(if s.toks=[]/\¬0<=bad then σ s else ν)=(if s.toks=[]then σ s else ν);rw[K];split at K
      .cases K
      .rename_i bb;rw[if_neg (λh=>bb h.1)]
    |some s=>
     rw[R2,bL,cI];refine c2 _ _ ⟨rfl,_,rfl,λh=>?_,λh=>?_⟩
     .have aY:=of_decide_eq_true h;cases so with
      |none=>rfl
      |some s=>exact if_neg λh=>h.2 aY
     .have aY:=of_decide_eq_false h;cases so with
      |none=>rfl
      |some s=>
       show(if s.toks=[]/\¬0<=bad then σ s else ν)=(if s.toks=[]then σ s else ν);by_cases I:s.toks=[]
       .rw[if_pos I,if_pos ⟨I,aY⟩]
       .rw[if_neg I,if_neg λh=>I h.1]
  rintro G ⟨c3,bh⟩;obtain⟨e5,e6,e7⟩:=row c3;have e8:ae (λr=>w0.heap.size<=r) w0 G:=a6.trans (c3.mono λr _ h=>by have h:r=g:=h;omega);have bi:Ext w0 G:=e8.ext λr y he=>Ω
  rw[qP bh];cases K:(so.bind λs=>if s.toks=[]/\¬0<=bad then σ s else ν)with
  |none=>
   rw[R4,W5,bL];intro Z c4 _ _;obtain⟨am,ac,ag,bW,an,big,ap,told,sv,C,_⟩:=h4 (bh.ext c4);rw[aG bw.p 4 C rfl,aG bw.p 3 C rfl];refine bj _ _ M so (bi.trans c4) bT (λs I ao=>?_) λ_=>⟨_,_,rfl⟩;subst I;have K:(if s.toks=[]/\¬0<=bad then σ s else ν)=ν:=K;rw[if_pos ⟨ao.1,ao.2.1⟩]at K;cases K
  |some s=>
   rw[K]at bh;rw[R2,Y6,aU];obtain⟨s',rfl,X⟩:∃s',so=σ s'/\(if s'.toks=[]/\¬0<=bad then σ s' else ν)=σ s:=by
    cases so with
    |none=>cases K
    |some s'=>exact⟨s',rfl,K⟩
   split at X
   .rename_i c5;cases X;obtain⟨cN,cO,am,aX,gs,sv,L,cP,ac,ag,bW,an,big,ap,told,cQ,bc,bd,aF,be,cR,cS,cT,bf,cU,cV,bg,cW,cX,cY⟩:=id bh;rw[aG bw.p 5 aF rfl,bI,aj];refine⟨λb0=>?_,λb0=>?_⟩
    .intro ab c7 _ _;have c8:=aF.ext c7;rw[aG bw.p 6 c8 rfl,aG bw.p 5 c8 rfl];refine bj _ _ M _ (bi.trans c7) bT (λcJ c9 ao=>?_) λ_=>⟨_,_,rfl⟩;cases c9;rw[bf.1 b0]at ao;cases ao.2.2
    .rw[aW cH.u (de.ext bi)];refine bj _ _ M _ bi bT (λcJ c9 ao=>⟨rfl,szv,gz,O,gr,e6,e7,e5⟩) λe9=>?_;refine absurd ⟨c5.1,c5.2,?_⟩ (e9 s rfl);cases C:s.big with
     |false=>rfl
     |true=>exact absurd (bf.2 C) b0
   .cases X
def Zero(so:Option aD):Prop:=∀s,so=σ s->s.told=0/\s.toks.length<=100000
theorem Zero.big{so:Option aD}(h:Zero so)(b:Bool):Zero (so.map (a8 b)):=λs I=>by
 cases so with
 |none=>cases I
 |some s0=>cases I;exact h s0 rfl
theorem zero_num{lo hi:Int}{so:Option aD}(h:Zero so):Zero ((a7 lo hi so).map (·.2)):=λs I=>by
 cases so with
 |none=>cases I
 |some s0=>
  have I:U3 (λx=>x.2) (bc lo hi s0)=σ s:=I;cases a:bc lo hi s0 with
  |none=>rw[a]at I;cases I
  |some q=>
   obtain⟨n,s1⟩:=q;rw[a]at I;cases I;have e:=dF a;have:=e.1;obtain⟨h1,f⟩:=h s0 rfl;exact⟨e.eqs.1.trans h1,by show s1.toks.length<=100000;omega⟩
theorem NY{so:Option aD}(h:Zero so):Zero ((ju so).map (·.2)):=λs I=>by
 cases so with
 |none=>cases I
 |some s0=>
  have I:U3 (λx=>x.2) (dQ s0)=σ s:=I;cases a:dQ s0 with
  |none=>rw[a]at I;cases I
  |some q=>
   obtain⟨n,s1⟩:=q;rw[a]at I;cases I;obtain⟨J,U⟩:=sk a;obtain⟨h1,e⟩:=h s0 rfl;have:s0.toks.length=s1.toks.length+1:=by rw[J];rfl
   exact⟨by show s1.told=0;rw[U];exact h1,by show s1.toks.length<=100000;omega⟩
theorem NZ{so:Option aD}{f:b2}(h:hW ⟨(lex pl).1,0,false,[]⟩=so.map λs=>(f,s))(a:¬65536<pl.length):gp pl=so.bind λs=>if s.toks=[]/\(lex pl).2=true/\s.big=false then σ f else ν:=by
 unfold gp;rw[if_neg a,h];cases so<;>rfl
theorem N0(a:pl.length<=60000):(∀t∈(lex pl).1,Bytes t/\t.length<=65536)/\(lex pl).1.length<=60000:=by
 refine⟨λt e=>?_,Y5 (pX pl.length pl (p8 _)) a⟩;obtain⟨_,f,j⟩:=r5 pl.length pl (p8 _) t e;refine⟨λb h=>?_,Ω⟩;have:=of_decide_eq_true (f b h);omega
theorem Da{p:x1}(an:aH .u8 w p pl)(cz:Bytes pl)(cA:pl.length<=60000):ai x7 Ge [p] w (NW w pl):=by
 obtain⟨cB,dP⟩:=N0 cA;refine az func60 ?_;rw[aW cH.u an,bP,aj];refine⟨λh=>Ω,λ_=>?_⟩;refine(NK an cz Ω).mono ?_;rintro _ J _ ⟨aI,ap,bh,bad,rfl,bi,bl,cC,dQ,bm⟩;rw[br,bt,aW cH.u (an.ext aI),dh (cs:=#[ap,Δ (pl.length:Int),Δ 4,Δ 0,Δ 0,Δ 0,Δ 0,Δ 0,.slice ν 0 0]) (by obtain⟨_,_,_,_,_,rfl,_⟩:=bi;kernel_rfl)];refine bj λg U dR aw X=>?_;have X:ad U g bw (gB ap (pl.length:Int) 4 0 0 0 0 0 (.slice ν 0 0)):=X;have dS:=aI.size;have dT:=aw.size;have dU:=X.lt;refine dd (λC=>Ext w C/\ae (λr=>r=g) U C/\∃Y Z:Int,Z≠0/\ad C g bw (gB ap Y Z 0 0 0 0 0 (.slice ν 0 0))) ?_ ?_
 rotate_left
 .intro ax S;have bn:=aI.trans aw;rw[cI,aj];refine⟨λ_=>?_,λ_=>S _ ⟨bn,ae.refl _ _,_,_,Ω,X⟩⟩;rw[bJ,aR bw.p rfl];refine bk (g:=g) (o:=1) ah.i rfl rfl X (by simp[gB]) λdV cD dW cE=>?_;rw[bJ,aR bw.p rfl];refine bk (g:=g) (o:=2) ah.i rfl rfl cE (by simp[gB]) λdX cF dY cG=>?_;have E:=cD.trans cF;exact S _ ⟨bn.then E λr j he=>by have he:r=g:=he;omega,E,bad,11,Ω,cG⟩
 rintro C ⟨bp,aJ,Y,Z,cJ,bq⟩;have z3:=aJ.size;have cL:bK C g C.heap.size bx 100000 (σ ⟨(lex pl).1,0,false,[]⟩):=by
  refine⟨p8 _,C,ap,bh,0,_,[],[],Y,Z,0,0,0,0,0,rfl,ae.refl _ _,⟨_,bq⟩,bq,⟨⟨?_,λr j=>?_⟩,ba.nil _ _ _ _ _,rfl,λi h x hi=>by simp at hi⟩,λr j=>fq j,rfl,cJ,Ξ,λ_=>rfl,trivial,bl,cB,rfl,?_⟩
  .refine (bi.V (aw.V λ_=>False) λ_ _ h=>h).V aJ λr j he=>?_;have he:r=g:=he;obtain⟨c,O⟩:=bm r j;have:=O.lt;omega
  .obtain⟨c,O⟩:=bm r j;exact⟨c,(O.ext aw).V aJ λhe=>by have he:r=g:=he;have:=O.lt;omega⟩
  .have:bh.length=(lex pl).1.length:=by rw[<-bl,u9]
   simp only[List.length_nil];omega
 have dZ:∀{R:x3}{cM N:Nat}{H:af}{so:Option aD},bK R g cM H N so->True:=λ_=>trivial;rw[dh (cs:=#[bR [],Δ 0,.slice ν 0 0,.slice ν 0 0]) Ψ];refine bj λA cN ea aK ay=>?_;have ay:ad cN A dC [bR [],Δ 0,.slice ν 0 0,.slice ν 0 0]:=ay;have eb:C.heap.size<=A:=Ω
 have ec:=ay.lt;have cO:A≠g:=Ω
 have K:∀{R aa:x3}{c:List x1},ad R A dC c->ae (λr=>r=g) R aa->ad aa A dC c:=λO E=>O.V E λhe=>cO he;refine(C1 (cL.ext aK)).mono ?_;rintro _ cP _ ⟨⟨aM,cQ⟩,t,bu,rfl,ed,ee,cR⟩;refine bz ch.i λbA ef eg cS cT=>?_;refine b6 (vs:=[bR t,Δ bu]) ch.i rfl rfl (by intro v bB;simp at bB;rcases bB with rfl|rfl<;>rfl) cT λcU cV eh bC=>?_;have aA:Ext cP cU:=cS.put cV Ω;have cW:=(K ay aM).ext aA;rw[aL ch.p 0 bC rfl,bJ,aR dC.p rfl];refine bk (g:=A) (o:=0) cZ.i rfl rfl cW Ξ λaN aO ei aS=>?_;have aS:ad aN A dC [bR t,Δ 0,.slice ν 0 0,.slice ν 0 0]:=aS;have cX:=(cQ.ext aA).new aO λr j=>by have j:r=A:=j;omega
 have z4:=aK.size;have z5:=aM.size;have ej:=aA.size;have bD:ad aN bA ch [bR t,Δ bu]:=bC.V aO λhe=>by have he:bA=A:=he;omega
 rw[aL ch.p 0 bD rfl,nJ cZ.u,bP,aL ch.p 1 bD rfl];have cY:ae (λr=>w.heap.size<=r) w aN:=((((bp.V _).trans (aK.V _)).trans (aM.mono λr _ h=>by have h:r=g:=h;omega)).trans (aA.V _)).trans (aO.mono λr _ h=>by have h:r=A:=h;omega);have up:∀{R aa:x3},ae (λr=>w.heap.size<=r) w R->ae (λr=>r=g) R aa->ae (λr=>w.heap.size<=r) w aa:=λh k=>h.trans (k.mono λr _ h=>by have h:r=g:=h;omega);refine(mM cX).mono ?_;rintro _ ek _ ⟨bE,ab⟩;have c0:=up cY bE;have c1:=K aS bE;generalize aV:(((ju (σ ⟨(lex pl).1,0,false,[]⟩)).map (·.2)).map (a8 (decide ((64:Int)<(t.length:Int)))))=aX at ab;refine(kA ab).mono ?_;rintro _ em _ ⟨⟨bF,c2⟩,n,eo,rfl,bG,c3⟩;rw[br,bt,bP];refine(mM c2).mono ?_;rintro _ ep _ ⟨bH,bI⟩;have c4:=up (up c0 bF) bH;have c5:=K (K c1 bF) bH;generalize bM:((a7 1 4611686018427387904 aX).map (·.2)).map (a8 (decide (64<n)))=aY at bI;refine(kA bI).mono ?_;rintro _ er _ ⟨⟨bN,bO⟩,most,es,rfl,hm,c6⟩;rw[br,bt];generalize bQ:(a7 1 4611686018427387904 aY).map (·.2)=aZ at bO;refine(kA bO).mono ?_;rintro _ et _ ⟨⟨bT,c7⟩,a1,eu,rfl,bU,c8⟩;rw[br,bt,bP];refine(mM c7).mono ?_;rintro _ ev _ ⟨bV,bW⟩;generalize bX:((a7 0 4611686018427387904 aZ).map (·.2)).map (a8 (decide (256<a1)))=bY at bW;refine(kA bW).mono ?_;rintro _ ew _ ⟨⟨bZ,c9⟩,k,ey,rfl,hk,ez⟩;rw[br,bt,bP];refine(mM c9).mono ?_;rintro _ eA _ ⟨b0,b1⟩;generalize b2:((a7 1 4611686018427387904 bY).map (·.2)).map (a8 (decide (2147483648<k)))=ac at b1;have da:=up (up (up (up (up c4 bN) bT) bV) bZ) b0;have db:=K (K (K (K (K c5 bN) bT) bV) bZ) b0;rw[bJ,aR dC.p rfl];refine bk (g:=A) (o:=1) al.i rfl rfl db Ξ λb3 b5 eB a2=>?_;have a2:ad b3 A dC [bR t,Δ k,.slice ν 0 0,.slice ν 0 0]:=a2;have dc:=b1.new b5 λr j=>by have j:r=A:=j;omega
 have b7:ae (λr=>w.heap.size<=r) w b3:=da.trans (b5.mono λr _ h=>by have h:r=A:=h;omega);have eC:0<=n/\n<=4611686018427387904:=by
  cases B:a7 1 4611686018427387904 aX with
  |none=>have:=c3 B;omega
  |some q=>have ab:=bG q B;have:=mH (n:=q.1) (s':=q.2) B;omega
 have eD:0<=most/\most<=4611686018427387904:=by
  cases B:a7 1 4611686018427387904 aY with
  |none=>have:=c6 B;omega
  |some q=>have ab:=hm q B;have:=mH (n:=q.1) (s':=q.2) B;omega
 have de:0<=a1/\a1<=4611686018427387904:=by
  cases B:a7 0 4611686018427387904 aZ with
  |none=>have:=c8 B;omega
  |some q=>have ab:=bU q B;have:=mH (n:=q.1) (s':=q.2) B;omega
 have df:Zero (σ (⟨(lex pl).1,0,false,[]⟩:aD)):=λs I=>by cases I;exact⟨rfl,by simp only;omega⟩
 have dg:Zero aX:=by rw[<-aV];exact(NY df).big _
 have di:Zero aY:=by rw[<-bM];exact(zero_num dg).big _
 have dj:Zero aZ:=by rw[<-bQ];exact zero_num di
 have dk:Zero bY:=by rw[<-bX];exact(zero_num dj).big _
 have b8:Zero ac:=by rw[<-b2];exact(zero_num dk).big _
 have eE:=b7.size;refine⟨λa6 P=>∃i:Nat,a6=Δ (i:Int)/\i<=n.toNat/\ae (λr=>w.heap.size<=r) w P/\∃szv gz acc so,ad P A dC [bR t,Δ k,szv,.slice ν 0 0]/\aq .i64 al P gz szv acc/\(∀r,leads szv r->C.heap.size<=r)/\bK P g C.heap.size bx 100000 so/\lh (fQ most) n.toNat i ac acc so/\∀s,so=σ s->s.told=0/\acc.length+s.toks.length<=100000/\∀z∈acc,1<=z/\z<=av,λa6 _=>n.toNat-(bS a6).toNat,
  ⟨0,rfl,X4 _,b7,_,0,[],ac,a2,aq.nil _ _ _ _,(λr j=>by obtain⟨a,aB,c,Y,Z⟩:=j;cases Y),dc,?_,λs I=>⟨(b8 s I).1,by simpa using(b8 s I).2,λz dl=>by cases dl⟩⟩,?_⟩
 .unfold lh;cases ac<;>rfl
 rintro _ P ⟨i,rfl,hi,bb,szv,gz,acc,so,b9,ca,cb,ag,bd,cc⟩;refine aT (λv dm=>P=dm/\((v= .bool true/\i<n.toNat/\∃s,so=σ s)\/(v= .bool false/\(so=ν\/i=n.toNat)))) ?_ ?_
 rotate_left
 .intro ax S;rw[aQ,aj];refine⟨λcd=>?_,λeF=>S _ _ ⟨rfl,.inr ⟨rfl,.inr Ω⟩⟩⟩;rw[lg ag];cases so with
  |none=>exact S _ _ ⟨rfl,.inr ⟨rfl,.inl rfl⟩⟩
  |some s=>exact S _ _ ⟨rfl,.inl ⟨rfl,Ω,s,rfl⟩⟩
 rintro _ _ ⟨rfl,⟨rfl,cd,s,rfl⟩|⟨rfl,dn⟩⟩
 .rw[bL];obtain⟨dp,eH,dq⟩:=cc s rfl;refine(kA ag).mono ?_;rintro _ eI _ ⟨⟨dr,ds⟩,z,eJ,rfl,be,eK⟩;rw[br,bt,bP];refine(mM ds).mono ?_;rintro _ eL _ ⟨dt,du⟩;have aC:=dr.trans dt;have ce:=K b9 aC;have dv:∀r,r=g->hh P r\/P.heap.size<=r:=λr j=>(kB ag r j).imp (λ⟨e,c,O,dw,dx,_⟩=>⟨e,c,O,dw,dx⟩) id;have cg:=eG ca aC dv;rw[aG dC.p 2 ce rfl];refine en au.u al.i rfl λa22 eM dy eN W dz=>?_;refine gN au.u al.i rfl (cg.ext W) dz.ls Θ Θ λci dA eO aE dD cj=>?_;have ck:=ce.ext W;have cl:=ck.V cj λhe=>b4 (cg.ext W) ck Φ he rfl;rw[bJ,aR dC.p rfl];refine bk (g:=A) (o:=2) au.i aE.ls.cells.1 aE.ls.cells.2 cl Ξ λcm cn eP bf=>?_;have bf:ad cm A dC [bR t,Δ k,ci,.slice ν 0 0]:=bf;rw[aP,wrap_i64 Ω Ω];have cp:ae (λr=>leads szv r\/r=A) dy cm:=(cj.mono λr _ h=>.inl h).trans (cn.mono λr _ h=>.inr h);have cq:∀r,(leads szv r\/r=A)->C.heap.size<=r:=λr j=>j.elim (cb r) λj=>Ω
  have eQ:w.heap.size<=C.heap.size:=bp.size;have eR:=aC.size;have z22:=W.size;have eS:=bb.size;have eU:=ag.lt;refine⟨⟨i+1,rfl,Ω,((up bb aC).trans (W.V _)).trans (cp.mono λr _ h=>by have:=cq r h;omega),ci,dA,acc++[z],((a7 1 most (σ s)).map (·.2)).map (a8 (decide (32<z))),bf,bo aE cn λr j he=>?_,λr j=>?_,(du.ext W).new cp cq,?_,λs' L=>?_⟩,by simp only[bS];omega⟩
  .have he:r=A:=he;subst he;exact b4 aE cl Φ j rfl
  .rcases dD r j with h|h
   .exact cb r h
   .omega
  .refine bd.step cd ?_ λq B=>?_
   .show (U3 _ (bc 1 most s)).map _=_;unfold fQ;cases B:bc 1 most s with
    |none=>rfl
    |some q=>
     have:=be q B;obtain⟨cr,aF⟩:=q;subst this;rfl
   .unfold fQ at B;cases M:bc 1 most s with
    |none=>rw[M]at B;cases B
    |some ak=>
     rw[M]at B;have:=be ak M;obtain⟨cr,aF⟩:=ak;cases B;exact this
  .cases M:bc 1 most s with
   |none=>
    have L:(U3 (λx=>x.2) (bc 1 most s)).map (a8 (decide (32<z)))=σ s':=L;rw[M]at L;cases L
   |some ak=>
    have L:(U3 (λx=>x.2) (bc 1 most s)).map (a8 (decide (32<z)))=σ s':=L;rw[M]at L;have dE:=be ak M;obtain⟨cr,aF⟩:=ak;cases L;have ct:=dF M;have ft:=(hY M).1;have eV:=ct.1;refine⟨by show aF.told=0;rw[ct.eqs.1];exact dp,?_,λy am=>?_⟩
    .rw[r8];show acc.length+1+aF.toks.length<=100000;omega
    .rcases o9.1 am with am|am
     .exact dq y am
     .rw[l7.1 am,dE];exact⟨ft.1,by unfold av;have:=ft.2;simp only at*;omega⟩
 .rw[aU];have dG:ac.bind (cK (fQ most) n.toNat [])=so.map λs=>(acc,s):=by
   unfold lh at bd;rw[bd];cases so with
   |none=>rfl
   |some s=>
    rcases dn with h|rfl
    .cases h
    .simp only[U2];rfl
  refine NX bb b9 ca ag (λs I=>?_) Ω Ω an de λv w' dH dI bg dJ dK cu=>?_
  .obtain⟨dL,eW,a3⟩:=cc s I;exact⟨λ_=>by rw[dL];omega,Ω,a3,Ω⟩
  .have dM:(decide ((64:Int)<(t.length:Int)))=decide (64<t.length):=by rw[U1,decide_eq_true_eq,decide_eq_true_eq];omega
   rw[dM]at aV;have dN:=NV (s0:=⟨(lex pl).1,0,false,[]⟩) aV.symm (λq B=>cR q B) bM.symm bG bQ.symm hm bX.symm bU b2.symm hk dG dJ;have Q:=NZ dN Ω;have cw:¬0<=bad↔(lex pl).2=true:=by
    rw[cC];cases (lex pl).2<;>simp
   cases dI with
   |none=>
    obtain⟨aB,e,rfl⟩:=cu λs I=>by cases I
    exact⟨bg,aB,e,λ_=>rfl,λf G=>by rw[Q]at G;cases G⟩
   |some s=>
    have Q:gp pl=if s.toks=[]/\(lex pl).2=true/\s.big=false then σ ⟨t,k,acc,dH⟩else ν:=Q;by_cases E:s.toks=[]/\(lex pl).2=true/\s.big=false
    .rw[if_pos E]at Q;obtain⟨rfl,dO⟩:=dK s rfl ⟨E.1,cw.2 E.2.1,E.2.2⟩;exact⟨bg,_,_,(λG=>by rw[Q]at G;cases G),λf G=>⟨A,rfl,by rw[Q]at G;cases G;exact dO⟩⟩
    .rw[if_neg E]at Q;obtain⟨aB,e,rfl⟩:=cu λs' L ao=>by
      cases L;exact E ⟨ao.1,cw.1 ao.2.1,ao.2.2⟩
     exact⟨bg,aB,e,λ_=>rfl,λf G=>by rw[Q]at G;cases G⟩
theorem Db{a b:Int}:ai x7 HP [Δ a,Δ b] w λv w'=>v=Δ (min a b)/\Ext w w':=by
 refine az func202 ?_;rw[aQ,aj];exact⟨λh=>⟨by congr 1;omega,Ext.refl _⟩,λh=>⟨by congr 1;omega,Ext.refl _⟩⟩
theorem N1{s:iW}{x:cm}{aM:x1}{t:Λ}{k:Int}(h:gO w s x)(O:(x.lines.map (·.1)).Nodup)(P:aH .i64 w aM t):ai x7 Ih [.agg (eY s).toArray,aM,Δ k] w λv w'=>v=Δ (jQ x k t)/\Ext w w':=by
 obtain⟨⟨g1,Q⟩,⟨aq,R⟩,S,au,L,f,V,E⟩:=id h;refine az func247 ?_;refine bj λW J av z a=>?_;have a:ad J W a1 (eY s):=by
  obtain⟨_,_,_,X⟩:=dg Q.ls;obtain⟨_,_,_,Y⟩:=dg R.ls;obtain⟨_,_,_,_,_,Z,_⟩:=f.sl;simp only[eY,X,Y,Z]at a ⊢;exact a
 have aa:=f.ext z;have ab:L.length=x.lines.length:=by rw[<-E,u9]
 rw[aL a1.p 2 a rfl,aL a1.p 3 a rfl,ez ea.u aa,S];refine cd.range L.length (λi j U=>Ext J U/\∃c:Int,j=Δ c/\min c k=k7 x k i t) f.le ⟨Ext.refl _,x.other,rfl,(BW x k t).symm⟩ ?_ ?_
 .rintro i _ U ac hi ⟨e,c,rfl,q⟩ ae;obtain⟨y,A⟩:=aF (l:=L) hi;obtain⟨gy,G⟩:=V y (x5 A);have B:=z.trans e;have af:x.lines[i]?=σ (y.t,y.c):=by rw[<-E,x8,A];rfl
  have H:=BY (k:=k) O af t;refine bQ Ω ?_;refine aT (λj I=>Ext J I/\∃c:Int,j=Δ c/\min c k=k7 x k (i+1) t) ?_ ?_
  .rintro j I ag;rw[aP];exact ae _ _ ag
  intro ax K;have M:=f.ext B;rw[dj rfl ea.u b5.i M hi,bH b5.p b5.i rfl (M.range A)];refine bz b5.i λak aw ay ah al=>?_;refine b6 (vs:=n2 y) b5.i rfl rfl (wA G) al λam an aA N=>?_;have r:Ext U am:=ah.put an Ω;rw[aL b5.p 0 N rfl];refine(wz ((G.ls.ext B).ext r) ((P.ext B).ext r)).mono ?_;rintro _ aB _ ⟨rfl,C⟩;rw[aj];refine⟨λhe=>?_,λao=>?_⟩
  .rw[aL b5.p 1 (N.ext C) rfl];refine K _ _ ⟨(e.trans r).trans C,y.c,rfl,?_⟩;rw[H,if_pos he.symm]
  .refine K _ _ ⟨(e.trans r).trans C,c,rfl,?_⟩;rw[H,if_neg λhe=>ao he.symm,q]
 .rintro _ U ac ⟨e,c,rfl,q⟩;rw[ab,BX]at q;refine cn Ω ?_;refine Db.mono ?_;rintro _ aC _ ⟨rfl,ap⟩;exact⟨by rw[q],(z.trans e).trans ap⟩
theorem N2{cG:x1}(h:aH .i64 w cG l)(M:l.Nodup)(ag:l.length<=64):ai x7 Ig [cG] w λv w'=>Ext w w'/\∃g,aq .i64 ah w' g v (bl l)/\∀r,leads v r->w.heap.size<=r:=by
 refine az func246 ?_;have N:∀i,i<=64->(((V0 i).map λ(v:Nat)=>(v:Int)).filter λv=>decide (v∈l)).length<=i:=λi _=>by
  have:=List.length_filter_le (λv=>decide (v∈l)) ((V0 i).map λ(v:Nat)=>(v:Int));simp at this;omega
 refine cd.range 64 (λi e J=>Ext w J/\∃g,aq .i64 ah J g e (((V0 i).map λ(v:Nat)=>(v:Int)).filter λv=>decide (v∈l))/\∀r,leads e r->w.heap.size<=r) Ω ⟨Ext.refl _,0,aq.nil _ _ _ _,λr y=>by obtain⟨a,n,c,O,ak⟩:=y;cases O⟩ ?_ ?_
 .rintro i e J k hi ⟨z,g,hm,C⟩ hk;refine bQ Ω ?_;rw[aW au.u (h.ext z)];have P:=N i Ω;generalize Q:(((V0 i).map λ(v:Nat)=>(v:Int)).filter λv=>decide (v∈l))=A at hm P;refine cd.range l.length (λj e U=>Ext w U/\∃g,aq .i64 ah U g e (A++(if(i:Int)∈l.take j then[(i:Int)]else[]))/\∀r,leads e r->w.heap.size<=r) h.le ⟨z,g,by simpa using hm,C⟩ ?_ ?_
  .rintro j R U S V ⟨q,E,f,s⟩ W;obtain⟨x,G⟩:=aF (l:=l) V;refine bQ Ω ?_;refine aT (λe B=>Ext w B/\∃g,aq .i64 ah B g e (A++(if(i:Int)∈l.take (j+1)then[(i:Int)]else[]))/\∀r,leads e r->w.heap.size<=r) ?_ ?_
   .rintro am B X;rw[aP];exact W _ _ X
   intro ax L;have H:(i:Int)∈l.take (j+1)↔(i:Int)∈l.take j\/(i:Int)=x:=by
    rw[u7,G,o8,o9,l7]
   rw[be au.u al.i Ψ (h.ext q) G,bd,aj];refine⟨λhe=>?_,λY=>?_⟩
   .have Z:(i:Int)∉l.take j:=λhm=>by
     obtain⟨p,I⟩:=X5.1 hm;have aa:p<j:=by have:=(x4.1 I).1;rw[o7]at this;omega
     rw[Z9 aa,<-he]at I;have:=ku M I G;omega
    rw[if_neg Z,W7]at f;refine en (k:=.i64) ap.u ah.i rfl λa3 an B av K ab=>?_;refine gN ap.u ah.i rfl (f.ext K) ab.ls Θ Θ λaw ac ay ad ae af=>?_;have aA:=q.size;have z3:=K.size;refine L _ _ ⟨(q.trans K).then af λr y he=>by have:=s r he;omega,ac,?_,λr y=>(ae r y).elim (s r) λh=>Ω⟩;rw[if_pos (H.2 (.inr he.symm))];exact ad
   .refine L _ _ ⟨q,E,?_,s⟩;have:((i:Int)∈l.take (j+1))=((i:Int)∈l.take j):=propext ⟨λao=>(H.1 ao).resolve_right λhe=>Y he.symm,λao=>H.2 (.inl ao)⟩;simp only[this];exact f
  .rintro R U S ⟨q,E,f,s⟩;rw[o5]at f;refine cn Ω ?_;rw[aP];refine hk _ _ ⟨q,E,?_,s⟩;rw[List.range_succ,Z4,List.filter_append,Q];by_cases hm:(i:Int)∈l
   .rw[if_pos hm]at f;simpa[hm]using f
   .rw[if_neg hm]at f;simpa[hm]using f
 .rintro e J k ⟨z,g,hm,C⟩;rw[aQ,aj];exact⟨λh=>Ω,λ_=>⟨z,g,hm,C⟩⟩
structure fu where
 aN:x1
 szv:x1
 aV:x1
 sc:Λ
 cs:Λ
def dl(h:fu):List x1:=[h.aN,h.szv,h.aV]
def pq(h:fu)(r:Nat):Prop:=leads h.aV r\/leads h.aN r\/leads h.szv r
def fL(w:x3)(sizes:Λ)(h:fu):Prop:=(∃g,aq .i64 ah w g h.aN h.sc)/\(∃g,aq .i64 ah w g h.szv (bV sizes h.sc))/\∃g,aq .i64 al w g h.aV h.cs
theorem fL.ext{h:fu}(ao:fL w sizes h)(a:Ext w w'):fL w' sizes h:=by
 obtain⟨⟨g1,h1⟩,⟨e,f⟩,j,p⟩:=ao;exact⟨⟨g1,h1.ext a⟩,⟨e,f.ext a⟩,j,p.ext a⟩
theorem fL.one{h:fu}(ao:fL w sizes h):∀u∈dl h,u.oneCell'=true:=by
 obtain⟨⟨g1,h1⟩,⟨f,a⟩,j,e⟩:=ao;intro u hu;simp[dl]at hu;rcases hu with rfl|rfl|rfl
 .exact h1.ls.cells.2
 .exact a.ls.cells.2
 .exact e.ls.cells.2
theorem Dc{f:b2}{x:cm}{ac:iW}(h:gO w ac x)(aE:fe N f)(bL:x∈f.funs)(cA:aq .i64 al w gz sv f.sizes):
  ai x7 HM [.agg (eY ac).toArray,sv,Δ f.k] w λv w'=>Ext w w'/\∃c:fu,v= .agg (dl c).toArray/\c.sc=bl x.scope/\c.cs=(hZ f.sizes f.k x).2/\fL w' f.sizes c/\∀r,pq c r->w.heap.size<=r:=by
 obtain⟨af,cB,dP⟩:=aE.funs x bL;have bM:=sO af aE.sizes.2.1;have bN:=sN bM af.scope.1;have cC:(bl x.scope).length<=6:=by rw[bN.length_eq];exact cB
 have cD:=pf aE bL;have bP:=BN x.scope;obtain⟨⟨g1,aG⟩,⟨dQ,cE⟩,dR,dS,cF⟩:=id h;refine az func198 ?_;refine bj λbc J dT bR ag=>?_;have ag:ad J bc a1 (eY ac):=by
  obtain⟨L,cG,_⟩:=cF;obtain⟨_,_,_,E⟩:=dg aG.ls;obtain⟨_,_,_,K⟩:=dg cE.ls;obtain⟨_,_,_,_,_,cH,_⟩:=cG.sl;simp only[eY,E,K,cH]at ag ⊢;exact ag
 refine bz a6.i λbS U dU bf bh=>?_;have bi:=bR.trans bf;rw[aL a1.p 0 (ag.ext bf) rfl];refine(N2 (aG.ls.ext bi) af.scope.1 Ω).mono ?_;rintro aN bT _ ⟨aH,gr,bm,cI⟩;rw[dh (cs:=#[aN,.slice ν 0 0,.slice ν 0 0]) (by obtain⟨_,_,_,rfl⟩:=dg bm.ls;kernel_rfl)];refine bz a6.i λB dV cJ cK cL=>?_;refine b6 (vs:=[aN,.slice ν 0 0,.slice ν 0 0]) a6.i rfl rfl (by intro u hu;simp at hu;rcases hu with rfl|rfl;exact bm.ls.cells.2;rfl) cL λM cM dW Y=>?_;have aI:Ext bT M:=cK.put cM Ω;have bU:=(bi.trans aH).trans aI;have W:=bm.ext aI;have bn:=((ag.ext bf).ext aH).ext aI;have bW:=(bh.ext aH).ext aI;have dX:=bi.size;have z3:=aH.size;have dY:=bU.size;have dZ:=Y.lt;have ea:B=bT.heap.size:=cJ;rw[aL a6.p 0 Y rfl,aW ap.u W.ls];have bX:∀v∈bl x.scope,0<=v/\v<f.sizes.length:=λv hm=>af.scope.2 v ((qv bM).1 hm);have bp:∀{w':x3},ae (λr=>r=B\/M.heap.size<=r) M w'->Ext w w':=λbq=>bU.then bq λr s he=>Ω
 have br:(bV f.sizes (bl x.scope)).length=(bl x.scope).length:=by simp[bV]
 refine bZ.range (bl x.scope).length (λi O=>ae (λr=>r=B\/M.heap.size<=r) M O/\∃szv gs,ad O B a6 [aN,szv,.slice ν 0 0]/\aq .i64 ah O gs szv ((bV f.sizes (bl x.scope)).take i)/\∀r,leads szv r->M.heap.size<=r) Ω
  ⟨ae.refl _ _,_,0,Y,aq.nil _ _ _ _,λr s=>by obtain⟨a,n,c,E,K⟩:=s;cases E⟩ ?_ ?_
 .rintro i O cN hi ⟨P,szv,gs,cO,ak,aJ⟩ cP;obtain⟨v,bt⟩:=aF (l:=(bl x.scope)) hi;have eb:=bX v (x5 bt);have cQ:aq .i64 ah O gr aN (bl x.scope):=bo W P λr s I=>by
   rcases I with rfl|I
   .exact b4 W Y Φ s rfl
   .obtain⟨E,K⟩:=bO W s;omega
  refine bQ Ω ?_;rw[be ap.u ah.i Ψ cQ.ls bt];intro ec am _ _;have bY:=cO.ext am;have cR:f.sizes[v.toNat]?=σ (f.sizes.getD v.toNat 0):=by rw[v8,x6 Ω];rfl
  rw[aL a6.p 1 bY rfl,gl (y:=v) (i:=v.toNat) Ω au.u al.i Ψ (cA.ext ((bp P).trans am)).ls cR];refine en (k:=.i64) ap.u ah.i rfl λed ee cS ef av cT=>?_;refine⟨.inl av,?_⟩;have b0:=(ak.ext am).ext av;refine gN ap.u ah.i rfl b0 cT.ls Θ Θ λcU cV eg aO cW b3=>?_;have b5:=bY.ext av;have b7:=b5.V b3 λhe=>b4 b0 b5 Φ he rfl;rw[aR a6.p rfl];refine bk (g:=B) (o:=1) ap.i aO.ls.cells.1 aO.ls.cells.2 b7 Ξ λcX b8 eh cY=>?_;rw[aP];have cZ:ae (λr=>leads szv r\/r=B) cS cX:=(b3.mono λr _ h=>.inl h).trans (b8.mono λr _ h=>.inr h);have c0:=P.size;have ei:=(am.trans av).size;refine cP _ ⟨((P.trans (am.V _)).trans (av.V _)).trans (cZ.mono λr _ h=>h.elim (λh=>.inr (aJ r h)) .inl),cU,cV,cY,?_,λr s=>(cW r s).elim (aJ r) λh=>Ω⟩;have e:(bV f.sizes (bl x.scope)).take (i+1)=(bV f.sizes (bl x.scope)).take i++[f.sizes.getD v.toNat 0]:=by
   unfold bV;rw[<-List.map_take,<-List.map_take,u7,bt,o8,Z4];rfl
  rw[e];exact bo aO b8 λr s he=>by
   have he:r=B:=he;subst he;exact b4 aO b7 Φ s rfl
 rintro O cN ⟨P,szv,gs,bu,ak,aJ⟩;rw[<-br,o5]at ak;refine cn Ω ?_;have ej:=bp P;have aQ:b1 (bV f.sizes (bl x.scope)):=⟨by rw[br];exact cC,mI aE.sizes.2.2 bX⟩;have c1:=cD.small;rw[aL a6.p 1 bu rfl];refine(Ai _ ak.ls aQ).mono ?_;rintro c2 C _ ⟨aS,b9⟩;have ek:=iI aQ.2;have em:=lU aQ.2;have eo:aK (bV f.sizes (bl x.scope))<=4096:=c1;rw[jl dn.u b9];have aU:ae (λr=>r=B\/M.heap.size<=r) M C:=P.trans (aS.V _);have aw:=bu.ext aS;have ca:=ak.ext aS;have c0:=P.size;have er:=aS.size;have bw:aq .i64 ah C gr aN (bl x.scope):=bo W aU λr s I=>by
  rcases I with rfl|I
  .exact b4 W Y Φ s rfl
  .obtain⟨E,K⟩:=bO W s;omega
 have bA:ad C bc a1 (eY ac):=bn.V aU λI=>I.elim (λhe=>by subst he;exact absurd (ep bn Y) Φ) λh=>by have:=bn.lt;omega
 have cb:=bW.V aU λI=>I.elim (λhe=>by have:=bh.lt;omega) λh=>by have:=bW.lt;omega
 have cc:∀{w':x3},ae (λr=>r=B\/C.heap.size<=r) C w'->Ext w w':=λbq=>(bp aU).then bq λr s he=>by
  have he:r=B\/C.heap.size<=r:=he;omega
 have es:B<C.heap.size:=aw.lt;refine bZ.range (bg (bV f.sizes (bl x.scope))).length (λq z=>ae (λr=>r=B\/C.heap.size<=r) C z/\∃aV ay,ad z B a6 [aN,szv,aV]/\aq .i64 al z ay aV (((bg (bV f.sizes (bl x.scope))).take q).map λt=>jQ x f.k (oZ x.scope (bl x.scope) t))/\∀r,leads aV r->C.heap.size<=r) Ω
  ⟨ae.refl _ _,_,0,aw,aq.nil _ _ _ _,λr s=>by obtain⟨a,n,c,E,K⟩:=s;cases E⟩ ?_ ?_
 .rintro q z c3 c4 ⟨G,aV,ay,aA,aB,aX⟩ c5;obtain⟨t,aZ⟩:∃t,(bg (bV f.sizes (bl x.scope)))[q]?=σ t:=⟨_,x6 c4⟩;have et:t.length=(bl x.scope).length:=by
   have c6:=oV aQ.2 (i:=q) Ω;rw[c6]at aZ;cases aZ;rw[jn,br]
  have bB:=cc G;have c7:an.rep (α:=List (Λ)) true (eK O.heap.size) bx z [c2] (bg (bV f.sizes (bl x.scope))):=an.V b9 G λr s h I=>by
   rcases h with h|h
   .have h:O.heap.size<=r:=h;have:=bu.lt;rcases I with I|I<;>omega
   .exact h
  have Z:∀{Q:Nat}{R:x1}{S:Λ},aq .i64 ah C Q R S->aq .i64 ah z Q R S:=λhm=>bo hm G λr s I=>by
   rcases I with rfl|I
   .exact b4 hm aw Φ s rfl
   .obtain⟨E,K⟩:=bO hm s;omega
  have ce:=Z bw;have cg:ad z bc a1 (eY ac):=bA.V G λI=>I.elim (λhe=>by subst he;exact absurd (ep bA aw) Φ) λh=>by have:=bA.lt;omega
  refine bQ Ω ?_;refine jm (α:=Λ) rfl rfl dn.u ap.i Ψ c7 aZ λaM c8=>?_;have c9:=ew c8;rw[aL a1.p 0 cg rfl,aW au.u (aG.ls.ext bB)];have z12:=G.size;refine cd.range x.scope.length (λp H a2=>Ext z a2/\∃go,aq .i64 al a2 go H ((x.scope.take p).map λv=>t.getD ((bl x.scope).idxOf v) 0)/\∀r,leads H r->z.heap.size<=r) Ω ⟨Ext.refl _,0,aq.nil _ _ _ _,λr s=>by obtain⟨a,n,c,E,K⟩:=s;cases E⟩ ?_ ?_
  .rintro p H a2 da db ⟨aa,go,aC,ch⟩ dc;obtain⟨v,bC⟩:=aF (l:=x.scope) db;have dd:v∈bl x.scope:=bN.mem_iff.2 (x5 bC);refine bQ Ω ?_;have de:=bB.trans aa;have df:=aA.ext aa;have di:=ce.ext aa;rw[be au.u al.i Ψ (aG.ls.ext de) bC,aL a6.p 0 df rfl,aW ap.u di.ls];generalize ci:((x.scope.take p).map λv=>t.getD ((bl x.scope).idxOf v) 0)=A at aC;have eu:A.length=p:=by rw[<-ci,u9,o7];omega
   refine cd.range (bl x.scope).length (λj H a7=>Ext z a7/\∃go,aq .i64 al a7 go H (A++if v∈(bl x.scope).take j then[t.getD ((bl x.scope).idxOf v) 0]else[])/\∀r,leads H r->z.heap.size<=r) Ω ⟨aa,go,by simpa using aC,ch⟩ ?_ ?_
   .rintro j dj a7 dk dm ⟨X,bD,ab,aD⟩ dp;obtain⟨u,hu⟩:=aF (l:=(bl x.scope)) dm;have dq:=ce.ext X;refine bQ Ω ?_;refine aT (λH bE=>Ext z bE/\∃go,aq .i64 al bE go H (A++if v∈(bl x.scope).take (j+1)then[t.getD ((bl x.scope).idxOf v) 0]else[])/\∀r,leads H r->z.heap.size<=r) ?_ ?_
    .rintro ev bE dr;rw[aP];exact dp _ _ dr
    intro ax cj;have bF:v∈(bl x.scope).take (j+1)↔v∈(bl x.scope).take j\/v=u:=by
     rw[u7,hu,o8,o9,l7]
    rw[be ap.u ah.i Ψ dq.ls hu,bd,aj];refine⟨λhe=>?_,λbG=>?_⟩
    .have ds:v∉(bl x.scope).take j:=λhm=>by
      obtain⟨dt,bI⟩:=X5.1 hm;have du:dt<j:=by have:=(x4.1 bI).1;rw[o7]at this;omega
      rw[Z9 du,<-he]at bI;have:=ku bP bI hu;omega
     rw[if_neg ds,W7]at ab;have dv:t[j]?=σ (t.getD ((bl x.scope).idxOf v) 0):=by
      have:(bl x.scope).idxOf v=j:=qx bP (by rw[hu,he]);rw[this,v8,x6 (show j<t.length by omega)];rfl
     rw[be ap.u ah.i Ψ (c9.ext X) dv];refine en au.u al.i rfl λey ez eA eB bJ dw=>?_;refine gN au.u al.i rfl (ab.ext bJ) dw.ls Θ Θ λeC dx eD dy dz dA=>?_;have eE:=X.size;have eF:=bJ.size;refine cj _ _ ⟨(X.trans bJ).then dA λr s he=>by have:=aD r he;omega,dx,?_,λr s=>(dz r s).elim (aD r) λh=>Ω⟩;rw[if_pos (bF.2 (.inr he.symm))];exact dy
    .refine cj _ _ ⟨X,bD,?_,aD⟩;have:(v∈(bl x.scope).take (j+1))=(v∈(bl x.scope).take j):=propext ⟨λao=>(bF.1 ao).resolve_right λhe=>bG he.symm,λao=>bF.2 (.inl ao)⟩;simp only[this];exact ab
   .rintro dj a7 dk ⟨X,bD,ab,aD⟩;rw[o5,if_pos dd]at ab;refine cn Ω ?_;rw[aP];refine dc _ _ ⟨X,bD,?_,aD⟩;rw[u7,bC,o8,Z4,ci];exact ab
  .rintro H a2 da ⟨aa,go,aC,ch⟩;rw[o5]at aC;refine cn Ω ?_;intro eH ck _ _;have a8:=aa.trans ck;have dC:=aA.ext a8;have dD:=cg.ext a8;rw[aL a6.p 2 dC rfl,bH a1.p a1.i rfl dD.range];refine(N1 (h.ext (bB.trans a8)) af.lines.1 (aC.ls.ext ck)).mono ?_;rintro _ eI _ ⟨rfl,bK⟩;refine⟨.inl bK,?_⟩;refine en au.u al.i rfl λeJ eL dE eM cl dF=>?_;refine⟨.inl (bK.trans cl),?_⟩;have ba:=(a8.trans bK).trans cl;have cp:=aB.ext ba;refine gN au.u al.i rfl cp dF.ls Θ Θ λdG dH eN bb dI cq=>?_;have cr:=aA.ext ba;have ct:=cr.V cq λhe=>b4 cp cr Φ he rfl;rw[aR a6.p rfl];refine bk (g:=B) (o:=2) au.i bb.ls.cells.1 bb.ls.cells.2 ct Ξ λdJ cu eO dK=>?_;rw[aP];have dL:ae (λr=>leads aV r\/r=B) dE dJ:=(cq.mono λr _ h=>.inl h).trans (cu.mono λr _ h=>.inr h);have eP:=ba.size;refine c5 _ ⟨(G.trans (ba.V _)).trans (dL.mono λr _ h=>h.elim (λh=>.inr (aX r h)) .inl),dG,dH,dK,?_,λr s=>(dI r s).elim (aX r) λh=>Ω⟩;rw[u7,aZ,o8,Z4];exact bo bb cu λr s he=>by
    have he:r=B:=he;subst he;exact b4 bb ct Φ s rfl
 .rintro z c3 ⟨G,aV,ay,aA,aB,aX⟩;rw[o5]at aB;refine cn Ω ?_;have Z:∀{Q:Nat}{R:x1}{S:Λ},aq .i64 ah C Q R S->aq .i64 ah z Q R S:=λhm=>bo hm G λr s I=>by
   rcases I with rfl|I
   .exact b4 hm aw Φ s rfl
   .obtain⟨E,K⟩:=bO hm s;omega
  let c:fu:=⟨aN,szv,aV,bl x.scope,(hZ f.sizes f.k x).2⟩;have dM:fL z f.sizes c:=⟨⟨gr,Z bw⟩,⟨gs,Z ca⟩,ay,aB⟩;rw[bH a6.p a6.i rfl (show z.rangeAt B 0 (dl c)from aA.range)];have cw:=cb.V G λI=>I.elim (λhe=>by have:=bh.lt;omega) λh=>by have:=cb.lt;omega
  refine b6 (vs:=dl c) a6.i rfl rfl dM.one cw λdN cz eQ dO=>?_;rw[fC a6.p a6.i rfl dO.range];have aY:∀{Q:Nat}{R:x1}{S:Λ}{e:r9},e≠a6->aq .i64 e z Q R S->aq .i64 e dN Q R S:=λbG hm=>bo hm cz λr s he=>by
   have he:r=bS:=he;exact b4 hm cw bG s he
  refine⟨(cc G).then cz λr s he=>by have he:r=bS:=he;have:=bR.size;omega,c,rfl,rfl,rfl,⟨⟨gr,aY Φ (Z bw)⟩,⟨gs,aY Φ (Z ca)⟩,ay,aY Φ aB⟩,λr s=>?_⟩;rcases s with s|s|s
  .have:=aX r s;omega
  .have:=cI r s;omega
  .have:=aJ r s;omega
theorem Dd{h:fu}{g:Nat}(e:fL w sizes h)(a:ad w' g a6 (x1.agg (dl h).toArray).cells.toList):ad w' g a6 (dl h):=by
 obtain⟨⟨g1,h1⟩,⟨s,f⟩,x,j⟩:=e;obtain⟨_,_,_,p⟩:=dg h1.ls;obtain⟨_,_,_,q⟩:=dg f.ls;obtain⟨_,_,_,r⟩:=dg j.ls;simp only[dl,p,q,r]at a ⊢;exact a
theorem N3{a b:fu}(R:fL w sizes a)(S:fL w sizes b)(X:js a.sc)(Y:js b.sc):ai x7 y9 [.agg (dl a).toArray,.agg (dl b).toArray] w λv w'=>v= .bool (decide (c7 a.sc<c7 b.sc))/\Ext w w':=by
 obtain⟨⟨ga,V⟩,_⟩:=id R;obtain⟨⟨av,Z⟩,_⟩:=id S;have I:=(vO X Y).1;refine az func200 ?_;refine bj λg1 J aw ab L=>?_;refine bj λac U ax W M=>?_;have L:=(Dd R L).ext W;have M:=Dd S M;have r:=ab.trans W;have s:=V.ls.ext r;have B:=Z.ls.ext r;have z:∀{w':x3},Ext U w'->∀{K:x1->Prop},aa x7 (u5 a6 (Γ g1) 0) w' (λt=>aa x7 (u4 ap t) w' K)=K a.aN:=λe K=>by
  rw[aL a6.p 0 (L.ext e) rfl]
 have C:∀{w':x3},Ext U w'->∀{K:x1->Prop},aa x7 (u5 a6 (Γ ac) 0) w' (λt=>aa x7 (u4 ap t) w' K)=K b.aN:=λe K=>by
  rw[aL a6.p 0 (M.ext e) rfl]
 rw[z (Ext.refl _),aW ap.u s,C (Ext.refl _),aW ap.u B,bI,aj];refine⟨λad=>?_,λae=>?_⟩
 .rw[z (Ext.refl _),aW ap.u s,C (Ext.refl _),aW ap.u B,aQ];refine⟨?_,r⟩;congr 1;rw[U1,decide_eq_true_eq,decide_eq_true_eq,I];exact⟨λh=>.inl Ω,λh=>by rcases h with h|h<;>omega⟩
 have af:a.sc.length=b.sc.length:=by have:=X3.1 ae;omega
 rw[z (Ext.refl _),aW ap.u s];refine cd.range a.sc.length (λi _ N=>Ext U N/\∀(j:Nat)(x y:Int),j<i->a.sc[j]?=σ x->b.sc[j]?=σ y->x=y) V.ls.le ⟨Ext.refl _,λj x y ag=>Ω⟩ ?_ ?_
 .rintro i _ N k hi ⟨O,E⟩ hk;obtain⟨x,e⟩:=aF (l:=a.sc) hi;obtain⟨y,G⟩:=aF (l:=b.sc) (i:=i) Ω;have f:fT a.sc b.sc=fT (a.sc.drop i) (b.sc.drop i):=sZ E Ω Ω;have ak:a.sc.drop i=x::a.sc.drop (i+1):=by rw[X8 hi,(x4.1 e).2]
  have al:b.sc.drop i=y::b.sc.drop (i+1):=by rw[X8 (show i<b.sc.length by omega),(x4.1 G).2]
  rw[ak,al]at f;simp only[fT]at f;refine bQ Ω ?_;intro ay am _ _;have q:=O.trans am;rw[z q,be ap.u ah.i Ψ (s.ext q) e,C q,be ap.u ah.i Ψ (B.ext q) G,bI,aj];refine⟨λad=>?_,λhe=>?_⟩
  .intro aA an _ _;have A:=q.trans an;rw[z A,be ap.u ah.i Ψ (s.ext A) e,C A,be ap.u ah.i Ψ (B.ext A) G,aQ];refine⟨?_,r.trans A⟩;congr 1;rw[U1,decide_eq_true_eq,decide_eq_true_eq,I,f];by_cases H:x<y
   .rw[if_pos H];exact⟨λ_=>.inr ⟨af,Ω⟩,λ_=>H⟩
   .rw[if_neg H,if_pos (show y<x by omega)];exact⟨λh=>absurd h H,λh=>by rcases h with h|h<;>omega⟩
  .rw[aP];refine hk _ _ ⟨q,λj ao aq ag P Q=>?_⟩;by_cases au:j=i
   .subst au;rw[e]at P;rw[G]at Q;cases P;cases Q;exact X3.1 he
   .exact E j ao aq Ω P Q
 .rintro _ N k ⟨O,E⟩;rw[aQ,aj];refine⟨λh=>Ω,λ_=>⟨?_,r.trans O⟩⟩;congr 1;symm;rw[decide_eq_false_iff_not,I];have f:fT a.sc b.sc=fT (a.sc.drop a.sc.length) (b.sc.drop a.sc.length):=sZ E (p8 _) Ω;rw[List.drop_length,show b.sc.drop a.sc.length=[]from List.drop_eq_nil_of_le Ω]at f;rw[f];simp only[fT];omega
def du(h:fu):cE:=(h.sc,h.cs)
def kC(w:x3)(B g:Nat)(v:x1)(sizes:Λ)(L:List fu):Prop:=ba dl 3 a6 w g v L/\(∀h∈L,fL w sizes h/\∀r,pq h r->B<=r)/\(∀(i j:Nat)x y,L[i]?=σ x->L[j]?=σ y->i≠j->∀r,leads x.aV r->¬leads y.aV r)/\∀r,leadsTo v r->B<=r
theorem mN{h:fu}(y:fL w sizes h)(q:ae S w w')(s:∀r,S r->(∃e c,ad w r e c/\e≠ah/\e≠al)\/w.heap.size<=r\/((∃c,ad w r al c)/\¬leads h.aV r)):fL w' sizes h:=by
 obtain⟨⟨g1,h1⟩,⟨z,A⟩,B,j⟩:=y;have x:∀{g:Nat}{v:x1}{l:Λ},aq .i64 ah w g v l->aq .i64 ah w' g v l:=λhm=>bo hm q λr a I=>by
  rcases s r I with⟨e,c,f,p,_⟩|C|⟨⟨c,f⟩,_⟩
  .exact b4 hm f (λhe=>p he.symm) a rfl
  .obtain⟨E,F⟩:=bO hm a;omega
  .exact b4 hm f Φ a rfl
 refine⟨⟨g1,x h1⟩,⟨z,x A⟩,B,bo j q λr a I=>?_⟩;rcases s r I with⟨e,c,f,_,p⟩|C|⟨_,G⟩
 .exact b4 j f (λhe=>p he.symm) a rfl
 .obtain⟨E,F⟩:=bO j a;omega
 .exact G a
theorem kC.ext{g:Nat}{L:List fu}(h:kC w B g v sizes L)(a:Ext w w'):kC w' B g v sizes L:=⟨h.1.ext a,λx e=>⟨(h.2.1 x e).1.ext a,(h.2.1 x e).2⟩,h.2.2⟩
section
variable{α:Type}{f:α->List x1}{k:Nat}{P:W9}{w:x3}{e:r9}{g:Nat}{v:x1}{L:List α}
theorem N4{M:List α}(h:ba f k e w g v L)(j:L.map f=M.map f):ba f k e w g v M:=by
 have p:L.length=M.length:=by have:=congrArg R6 j;simpa using this
 have hm:L.flatMap f=M.flatMap f:=by rw[List.flatMap_def,List.flatMap_def,j]
 refine⟨by rw[<-p,<-hm];exact h.1,λa q=>?_⟩;obtain⟨b,r,he⟩:=l9.1 (show f a∈L.map f by rw[j];exact l9.2 ⟨a,q,rfl⟩);rw[<-he];exact h.2 b r
theorem De{b l h':Nat}{low high:Option x1}(r:P.underlying t=σ (.slice e))(hi:aO P e k b z)(h:ba f k e w g v L)(h1:lO low l)(s:lP high L.length h')(p:l<=h')(ao:h'<=L.length)(x:∀q,(∀w',ba f k e w' g v L->cc w' k q ((L.drop l).take (h'-l)).length (((L.drop l).take (h'-l)).flatMap f))->K q):aa P (V6 t v low high ν) w K:=by
 have y:=h.sl;obtain⟨_,B,o,base,cap,rfl,C,_⟩:=y;rw[gk r hi h1 s eU p Ω (p8 _)];refine x _ λw' j=>?_;have:=cc.part (l:=l) (h:=h') (m:=cap) j.sl p ao Ω (p8 _);rw[sE l j.2,qn (h'-l) (λa A=>j.2 a (List.mem_of_mem_drop A))]at this;have el:((L.drop l).take (h'-l)).length=h'-l:=by rw[o7,List.length_drop];omega
 rw[el];exact this
theorem wC{O:r9}{b:Nat}{x:x1}{M:List α}{K:x1->x3->Prop}(A:P.underlying t=σ (.slice e))(hi:aO P e k b z)(G:z.cells.size=k)(h:ba f k e w g v L)(H:cc w k x M.length (M.flatMap f))(Q:∀a∈M,(f a).length=k)(h1:∀a∈M,∀u∈f a,u.oneCell'=true)(B:(L.length+M.length)*b<=140737488355328)(I:L.length+M.length<=9223372036854775807)(J:∀j p w',ba f k e w' p j (L++M)->(∀r,leadsTo j r->leadsTo v r\/w.heap.size<=r)->ae (λr=>leadsTo v r) w w'->K j w'):aC P (Z3 #[t,t] O #[v,x]) w K:=by
 have N:∀u∈M.flatMap f,u.oneCell'=true:=λu hu=>by
  obtain⟨a,R,hu⟩:=List.mem_flatMap.1 hu;exact h1 a R u hu
 have C:∀j p w',bW w' p e k j (L.length+M.length) (L.flatMap f++M.flatMap f)->ba f k e w' p j (L++M):=λj p w' hm=>⟨by simpa using hm,λb B=>by
  rcases o9.1 B with h'|h'
  .exact h.2 b h'
  .exact Q b h'⟩
 rcases h.1.2 with⟨q,S⟩|⟨cap,cs,q,T,_⟩
 .have hm:bW w w.heap.size e k v L.length (L.flatMap f):=⟨h.1.1,.inl ⟨q,S⟩⟩;subst q;refine nz A A hi G hm H N (by simpa using B) (by simpa[maxLen]using I) λj p w' E s F=>J j p w' (C _ _ _ s) (λr y=>.inr ?_) (F.mono λr y h=>Ω);have:=((C _ _ _ s).leads y).1;omega
 .refine nz A A hi G h.1 H N (by simpa using B) (by simpa[maxLen]using I) λj p w' E s F=>J j p w' (C _ _ _ s) (λr y=>?_) (F.mono λr y h=>⟨_,_,_,q,h.symm⟩);have:=((C _ _ _ s).leads y).1;rcases E with E|E
  .exact .inl ⟨_,_,_,q,by show g=r;omega⟩
  .exact .inr Ω
theorem N5{b:Nat}{K:x1->x3->Prop}(a:P.underlying t=σ (.slice e))(hi:aO P e k b z)(h:∀v g w',g=w.heap.size->Ext w w'->ba f k e w' g v []->K v w'):aC P (Y7 t 0 #[]) w K:=
 kj a hi Ω (cs:=#[]) (by simp[Instr.fill]) λg w' j p q=>by
  exact h _ g w' j p ⟨by simpa using bW.full (k:=k) (n:=0) q Ξ (by simp[maxLen]),λc r=>by cases r⟩
end
theorem wD{α:Type}{A B:List α}{s:Nat}{a:α}(I:s<B.length)(e:A[s]?=σ a):(A.take s++B.drop s).set s a=A.take (s+1)++B.drop (s+1):=by
 have f:=(x4.1 e).1;have h1:(A.take s).length=s:=by rw[o7];omega
 rw[S0 _ _ Ω,h1,U2,X8 I,List.set_cons_zero,u7,e,o8,X9];rfl
theorem Df{α:Type}{A B:List α}{s:Nat}(I:s<=A.length):(A.take s++B.drop s)[s]?=B[s]?:=by
 have h1:(A.take s).length=s:=by rw[o7];omega
 rw[Y2 Ω,h1,U2,List.getElem?_drop,Nat.add_zero]
theorem Dg{g:cE}:∀{l:List cE}{i:Nat},(∀p<i,∀x,l[p]?=σ x->c7 x.1<c7 g.1)->i<=l.length->(∀x,l[i]?=σ x->¬c7 x.1<c7 g.1)->hE g l=l.take i++g::l.drop i
 |[],i,_,a,_=>by
  have:i=0:=by simpa using a
  subst this;rfl
 |x::l,0,_,_,e=>by
  unfold hE;rw[if_neg (e x rfl)];rfl
 |x::l,i+1,h1,a,e=>by
  unfold hE;rw[if_pos (h1 0 Ω x rfl),Dg (i:=i) (λp h y f=>h1 (p+1) Ω y f) (by simpa using a) (λy f=>e y f)];rfl
theorem N6{g:Nat}{L:List fu}{h:fu}{s:Nat}{n:Int}{K:Unit->x3->Prop}(f:kC w B g v sizes L)(G:L[j]?=σ h)(I:s<h.cs.length)(Y:∀w',ae (λr=>leads h.aV r) w w'->(∀r,leads h.aV r->∃c,ad w r al c)->kC w' B g v sizes (L.set j {h with cs:=h.cs.set s n})->K () w'):
  aa x7 (j5 au h.aV (Δ (s:Int))) w λt=>aC x7 (o6 al t (Δ n)) w K:=by
 obtain⟨h1,P,Q,Z⟩:=f;have N:=(x4.1 G).1;obtain⟨R,ab⟩:=P h (x5 G);obtain⟨_,_,S,H⟩:=id R;have J:∀r,leads h.aV r->∃c,ad w r al c:=λr f=>by
  obtain⟨rfl,_⟩:=bO H f;obtain⟨_,⟨ac,_⟩|⟨cap,full,_,C,_⟩⟩:=H
  .obtain⟨a,n,c,e,_⟩:=f;rw[ac]at e;cases e
  .exact⟨_,C⟩
 have af:∀r,r=S->leads h.aV r:=λr he=>by
  subst he;obtain⟨_,⟨_,ay⟩|⟨cap,full,e,C,_⟩⟩:=H
  .omega
  .exact⟨_,_,_,e,rfl⟩
 rw[ic rfl au.u al.i H I];refine ie al.i H I λw' E az ag=>?_;have E:=E.mono (T:=λr=>leads h.aV r) λr _ he=>af r he;refine Y w' E J ⟨?_,λx A=>?_,λp q x y A ah ai r aj ak=>?_,Z⟩
 .refine N4 (h1.V E λr f I=>?_) ?_
  .obtain⟨c,C⟩:=J r I;exact cC h1 C Φ f
  .rw[U6];symm;refine X2 λp=>?_;rw[X1,x8];by_cases z:j=p
   .subst z;rw[if_pos rfl,if_pos (by simpa using N),G];rfl
   .rw[if_neg z]
 .have am:x={h with cs:=h.cs.set s n}\/∃p,p≠j/\L[p]?=σ x:=by
   obtain⟨p,z⟩:=X5.1 A;rw[X1]at z;by_cases F:j=p
   .subst F;rw[if_pos rfl,if_pos N]at z;exact .inl (Z2 z).symm
   .rw[if_neg F]at z;exact .inr ⟨p,λh=>F h.symm,z⟩
  rcases am with rfl|⟨p,an,z⟩
  .obtain⟨⟨g1,U⟩,⟨ao,W⟩,_⟩:=R;refine⟨⟨⟨g1,bo U E λr f I=>?_⟩,⟨ao,bo W E λr f I=>?_⟩,S,ag⟩,ab⟩
   .obtain⟨c,C⟩:=J r I;exact b4 U C Φ f rfl
   .obtain⟨c,C⟩:=J r I;exact b4 W C Φ f rfl
  .obtain⟨ap,aq⟩:=P x (x5 z);refine⟨mN ap E λr f=>.inr (.inr ⟨J r f,λO=>Q p j x h z G an r O f⟩),aq⟩
 .have X:∀{p:Nat}{x:fu},(L.set j {h with cs:=h.cs.set s n})[p]?=σ x->∃M,L[p]?=σ M/\M.aV=x.aV:=λ{p x}A=>by
   rw[X1]at A;by_cases F:j=p
   .subst F;rw[if_pos rfl,if_pos N]at A;cases A;exact⟨h,G,rfl⟩
   .rw[if_neg F]at A;exact⟨x,A,rfl⟩
  obtain⟨M,O,ex⟩:=X A;obtain⟨av,aw,ax⟩:=X ah;exact Q p q M av O aw ai r (by rw[ex];exact aj) (by rw[ax];exact ak)
def lj(f:b2)(j:Nat):List cE:=(((fp f).take j).filter fD).foldl (λl g=>hE g l) []
theorem Dh{f:b2}{x:cE}(h:(fp f)[j]?=σ x):lj f (j+1)=if fD x then hE x (lj f j)else lj f j:=by
 unfold lj;rw[u7,h,o8,List.filter_append,List.foldl_append];cases I:fD x with
 |true=>rw[List.filter_cons_of_pos I];rfl
 |false=>rw[List.filter_cons_of_neg (by simp[I])];rfl
theorem N7(f:b2):lj f (fp f).length=fE f:=by unfold lj fE;rw[o5]
theorem Di(g:cE):∀l,(hE g l).length=l.length+1
 |[]=>rfl
 |h::l=>by
  unfold hE;split
  .rw[c9,Di g l,c9]
  .rfl
theorem N8{f:b2}(e:j<=(fp f).length):(lj f j).length<=j:=by
 induction j with
 |zero=>simp[lj]
 |succ j a=>
  have:=a Ω;rw[Dh (x:=(fp f)[j]) (x6 Ω)];split
  .rw[Di];omega
  .omega
theorem N9{g:Nat}{l:x1}{f:b2}{L:List fu}{Q:x1->x3->Prop}(aA:fe N f)(A:kC w B g l f.sizes L)(aB:L.map du=fp f)(bN:∀out w' go z,Ext w w'->ba dl 3 a6 w' go out z->(∀h∈z,h∈L)->(∀h∈z,fL w' f.sizes h)->z.map du=fE f->(∀r,leadsTo out r->w.heap.size<=r)->Q out w'):
  aa x7 (V2 #[cS] ah #[l]) w λbO=>
 cd (.slice ν 0 0) (Δ 0) w λout aD S bR=>
  aa x7 (aJ .lss ah false false aD bO) S λbT=>
  Split bT (ck (α:=x1->x3->Prop) (λ(bU:x1)(U:x3)=>
   aa x7 (aJ .add ah false true aD (Δ 1)) U λbV=>
   bR bU bV U) λbf=>
  aa x7 (j5 cS l aD) S λbW=>
  aa x7 (u4 a6 bW) S λbX=>
  aC x7 (Instr.alloc a6 true (.tuple #[])) S λam bg=>
  aC x7 (o6 a6 am bX) bg λ(_:Unit)O=>
  aa x7 (u5 a6 am 2) O λbY=>
  aa x7 (u4 au bY) O λbh=>
  aa x7 (V2 #[au] ah #[bh]) O λb0=>
  cd (.bool false) (Δ 0) O λbi aE C b1=>
   aa x7 (aJ .lss ah false false aE b0) C λb3=>
   Split b3 (ck (α:=x1->x3->Prop) (λ(b4:x1)(Z:x3)=>
    aa x7 (aJ .add ah false true aE (Δ 1)) Z λb5=>
    b1 b4 b5 Z) λbj=>
   aa x7 (j5 au bh aE) C λb8=>
   aa x7 (u4 al b8) C λb9=>
   Split bi (bj (.bool true) C)
    (aa x7 (aJ .gtr al false true b9 (Δ 0)) C λca=>
   bj ca C))
    (aa x7 (Op.unary .not bi) C λcb=>
  Split cb (bf out C)
   (bZ (Δ 0) C λi an cc=>
   ck (α:=x1->x3->Prop) (λ(ce:x1)(W:x3)=>
    Split ce (aa x7 (aJ .add ah false true i (Δ 1)) W λcg=>
   cc cg W)
     (ev W λG=>
  aa x7 (u4 a6 am) G λch=>
  aa x7 (V6 cS out (σ i) ν ν) G λbk=>
  aC x7 (Y7 cS 1 #[(0,ch)]) G λci ab=>
   (Ext G ab\/cu x7 (V6 cS out (σ i) ν ν) bk ab/\True)/\
  aC x7 (Z3 #[cS,cS] cS #[ci,bk]) ab λcj aG=>
   aC x7 (Y7 cS 0 #[]) aG λcl ap=>
  aa x7 (V6 cS out ν (σ i) ν) ap λcm=>
  aC x7 (Z3 #[cS,cS] cS #[cl,cm]) ap λcp aH=>
  aC x7 (Z3 #[cS,cS] cS #[cp,cj]) aH λcq aI=>
  bf cq aI)) λbl=>
   ev an λH=>
   aa x7 (V2 #[cS] ah #[out]) H λcr=>
   aa x7 (aJ .lss ah false false i cr) H λct=>
   Split ct (aa x7 (j5 cS out i) H λcw=>
   aa x7 (u4 a6 cw) H λcz=>
   aa x7 (u4 a6 am) H λcA=>
   ai x7 y9 [cz,cA] H λcB bm=>
    bl cB bm)
    (bl (.bool false) H))))
   (Q out S):=by
 have cC:L.length=(fp f).length:=by rw[<-aB,u9]
 have dh:L.length<=256:=by have:=(k6 aA).2.2;have:=aA.k0;omega
 have bn:=(k6 aA).1;rw[ez cS.u A.1];refine cd.range L.length (λj out J=>∃go z,Ext w J/\ba dl 3 a6 J go out z/\(∀h∈z,h∈L)/\z.map du=lj f j/\∀r,leadsTo out r->w.heap.size<=r) A.1.le
  ⟨0,[],Ext.refl _,ba.nil _ _ _ _ _,λh ao=>(by cases ao),rfl,λr A=>(fq A).elim⟩ ?_ ?_
 rotate_left
 .rintro out J cD ⟨go,z,bo,ac,P,ad,aK⟩;rw[aQ,aj];refine⟨λh=>Ω,λ_=>bN _ _ go z bo ac P (λh ao=>((A.ext bo).2.1 h (P h ao)).1) ?_ aK⟩;rw[ad,cC,N7]
 rintro j out S cD bp ⟨go,z,aq,ac,P,ad,aK⟩ cE;obtain⟨h,ao⟩:=aF (l:=L) bp;have hm:(fp f)[j]?=σ (du h):=by rw[<-aB,x8,ao];rfl
 have cF:=bn _ (x5 hm);have di:z.length<=256:=by
  have:=N8 (f:=f) (j:=j) Ω;rw[<-ad,u9]at this;omega
 have ae:=A.ext aq;obtain⟨aN,_⟩:=ae.2.1 h (x5 ao);obtain⟨_,_,dk,cG⟩:=id aN;refine bQ Ω ?_;refine aT (λaO U=>∃aR af,Ext w U/\ba dl 3 a6 U aR aO af/\(∀h∈af,h∈L)/\af.map du=lj f (j+1)/\∀r,leadsTo aO r->w.heap.size<=r) ?_ ?_
 .rintro aO U ⟨aR,af,h1,cH,cI,cJ,cK⟩;rw[aP];exact cE _ _ ⟨aR,af,h1,cH,cI,cJ,cK⟩
 intro ax ag;rw[dj rfl cS.u a6.i ae.1 bp,bH a6.p a6.i rfl (ae.1.range ao)];refine bz a6.i λbq bg dm cL cM=>?_;refine b6 (vs:=dl h) a6.i rfl rfl aN.one cM λO cN dn br=>?_;have bt:Ext S O:=cL.put cN Ω;have aS:=cG.ext bt;rw[aL a6.p 2 br rfl,aW au.u aS.ls];refine cd.range h.cs.length (λq sv C=>Ext O C/\sv= .bool ((h.cs.take q).any λc=>decide (0<c))) aS.ls.le ⟨Ext.refl _,rfl⟩ ?_ ?_
 .rintro q _ C cO cP ⟨X,rfl⟩ cQ;obtain⟨c,bu⟩:=aF (l:=h.cs) cP;have e:(h.cs.take (q+1)).any (λc=>decide (0<c))=((h.cs.take q).any (λc=>decide (0<c))||decide (0<c)):=by
   rw[u7,bu,o8,List.any_append];simp
  refine bQ Ω ?_;refine aT (λsv Z=>Ext O Z/\sv= .bool ((h.cs.take (q+1)).any λc=>decide (0<c))) ?_ ?_
  .rintro _ Z ⟨cR,rfl⟩;rw[aP];exact cQ _ _ ⟨cR,rfl⟩
  intro ax ag;rw[be au.u al.i Ψ (aS.ext X).ls bu,b7];refine⟨λcT=>ag _ _ ⟨X,by rw[e,cT];rfl⟩,λcU=>?_⟩;rw[bP];exact ag _ _ ⟨X,by rw[e,cU];rfl⟩
 rintro _ C cO ⟨X,rfl⟩;have bw:=br.ext X;have R:=bt.trans X;rw[o5];refine cn Ω ?_;rw[bC,b7];have av:=Dh hm;have cV:(h.cs.any λc=>decide (0<c))=fD (du h):=rfl;rw[cV];refine⟨λaV=>?_,λI=>?_⟩
 .have aV:fD (du h)=false:=by simpa using aV
  rw[aV]at av;exact ag _ _ ⟨go,z,aq.trans R,ac.ext R,P,by rw[ad,av];rfl,aK⟩
 have I:fD (du h)=true:=by simpa using I
 rw[I,if_pos rfl]at av;refine⟨λaX an=>∃i:Nat,aX=Δ (i:Int)/\i<=z.length/\Ext C an/\∀p<i,∀x,z[p]?=σ x->c7 x.sc<c7 h.sc,λaX _=>z.length-(bS aX).toNat,⟨0,rfl,X4 _,Ext.refl _,λp aY=>Ω⟩,?_⟩;rintro _ an ⟨i,rfl,hi,cW,aZ⟩;refine aT (λaM W=>Ext C W/\((aM= .bool true/\i<z.length/\∀x,z[i]?=σ x->c7 x.sc<c7 h.sc)\/(aM= .bool false/\∀x,z[i]?=σ x->¬c7 x.sc<c7 h.sc))) ?_ ?_
 rotate_left
 .intro dp a1;intro H cX _ _;have Y:=cW.trans cX;have a2:=ac.ext (R.trans Y);rw[ez cS.u a2,aQ,aj];refine⟨λaZ=>?_,λdq=>a1 _ _ ⟨Y,.inr ⟨rfl,λx s=>absurd (x4.1 s).1 Ω⟩⟩⟩;obtain⟨x,s⟩:=aF (l:=z) (i:=i) Ω;have bx:=P x (x5 s);have cY:js x.sc:=(bn (du x) (by rw[<-aB];exact l9.2 ⟨x,bx,rfl⟩)).scope;have bA:=ae.ext (R.trans Y);rw[dj rfl cS.u a6.i a2 Ω,bH a6.p a6.i rfl (a2.range s),bH a6.p a6.i rfl (show H.rangeAt bq 0 (dl h)from(bw.ext Y).range)];refine(N3 (bA.2.1 x bx).1 (bA.2.1 h (x5 ao)).1 cY cF.scope).mono ?_;rintro _ bm _ ⟨rfl,bB⟩;by_cases aw:c7 x.sc<c7 h.sc
  .rw[decide_eq_true aw];exact a1 _ _ ⟨Y.trans bB,.inl ⟨rfl,Ω,λy E=>by rw[s]at E;cases E;exact aw⟩⟩
  .rw[decide_eq_false aw];exact a1 _ _ ⟨Y.trans bB,.inr ⟨rfl,λy E=>by rw[s]at E;cases E;exact aw⟩⟩
 rintro _ W ⟨bD,⟨rfl,dr,cZ⟩|⟨rfl,c0⟩⟩
 .rw[bL,aP,wrap_i64 Ω Ω];refine⟨⟨i+1,rfl,Ω,bD,λp aY x s=>?_⟩,by simp only[bS];omega⟩;by_cases c1:p=i
  .subst c1;exact cZ x s
  .exact aZ p Ω x s
 .rw[aU];intro G c2 _ _;have ak:=bD.trans c2;have ay:=ac.ext (R.trans ak);have c3:=ae.ext (R.trans ak);have a7:∀x∈z,∀u∈dl x,u.oneCell'=true:=λx s=>(c3.2.1 x (P x s)).1.one;have c4:∀u∈dl h,u.oneCell'=true:=aN.one;rw[bH a6.p a6.i rfl (show G.rangeAt bq 0 (dl h)from(bw.ext ak).range)];refine De (h':=z.length) cS.u a6.i ay (nu i _ rfl) iH hi (p8 _) λds bE=>?_;refine h2 (f:=dl) (k:=3) (a:=h) cS.u a6.i Ω rfl rfl λdt dv ab dw a8 bF=>?_;refine⟨.inl a8,?_⟩;have c5:(z.drop i).take (z.length-i)=z.drop i:=j0 (by rw[List.length_drop];omega);rw[c5]at bE;refine wC (M:=z.drop i) cS.u a6.i rfl bF (bE ab (ay.ext a8)) (λ_ _=>rfl) (λa K=>a7 a (List.mem_of_mem_drop K)) Θ Θ λdx dy aG bb dz c6=>?_;have bG:Ext G aG:=a8.then c6 λr A he=>by have:=(bF.leads he).1;omega
  refine N5 (f:=dl) (k:=3) cS.u a6.i λdA dC ap dD bc az=>?_;have bd:=bG.trans bc;refine De (h':=i) cS.u a6.i (ay.ext bd) iG (nv i _ rfl) (X4 _) hi λdE bI=>?_;rw[List.drop_zero,Nat.sub_zero]at bI;refine wC (M:=z.take i) cS.u a6.i rfl az (bI ap (ay.ext bd)) (λ_ _=>rfl) (λa K=>a7 a (V5 K)) Θ Θ λc8 dF aH c9 da bJ=>?_;have dG:=bG.size;have dH:=bc.size;have db:=(bb.ext bc).V bJ λr A I=>by have:=(bb.leads A).1;have:=(bb.leads A).2;have:=(az.leads I).1;omega
  refine wC (M:=[h]++z.drop i) cS.u a6.i rfl c9 db.sl (λ_ _=>rfl) (λa K=>?_) Θ Θ λdI dc aI dd de df=>?_
  .rcases o9.1 K with K|K
   .rw[l7.1 K];exact c4
   .exact a7 a (List.mem_of_mem_drop K)
  have bK:Ext G aH:=bd.then bJ λr A he=>by have:=(az.leads he).1;omega
  have bM:∀r,leadsTo c8 r->G.heap.size<=r:=λr A=>(da r A).elim (λh=>by have:=(az.leads h).1;omega) λh=>Ω
  have dg:Ext G aI:=bK.then df λr A he=>by have:=bM r he;omega
  have dJ:=(aq.trans (R.trans ak)).size;have dK:=bK.size;refine ag _ _ ⟨dc,_,(aq.trans (R.trans ak)).trans dg,dd,λx s=>?_,?_,λr A=>(de r A).elim (λh=>by have:=bM r h;omega) λh=>Ω⟩
  .rcases o9.1 s with s|s
   .exact P x (V5 (by simpa using s))
   .rcases o9.1 s with s|s
    .rw[l7.1 s];exact x5 ao
    .exact P x (List.mem_of_mem_drop s)
  .rw[av,<-ad,Dg (i:=i) (λp aY x s=>?_) (by simpa using hi) (λx s=>?_)]
   .simp
   .rw[x8]at s;cases E:z[p]? with
    |none=>rw[E]at s;cases s
    |some y=>rw[E]at s;cases s;exact aZ p aY y E
   .rw[x8]at s;cases E:z[i]? with
    |none=>rw[E]at s;cases s
    |some y=>rw[E]at s;cases s;exact c0 y E
end Go.Proofs.YtikkpokkcdocoaaGreatDoor
