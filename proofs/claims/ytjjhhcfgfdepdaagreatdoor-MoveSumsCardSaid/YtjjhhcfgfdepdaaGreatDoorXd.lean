/- own texts, made small by a tool (wip/ holds them as they were written): no statement of the seat. -/
import Derived.Test.YtjjhhcfgfdepdaaGreatDoorXc
set_option linter.unusedVariables false
set_option linter.unusedSimpArgs false
set_option linter.unnecessarySimpa false
open Array renaming getElem?_eq_some_iff→j0,getElem?_toList→S9
open Bool renaming not_true→Y5,not_false→V0,eq_iff_iff→U1,and_eq_true→T0,or_eq_false_iff→S7
open Decidable renaming not_not→Y7
open Go renaming Value→x1,World→x3,TypeId→r9,IntKind→o6,Builtin→Z3,Program→W9
open Go.Addr renaming add_mid→S2
open Go.Builtin renaming append_→b9,len_→V3
open Go.Instr renaming loadAt→u5,fieldAt→u6,storeAt→o5,indexAt→c8,extract→Z8,buildSlice→Y4,sliceAt→U2,alloc→S0
open Go.IntKind renaming i64→X7
open Go.Proofs.Tryz renaming prog→x7
open Int renaming toNat_natCast→r8
open List renaming getElem?_eq_some_iff→x4,mem_of_getElem?→x5,getElem?_eq_getElem→x6,getElem?_map→x8,getD_eq_getElem?_getD→u4,length_map→u7,take_add_one→u9,length_append→p8,replicate→p9,take_length→o7,take_of_length_le→o9,mem_singleton→n9,mem_map→l7,mem_append→l9,length_take→j5,map_append→j6,getElem?_set_self→j9,append_assoc→c9,length_cons→b8,eq_nil_of_length_eq_zero→Z0,getElem?_eq_none→Z4,length_set→Z5,getElem?_set_ne→Y0,ext_getElem?→Y6,getElem?_append_left→Y8,getElem?_append_right→X1,flatMap_cons→X2,getElem?_take_of_lt→X4,getElem?_set→X6,mem_iff_getElem?→X9,mem_or_eq_of_mem_set→W3,drop_eq_getElem_cons→W5,append_nil→W7,length_eq_one_iff→V2,range→V6,map_cons→V7,length_singleton→U3,map_set→U9,length→T7,set_append_right→T8,mem_of_mem_take→T9,map_map→R6,getElem_mem→Q4
open Nat renaming le_refl→o4,le_trans→X0,mul_le_mul_right→X5,zero_le→X8,zero_add→W0,add_mul→U4,sub_self→U7,mul_one→T5,add_assoc→R7,add_sub_cancel_left→R8,eq_zero_or_pos→Q3
open Option renaming toList_some→o8,map_some→Z6,isNone_some→Z7,map_eq_some_iff→X3,getD_some→V8,map→U6,isSome_some→R3,isSome_none→R4
open Option.some renaming inj→c7,injEq→Y3
open Prod renaming mk→R5
open Prod.mk renaming injEq→T2
set_option maxHeartbeats 16000000
open Option renaming some→σ,none→ν
variable {B N a ab ad gz j k n:Nat}{w w':x3}{sv v z:x1}{e t:r9}{y:Int}{K:x1->Prop}{all l pl sizes:Λ}{S:Nat->Prop}
namespace Go.Proofs.YtjjhhcfgfdepdaaGreatDoor
open Go Go.Vc Go.RowKit Go.Proofs Go.Proofs.Tryz
set_option maxRecDepth 100000
def M6 (w:x3) (f:bZ) (v:x1) (w':x3):Prop:=Ext w w'/\((¬ip f.funs<=16384/\ ∃e:Int,e≠0/\v= .tuple #[.pointer ν,Δ e])\/ ∃a,v= .tuple #[Γ a,Δ 0]/\CL w.heap.size w' a (df f))
theorem eL {cs:List x1} (h:b7 w k v n cs):v.cells= #[v]/\v.oneCell'=true:=by
 obtain⟨_,_,_,_,_,rfl,_⟩:=h;exact⟨rfl,rfl⟩
theorem M7 {b1:Nat} {f:bZ} (ct:lf w b1 f) (S:e6 N f) (cu:N<=60000) (cw:f.name≠[]/\ ∀b∈f.name,bM b=true):
  ai x7 Gd [Γ b1] w (M6 w f):=by
 have hk:=S.k;refine aw func36 ?_;refine (M2 ct S cu cw).mono ?_;rintro _ J _ ⟨aA,⟨cz,e,he,rfl⟩|⟨aC,rfl,cA⟩⟩
 .rw[bu,bw,bE,ah];exact⟨λ_=>⟨aA,.inl ⟨cz,e,he,rfl⟩⟩,λh=>absurd he h⟩
 rw[bu,bw,bE,ah];refine⟨λh=>absurd rfl h,λ_=>?_⟩;obtain⟨szv,cB,gz,dC,M,bc,bd,b2,aT,cC,cF,cG⟩:=id cA;have dD:M.length<=256:=by
  have h1:=(qy S).2.length_eq;have aq:=(lb S).2.2;have av:=List.length_filter_le fD (fl f);have aU:=S.k3;have dE:M.length=(fE f).length:=by rw[<-aT,u7]
  omega
 have dF:=S.sizes.2.1;rw[dq (cs:=#[Γ aC,Δ 0,.slice ν 0 0,.slice ν 0 0]) Ψ];refine bn λG w2 dH bf bh=>?_;have bh:aa w2 G fw [Γ aC,Δ 0,.slice ν 0 0,.slice ν 0 0]:=bh;rw[aO cD.p 2 (bc.ext bf) rfl,aX al.u (bd.ls.ext bf)];refine ci.range f.sizes.length (λi aD=>∃s H aR,Ext J aD/\aa aD G fw [Γ aC,Δ 0,s,.slice ν 0 0]/\hE aD H s aR/\aR.map (·.l)=(f.sizes.take i).map (λz=>p9 z.toNat 0)/\(∀r,leadsTo s r->J.heap.size<=r)/\ ∀h∈aR,∀r,leads h.v r->J.heap.size<=r) Ω
  ⟨_,0,[],bf,bh,⟨bg.nil _ _ _ _ _,λx aF=>(by cases aF)⟩,rfl,λr q=>(e7 q).elim,λx aF=>(by cases aF)⟩ ?_ ?_
 .rintro i aD cH hi ⟨s,H,aR,ab,aV,bj,aG,aW,O⟩ cI;obtain⟨z,B⟩:=aE (l:=f.sizes) hi;have dI:=S.sizes.2.2 z (x5 B);have dK:aR.length=i:=by have:=congrArg T7 aG;simp only[u7,j5] at this;omega
  refine bH Ω ?_;rw[be al.u ag.i Ψ (bd.ls.ext ab) B];intro dL bk _ _;have cJ:=aV.ext bk;rw[aO fw.p 2 cJ rfl];obtain⟨ac,rfl⟩:∃n:Nat,z=n:=⟨z.toNat,Ω⟩;refine kk (k:=.i64) an.u ak.i Ω Ω λaY cK dM bl cL=>?_;refine⟨.inl bl,?_⟩;have b3:ap .i64 ak cK aY (.slice (σ ⟨aY,0,ν⟩) ac ac) (p9 ac 0):=ap.of (bV.full (k:=1) (n:=ac) cL Ξ (by simp[maxLen];omega));let a:lg:=⟨.slice (σ ⟨aY,0,ν⟩) ac ac,p9 ac 0⟩;refine h0 (f:=nV) (a:=a) dn.u an.i Ω rfl rfl λdN dO bm dP bp cM=>?_;refine⟨.inl (bl.trans bp),?_⟩;have aZ:=(bk.trans bl).trans bp;have a1:=bj.ext aZ;refine ik (f:=nV) (a:=a) dn.u an.i rfl a1.1 (by simpa using cM.sl) (λu hu=>by rw[n9.1 (show u∈[a.v] from hu)];rfl) Ω Ω λbr bz dQ P bA b4=>?_;have aH:∀ {r:Nat},leadsTo s r-> ∃c,aa bm r an c:=λq=>by
   obtain⟨rfl,c,A⟩:=ef a1.1 q;exact⟨c,A⟩
  have bB:=aV.ext aZ;have b5:=bB.U b4 λhe=>cQ a1.1 bB Φ he;rw[bW,aP fw.p rfl];refine bo dn.i (eL P.sl).1 (eL P.sl).2 b5 Ξ λcN b6 dR cO=>?_;rw[aM];have bC:ae (λr=>leadsTo s r\/r=G) bm cN:=(b4.mono λr _ h=>.inl h).trans (b6.mono λr _ h=>.inr h);have V:∀r,(leadsTo s r\/r=G)-> ∃e c,aa bm r e c/\e≠ak:=λr q=>by
   rcases q with q|rfl
   .obtain⟨c,A⟩:=aH q;exact⟨_,c,A,Φ⟩
   .exact⟨_,_,bB,Φ⟩
  have b7:=aA.size;have z3:=ab.size;have dS:=aZ.size;refine cI _ ⟨br,bz,aR++[a],(ab.trans aZ).then bC (λr q he=>?_),cO,⟨P.U b6 λr q he=>?_,λy C=>?_⟩,?_,λr q=>?_,λy C r q=>?_⟩
  .rcases he with he|rfl
   .have:=aW r he;omega
   .omega
  .have he:r=G:=he;subst he;exact cQ P b5 Φ q
  .rcases l9.1 C with C|C
   .exact a1.qH bC V y C
   .rw[n9.1 C];have b8:=b3.ext bp;exact⟨aY,bq b8 bC λr q I=>by
     obtain⟨e,c,A,cP⟩:=V r I;exact cd b8 A (λhe=>cP he.symm) q rfl⟩
  .rw[j6,aG,u9,B,o8,j6];rfl
  .rcases bA r q with h|h
   .exact aW r h
   .omega
  .rcases l9.1 C with C|C
   .exact O y C r q
   .rw[n9.1 C] at q;have cR:=(bU b3 q).1;have:=bk.size;omega
 .rintro aD cH ⟨s,H,aR,ab,aV,bj,aG,aW,O⟩;refine ca Ω ?_;rw[o7] at aG;have cS:=bc.ext ab;have cT:=b2.ext ab;rw[aO cD.p 3 cS rfl,eA dJ.u cT.1];refine ci.range M.length (λi ad=>∃s E H gr aR L,Ext J ad/\aa ad G fw [Γ aC,Δ (dG f i).zero,s,E]/\hE ad H s aR/\aR.map (·.l)=(dG f i).unary/\lX ad w.heap.size gr E f.k f.sizes L/\L.map dV=(dG f i).funs/\(∀r,leadsTo s r\/leadsTo E r->J.heap.size<=r)/\ ∀h∈aR,∀r,leads h.v r->J.heap.size<=r) Ω
   ⟨s,_,H,0,aR,[],ab,aV,bj,aG,⟨bg.nil _ _ _ _ _,λx aF=>(by cases aF)⟩,rfl,λr q=>q.elim (aW r) λh=>(e7 h).elim,O⟩ ?_ ?_
  rotate_left
  .rintro ad cU ⟨s,E,H,gr,aR,L,Q,a2,bD,af,bF,aj,W,O⟩;refine ca Ω ?_;have cV:M.length=(fE f).length:=by rw[<-aT,u7]
   have aI:=pe f M.length;rw[cV,ti] at a2 af aj aI;have b7:=aA.size;refine⟨aA.trans Q,.inr ⟨G,rfl,M3 (gr:=gr) (nm:=bR f.name) (szv:=szv) (gz:=gz) (fv2:=cB) a2 ?_ ?_ bD af ?_ aj Ω cC cF (λr q=>by have:=W r q;omega) λh ay r q=>by have:=O h ay r q;omega⟩⟩
   .rw[aI.1];exact bc.ext Q
   .rw[aI.2.1];exact bd.ext Q
   .rw[aI.1,aI.2.1];exact bF
  rintro i ad cU hi ⟨s,E,H,gr,aR,L,Q,a2,bD,af,bF,aj,W,O⟩ cW;obtain⟨y,C⟩:=aE (l:=M) hi;have cY:(fE f)[i]? =σ (dV y):=by rw[<-aT,x8,C];rfl
  have a6:fG f.sizes f.k (dV y):=sX S _ (wk aT C);have bG:=b2.ext Q;obtain⟨dT,dU,dW,dX⟩:=pe f i;refine bH Ω ?_;refine dm (λaJ=>∃s E H gr aR L,Ext J aJ/\aa aJ G fw [Γ aC,Δ (dG f (i+1)).zero,s,E]/\hE aJ H s aR/\aR.map (·.l)=(dG f (i+1)).unary/\lX aJ w.heap.size gr E f.k f.sizes L/\L.map dV=(dG f (i+1)).funs/\(∀r,leadsTo s r\/leadsTo E r->J.heap.size<=r)/\ ∀h∈aR,∀r,leads h.v r->J.heap.size<=r) ?_ ?_
  .rintro aJ h;rw[aM];exact cW _ h
  intro au bI;have cZ:=bG.2 y (x5 C);obtain⟨⟨c0,bJ⟩,m,o,D,c3,dY,c4⟩:=cZ;rw[db rfl dJ.u cE.i bG.1 hi,bx cE.p cE.i rfl (bG.1.range C)];refine bt cE.i λam dZ ea c5 c6=>?_;refine bT (vs:=eB y) cE.i rfl rfl (th bJ) c6 λc7 c8 eb b9=>?_;have bK:Ext ad c7:=c5.put c8 Ω;rw[az cE.p 1 b9 rfl];refine (Ch (c3.ext bK) Ω).mono ?_;rintro _ ec _ ⟨cb,_,ax⟩;obtain⟨g,c9,da,dc,rfl,ed,dd,ax,de⟩:=ax a6.small;have df:dv (bP f.sizes y.sc):=ax.2.2.1.2;have dg:dc=y.cs:=io.eq df de c4;subst dg;have X:=bK.trans cb;have bL:=b9.ext cb;have bN:=bJ.ext X;rw[bu,bw,az cE.p 0 bL rfl,aX al.u bN.ls];have b7:=aA.size;have z9:=Q.size;have ee:=X.size;have bO:=a2.ext X;have bQ:=bD.ext X;have bS:=bF.ext X;have bX:=wm cY;rw[bi,ah];refine⟨λeg=>?_,λeh=>?_⟩
  .
   have ao:y.sc=[]:=Z0 Ω;have K:dG f (i+1)={dG f i with zero:=y.cs.getD 0 0}:=by rw[bX];unfold iT;simp only[dV,ao]
   refine (mB ax).mono ?_;rintro cc dh _ ⟨a7,ei,ej,di⟩;have ek:y.cs.length=1:=by have:=a6.len;simpa[dV,ao,bP,aK] using this
   have dj:y.cs[0]? =σ (y.cs.getD 0 0):=by rw[u4,x6 Ω];rfl
   rw[fA (y:=0) (i:=0) rfl an.u ak.i Ψ di.ls dj,bW,aP fw.p rfl];have ce:=bO.ext a7;refine bo ak.i rfl rfl ce Ξ λem bY en dk=>?_;have V:∀r,r=G-> ∃e c,aa dh r e c/\e≠hv/\e≠cX/\e≠ag/\e≠ak/\e≠an:=λr q=>by
    subst q;exact⟨_,_,ce,Φ,Φ,Φ,Φ,Φ⟩
   refine bI _ ⟨s,E,H,gr,aR,L,((Q.trans X).trans a7).put bY Ω,?_,(bQ.ext a7).U bY (λr q=>?_),by rw[K];exact af,(bS.ext a7).U bY (λr q=>?_),by rw[K];exact aj,W,O⟩
   .rw[K];exact dk
   .obtain⟨e,c,A,_,_,_,h1,aq⟩:=V r q;exact⟨e,c,A,h1,aq⟩
   .obtain⟨e,c,A,h1,aq,av,aU,_⟩:=V r q;exact⟨e,c,A,h1,aq,av,aU⟩
  rw[bi,ah];refine⟨λh1=>?_,λeo=>?_⟩
  .
   obtain⟨v,ao⟩:∃v,y.sc=[v]:=V2.1 Ω;have ep:=a6.scope.1 v (by show v∈y.sc;rw[ao];exact .head _);have er:=a6.vars v (by show v∈y.sc;rw[ao];exact .head _);have K:dG f (i+1)={dG f i with unary:=(dG f i).unary.set v.toNat y.cs}:=by rw[bX];unfold iT;simp only[dV,ao]
   intro es Y _ _;have cg:=bO.ext Y;have dl:=bL.ext Y;rw[aO fw.p 2 cg rfl,az cE.p 0 dl rfl];refine pZ (y:=0) (i:=0) rfl al.u ag.i (bN.ls.ext Y) (show y.sc[0]? =σ v by rw[ao];rfl) λb o dp=>?_;rw[aB Ψ dp];refine (mB (ax.ext Y)).mono ?_;rintro cc dr _ ⟨aL,ds,et,aN⟩;refine⟨.inl aL,?_⟩;have aQ:=(bQ.ext Y).ext aL;have eu:aR.length=f.sizes.length:=by have:=congrArg T7 af;rw[u7] at this;omega
   obtain⟨u,hu⟩:=aE (l:=aR) (i:=v.toNat) Ω;rw[db (i:=v.toNat) Ω dn.u an.i aQ.1 Ω];let a:lg:=⟨cc,y.cs⟩;refine o0 (f:=nV) (j:=0) (a:=u) (a':=a) an.i aN.ls.cells.1 aN.ls.cells.2 aQ.1 hu rfl Ω λev aS ew dt=>?_;have ch:=cg.ext aL;have aH:∀ {r:Nat},leadsTo s r-> ∃c,aa dr r an c:=λq=>by
    obtain⟨rfl,c,A⟩:=ef aQ.1 q;exact⟨c,A⟩
   refine bI _ ⟨s,E,H,gr,aR.set v.toNat a,L,(((Q.trans X).trans Y).trans aL).then aS (λr q he=>by have:=W r (.inl he);omega),?_,⟨dt,λz B=>?_⟩,?_,((bS.ext Y).ext aL).U aS (λr q=>?_),by rw[K];exact aj,W,λz B r q=>?_⟩
   .rw[K];exact ch.U aS λhe=>cQ aQ.1 ch Φ he
   .rcases W3 B with B|rfl
    .exact aQ.qH aS (λr q=>by obtain⟨c,A⟩:=aH q;exact⟨_,c,A,Φ⟩) z B
    .exact⟨ds,bq aN aS λr q I=>by
      obtain⟨c,A⟩:=aH I;exact cd aN A Φ q rfl⟩
   .rw[K,U9,af]
   .obtain⟨c,A⟩:=aH q;exact⟨_,c,A,Φ,Φ,Φ,Φ⟩
   .rcases W3 B with B|rfl
    .exact O z B r q
    .have cR:=(bU aN q).1;have:=Y.size;omega
  .
   have K:dG f (i+1)={dG f i with funs:=(dG f i).funs++[dV y]}:=by
    rw[bX];unfold iT;have cj:2<=(dV y).1.length:=by show 2<=y.sc.length;omega
    generalize dV y=g at cj ⊢;obtain⟨sc,cs⟩:=g
    match sc,cj with
    |_::_::_,_=>rfl
   intro ey Z _ _;have ck:=bO.ext Z;have dw:=bL.ext Z;have cl:=bN.ext Z;rw[aO fw.p 3 ck rfl,az cE.p 0 dw rfl,dq (cs:=#[y.sv,Γ g]) (by obtain⟨_,_,_,e⟩:=du bJ.ls;rw[e];kernel_rfl)];let a:cp:=⟨y.sv,g,y.sc,y.cs⟩;refine h0 (f:=eB) (a:=a) kR.u hv.i Ω rfl rfl λez eC a8 eD R dx=>?_;refine⟨.inl R,?_⟩;have ba:=(bS.ext Z).ext R;have dy:=(bQ.ext Z).ext R;have b0:=ck.ext R;have eE:L.length<=256:=by have:=congrArg T7 aj;rw[u7] at this;omega
   refine ik (f:=eB) (a:=a) kR.u hv.i rfl ba.1 (by simpa using dx.sl) (th (cl.ext R)) Ω Ω λbr bz eF P bA cm=>?_;have cn:=b0.U cm λhe=>cQ ba.1 b0 Φ he;rw[bW,aP fw.p rfl];refine bo kR.i (eL P.sl).1 (eL P.sl).2 cn Ξ λdz cq eH dA=>?_;have bb:ae (λr=>leadsTo E r\/r=G) a8 dz:=(cm.mono λr _ h=>.inl h).trans (cq.mono λr _ h=>.inr h);have V:∀r,(leadsTo E r\/r=G)-> ∃e c,aa a8 r e c/\e≠cX/\e≠ag/\e≠ak/\e≠an:=λr q=>by
    rcases q with q|rfl
    .obtain⟨rfl,c,A⟩:=ef ba.1 q;exact⟨_,c,A,Φ,Φ,Φ,Φ⟩
    .exact⟨_,_,b0,Φ,Φ,Φ,Φ⟩
   have eI:=(Z.trans R).size;refine bI _ ⟨s,br,H,bz,aR,L++[a],(((Q.trans X).trans Z).trans R).then bb (λr q he=>?_),?_,dy.U bb (λr q=>?_),by rw[K];exact af,⟨P.U cq λr q he=>?_,λz B=>?_⟩,?_,λr q=>?_,O⟩
   .rcases he with he|rfl
    .have:=W r (.inr he);omega
    .omega
   .rw[K];exact dA
   .obtain⟨e,c,A,_,_,av,aU⟩:=V r q;exact⟨e,c,A,av,aU⟩
   .have he:r=G:=he;subst he;exact cQ P cn Φ q
   .have cr:∀r,(leadsTo E r\/r=G)-> ∃e c,aa a8 r e c/\e≠cX/\e≠ag/\e≠ak:=λr q=>by
     obtain⟨e,c,A,h1,aq,av,_⟩:=V r q;exact⟨e,c,A,h1,aq,av⟩
    rcases l9.1 B with B|B
    .exact (ba.2 z B).U bb cr
    .rw[n9.1 B];have eJ:=bK.size;refine qI.U (w:=a8) ⟨⟨c0,cl.ext R⟩,⟨c9,da,?_,Ω,λr q=>by have:=dd.2 r q;omega⟩,by show w.heap.size<=g;omega,cG y (x5 C)⟩ bb cr;exact (ax.ext Z).ext R
   .rw[K,j6,aj];rfl
   .rcases q with q|q
    .exact W r (.inl q)
    .rcases bA r q with h|h
     .exact W r (.inr h)
     .omega
theorem wn {z:Array x1} (a:z.size=k):(Z3.zeroCells z n).toList=dS z (n*k):=by
 unfold Z3.zeroCells dS;rw[a]
theorem M8 {P:W9} {p A:r9} {B kn:o6} {b g m:Nat} {xs:List x1} {K:x1->x3->Prop} (Y:y=(m:Int)) (M:P.underlying t=σ (.slice e)) (N:P.underlying p=σ (.int kn)) (hi:aN P e k b z) (C:z.cells.size=k)
  (aw:0<k) (h1:∀u∈dS z.cells (m*k),u.oneCell'=true) (h:bV w g e k v n xs) (Z:0<m) (ab:(n+m)*b<=140737488355328) (ac:n+m<=9223372036854775807)
  (O:∀E ad w',bV w' ad e k E (n+m) (xs++dS z.cells (m*k))->(∀r,leadsTo E r->leadsTo v r\/w.heap.size<=r)->ae (λr=>leadsTo v r) w w'->K E w'):av P (b9 #[t,p] A #[v,.int B y]) w K:=by
 subst Y;obtain⟨i,hi,F,rfl,Q⟩:=hi;obtain⟨R,hm⟩:=h;have af:=oH z.cells (m*k);have ag:m*i.bytes<=281474976710656:=by
  have:m*i.bytes<=(n+m)*i.bytes:=X5 _ Ω;omega
 have grow:∀ (base:Option Addr) (cap:Nat),v= .slice base n cap->(Z3.firstCells i.size n (.slice base n cap)).run P w.drew= .ok xs.toArray w.drew->cap<n+m->av P (b9 #[t,p] A #[v,.int B (m:Int)]) w K:=λbase cap ah ai f=>by
  subst ah;have G:=Lib.run_append_grow_zeros (P:=P) w t p A e i z B kn M N hi Q base n cap xs ai m Z Ω f Ω ag (growslice_fits f ab);have S:n+m<=grownCap w (n+m) cap e:=grownCap_ge w _ _ _;have aj:grownCap w (n+m) cap e<=maxLen:=grownCap_le_maxLen w (n+m) cap e (by simpa[maxLen] using ac);have ax:=oH z.cells ((grownCap w (n+m) cap e-(n+m))*k);have ay:(n+m)*k<=grownCap w (n+m) cap e*k:=X5 _ S;have ak:(n+m)*k=n*k+m*k:=U4 _ _ _;have az:(grownCap w (n+m) cap e-(n+m))*k=grownCap w (n+m) cap e*k-(n+m)*k:=Nat.sub_mul _ _ _;refine .of G ((pz w _ (Nat.le_succ _)).trans (pB _ _)) (O _ w.heap.size _ ⟨by rw[p8];omega,.inr ⟨_,xs++dS z.cells (m*k)++dS z.cells ((grownCap w (n+m) cap e-(n+m))*k),rfl,?_,S,aj,?_,?_⟩⟩ (λr H=>?_) (((rk w _).trans (pA _ _)).U _))
  .have:=heap_alloc_new w.drew (.cells (xs.toArray++Z3.zeroCells z.cells m++Z3.zeroCells z.cells (grownCap w (n+m) cap e-(n+m))) e);unfold aa;rw[show w.drew.heap.size=w.heap.size from rfl] at this;rw[this];congr 2;apply Array.toList_inj.1;rw[Array.toList_append,Array.toList_append,wn C,wn C]
  .rw[p8,p8];omega
  .rw[List.take_append_of_le_length (by rw[p8];omega),o9 (by rw[p8];omega)]
  .obtain⟨a,al,c,q,s⟩:=H;cases q;exact .inr (by simp at s;omega)
 rcases hm with⟨rfl,am⟩|⟨cap,cs,rfl,x,q,s,I,T⟩
 .subst am;have:xs=[]:=Z0 (by simpa using R);subst this;exact grow ν 0 rfl (run_firstCells_none w.drew i.size 0 0 0) Ω
 .by_cases f:n+m<=cap
  .have V:(n+m)*k<=cs.length:=by rw[I];exact X5 _ f
   have ak:(n+m)*k=n*k+m*k:=U4 _ _ _;have J:=run_storeCells_cells (P:=P) g (0+n*k) (dS z.cells (m*k)) 0 w (λj W=>by
    rw[af] at W;rw[Nat.add_zero,W0,x.cell (x6 (show n*k+j<cs.length by omega))];rfl) (λj _=>x.frozen _ _) h1
   simp only[Nat.add_zero] at J;have hw:X7.wrap (m:Int)=m:=by rw[o6.wrap_i64];omega
   have an:¬((m:Int)<0):=Ω
   have ao:¬(281474976710656<(m:Int)*(i.bytes:Int)):=by rw[<-Int.natCast_mul];omega
   have L:¬(m*i.size=0):=Nat.mul_ne_zero Ω Ω;have ap:(Z3.zeroCells z.cells m).toList=dS z.cells (m*k):=wn C;have G:(b9 #[t,p] A #[.slice (σ ⟨g,0,ν⟩) n cap,.int B (m:Int)]).run P w= .ok (.slice (σ ⟨g,0,ν⟩) (n+m) cap) (w.setCells g (0+n*k) (dS z.cells (m*k))):=by
    simp[b9,run_underlying M,run_underlying N,sizeOf,typeInfo,zeroValue,hi,Q,asInt,asIntOf,hw,f,an,L,ao,ap,Addr.add_lit,F];simp only[W0] at J;rw[J];simp;intro aq;exact absurd aq (by rw[F] at L;exact L)
   obtain⟨au,X⟩:=nt (dS z.cells (m*k)) cs (0+n*k) w x;refine .of G (X.cq x) (O _ g _ ⟨by rw[p8];omega,.inr ⟨cap,_,rfl,au,f,s,by rw[mn,I],?_⟩⟩ (λr H=>.inl ?_) (X.U.mono λr _ he=>⟨_,_,_,rfl,he.symm⟩))
   .rw[sN Ω V,mo (by rw[j5];omega),W0,List.take_take,List.drop_eq_nil_of_le (by rw[j5];omega),W7,Nat.min_eq_left Ω,T]
   .obtain⟨a,al,c,q,s⟩:=H;cases q;exact⟨_,_,_,rfl,s⟩
  .refine grow _ cap rfl ?_ Ω;have V:n*k<=cs.length:=by rw[I];exact X5 _ q
   refine run_firstCells_some w.drew i.size n _ n cap xs (by rw[F];exact R) λj u hu=>?_;rw[S2,W0];have W:=(x4.1 hu).1;rw[<-T,X4 Ω] at hu;exact x.cell hu
def iq (c:Cell):List x1:=[Δ c.v,.int .u64 (c.st:Int)]
def nY (o:kZ):List x1:=[Δ (o.i:Int),Δ o.c.v,.int .u64 (o.c.st:Int)]
def nZ (m:sj):List x1:=[Δ (m.olds:Int),Δ (m.cells:Int),.int .u64 (m.st:Int)]
def dx (w:x3) (ad:Nat) (A:af) (t:aC):Prop:=A ad/\ ∃e go dg aY a dL,aa w ad fx [aY,a,dL,.int .u64 (t.iJ:Int)]/\bg iq 2 eG w e aY t.cells/\bg nY 3 kS w go a t.olds/\bg nZ 3 gi w dg dL t.marks/\
 ∀r,leadsTo aY r\/leadsTo a r\/leadsTo dL r->A r
theorem dx.U {S A:af} {t:aC} (h:dx w ad A t) (e:ae S w w') (f:∀r,A r->¬S r):dx w' ad A t:=by
 obtain⟨p,q,go,dg,aY,s,dL,h1,x,y,z,j⟩:=h;exact⟨p,q,go,dg,aY,s,dL,h1.U e (f _ p),x.U e λr a=>f r (j r (.inl a)),y.U e λr a=>f r (j r (.inr (.inl a))),z.U e λr a=>f r (j r (.inr (.inr a))),j⟩
theorem dx.ext {A:af} {t:aC} (h:dx w ad A t) (a:Ext w w'):dx w' ad A t:=h.U (a.U λ_=>False) λ_ _ h=>h
theorem dx.mono {A B:af} {t:aC} (h:dx w ad A t) (a:∀r,A r->B r):dx w ad B t:=by
 obtain⟨e,f,go,dg,aY,j,dL,h1,p,q,s,x⟩:=h;exact⟨a _ e,f,go,dg,aY,j,dL,h1,p,q,s,λr y=>a r (x r y)⟩
def Grow (A:af) (w:x3) (aI:af) (w':x3):Prop:=ae A w w'/\(∀r,aI r->A r\/w.heap.size<=r)/\ ∀r,A r->aI r
theorem Grow.refl (A:af) (w:x3):Grow A w A w:=⟨ae.refl _ _,λ_ h=>.inl h,λ_ h=>h⟩
theorem Grow.ext {A:af} (h:Ext w w'):Grow A w A w':=⟨h.U _,λ_ h=>.inl h,λ_ h=>h⟩
theorem Grow.trans {A aI e:af} {f:x3} (h:Grow A w aI w') (k:Grow aI w' e f):Grow A w e f:=
 ⟨⟨X0 h.1.size k.1.size,λr o a I j=>k.1.aV r o (h.1.aV r o a I j) I λp=>(h.2.1 r p).elim j λq=>by
  have:=(j0.1 a).1;omega⟩,λr a=>by
  rcases k.2.1 r a with h1|h1
  .exact h.2.1 r h1
  .have:=h.1.size;exact .inr Ω,λr a=>k.2.2 r (h.2.2 r a)⟩
theorem CN {A:af} {t:aC} (h:dx w ad A t):ai x7 HU [Γ ad] w λv w'=>v=Δ (t.cells.length:Int)/\Ext w w':=by
 obtain⟨e,f,go,dg,aY,j,dL,h1,a,q,r,s⟩:=h;refine aw func182 ?_;rw[dp pS.u];simp only[Z7,aW];rw[aO fx.p 0 h1 rfl,eA h8.u a];exact⟨rfl,Ext.refl _⟩
theorem CO {A:af} {t:aC} {i:Int} (h:dx w ad A t):ai x7 Hm [Γ ad,Δ i] w λv w'=>v= .bool (decide (0<=i/\i<t.cells.length))/\Ext w w':=by
 refine aw func133 ?_;refine aT (λv J=>v= .bool (decide (0<=i/\i<t.cells.length))/\Ext w J) (λ_ _ h=>h) ?_;intro au a;rw[cU,ah];refine⟨λe=>?_,λe=>a _ _ ⟨by rw[decide_eq_false];omega,Ext.refl _⟩⟩;refine (CN h).mono ?_;rintro _ J _ ⟨rfl,f⟩;rw[aQ];refine a _ _ ⟨?_,f⟩;congr 1;rw[U1,decide_eq_true_eq,decide_eq_true_eq];exact⟨λh=>⟨Ω,h⟩,λh=>h.2⟩
theorem M9 {A:af} {t:aC} {i:Nat} {c:Cell} (h:dx w ad A t) (j:y=(i:Int)) (a:t.cells[i]? =σ c):ai x7 yZ [Γ ad,Δ y] w λv w'=>v=Δ c.v/\Ext w w':=by
 have q:=(x4.1 a).1;refine aw func69 ?_;refine (CO h).mono ?_;rintro _ J _ ⟨rfl,e⟩;rw[decide_eq_true Ω,bF,Y5,aW];obtain⟨r,s,go,dg,aY,x,dL,h1,f,z,B,C⟩:=h.ext e;rw[aO fx.p 0 h1 rfl,db j h8.u eG.i f q,aP eG.p rfl,aB Ψ (f.range a 0 _ rfl)];exact⟨rfl,e⟩
theorem mF {A:af} {t:aC} {i:Nat} {x:Int} (h:dx w ad A t) (e:y=(i:Int)) (a:t.bD[i]? =σ x):ai x7 yZ [Γ ad,Δ y] w λv w'=>v=Δ x/\Ext w w':=by
 unfold aC.bD at a;rw[x8] at a;obtain⟨c,f,rfl⟩:=X3.1 a;exact M9 h e f
def mG (t:aC):Prop:=t.cells.length<=100000000/\t.olds.length<=100000000/\t.marks.length<=100000000
theorem tj {q go dg:Nat} {aY a dL:x1} {t:aC} {x:x1} (h1:aa w ad fx [aY,a,dL,x]) (f:bg iq 2 eG w q aY t.cells) (h:bg nY 3 kS w go a t.olds) (j:bg nZ 3 gi w dg dL t.marks):
  (¬leadsTo aY ad/\¬leadsTo a ad/\¬leadsTo dL ad)/\(∀r,leadsTo aY r->¬leadsTo a r/\¬leadsTo dL r)/\ ∀r,leadsTo a r->¬leadsTo aY r/\¬leadsTo dL r:=by
 refine⟨⟨cQ f h1 Φ,cQ h h1 Φ,cQ j h1 Φ⟩,λr p=>?_,λr p=>?_⟩
 .obtain⟨rfl,c,e⟩:=ef f p;exact⟨cQ h e Φ,cQ j e Φ⟩
 .obtain⟨rfl,c,e⟩:=ef h p;exact⟨cQ f e Φ,cQ j e Φ⟩
theorem tk {A:af} {t:aC} {i:Nat} {x:Int} (h:dx w ad A t) (bl:y=(i:Int)) (P:i<t.cells.length) (aq:mG t):ai x7 y5 [Γ ad,Δ y,Δ x] w λv w'=>v=Δ 0/\ ∃aI,Grow A w aI w'/\dx w' ad aI (t.set i x):=by
 subst bl;obtain⟨c,E⟩:=aE (l:=t.cells) P;refine aw func97 ?_;rw[dp pS.u];simp only[Z7,aW];refine (CO h).mono ?_;rintro _ J _ ⟨rfl,L⟩;rw[decide_eq_true Ω,bF,Y5,aW];obtain⟨aV,M,go,dg,aY,Q,dL,h1,aX,ax,ab,ac⟩:=id (h.ext L);have bm:∀ {w2:x3} {aI:af} {bp:aC} {st:Nat} {K:x3->Prop},dx w2 ad aI bp->bp.cells[i]? =σ ⟨c.v,st⟩->
   (∀q,ae aI w2 q->dx q ad aI {bp with cells:=bp.cells.set i ⟨x,st⟩}->K q)->
   (V x7 (bN (Γ ad)) w2 λt77=>
   V x7 (u6 fx t77 0) w2 λbn=>
   V x7 (u5 h8 bn) w2 λbq=>
   V x7 (c8 h8 bq (Δ (i:Int))) w2 λbr=>
   V x7 (u6 eG br 0) w2 λbu=>
   av x7 (o5 ak bu (Δ x)) w2 λ(_:Unit) q=>
   K q):=by
  intro w2 aI bp st K ay ag bw;obtain⟨aA,M,go,dg,aY,Q,dL,G,H,R,S,W⟩:=ay;have bz:=(x4.1 ag).1;rw[aO fx.p 0 G rfl,db rfl h8.u eG.i H bz,aP eG.p rfl];obtain⟨⟨X,aD,aF⟩,I,_⟩:=tj G H R S;refine o0 (f:=iq) (j:=0) (a:=⟨c.v,st⟩) (a':=⟨x,st⟩) ak.i rfl rfl H ag rfl Ω λq B bA bB=>?_;exact bw q (B.mono λr _ e=>W r (.inl e)) ⟨aA,M,go,dg,aY,Q,dL,G.U B X,bB,R.U B λr e he=>(I r he).1 e,S.U B λr e he=>(I r he).2 e,W⟩
 refine dm (λw2=>∃aI bp st,Grow A J aI w2/\dx w2 ad aI bp/\bp.cells[i]? =σ ⟨c.v,st⟩/\t.set i x={bp with cells:=bp.cells.set i ⟨x,st⟩}) ?_ ?_
 .rintro w2 ⟨aI,bp,st,bC,ay,ag,aG⟩;refine bm ay ag λq B ax=>⟨by trivial,aI,?_,by rw[aG];exact ax⟩;exact (Grow.ext L).trans (bC.trans ⟨B,λ_ h=>.inl h,λ_ h=>h⟩)
 intro au aH;rw[aO fx.p 2 h1 rfl,eA rY.u ab,bS,ah];have aZ:∀ (hm:t.marks.getLast? =ν\/ ∃m,t.marks.getLast? =σ m/\¬(c.st<m.st/\i<m.cells)),t.set i x={t with cells:=t.cells.set i ⟨x,c.st⟩}:=λhm=>by
  unfold aC.set;rw[E];rcases hm with hm|⟨m,hm,bD⟩
  .simp only[hm]
  .simp only[hm];rw[if_neg bD]
 refine⟨λb0=>?_,λb1=>aH _ ⟨A,t,c.st,Grow.refl _ _,h.ext L,E,aZ (.inl ?_)⟩⟩
 rotate_left
 .rw[List.getLast?_eq_none_iff];exact Z0 Ω
 obtain⟨m,hm⟩:=aE (l:=t.marks) (i:=t.marks.length-1) Ω;have a1:t.marks.getLast? =σ m:=by rw[List.getLast?_eq_getElem?];exact hm
 have b2:=aq.2.2;rw[aO fx.p 2 h1 rfl,dR,wrap_i64 Ω Ω,db (i:=t.marks.length-1) Ω rY.u gi.i ab Ω,bx gi.p gi.i rfl (ab.range hm)];refine bt gi.i λam w2 b3 a2 bE=>?_;refine bT (vs:=nZ m) gi.i rfl rfl (by intro v Y;simp[nZ] at Y;rcases Y with rfl|rfl|rfl<;>rfl) bE λq B bA bG=>?_;have a6:Ext J q:=a2.put B Ω;have aj:∀ {w':x3},Ext q w'->aa w' am gi (nZ m):=λL=>bG.ext L;refine aT (λv aJ=>v= .bool (decide (c.st<m.st/\i<m.cells))/\Ext q aJ) ?_ ?_
 rotate_left
 .intro b4 a7;intro aJ s _ _;have N:=a6.trans s;have a8:=aj s;have O:=aX.ext N;rw[aO fx.p 0 (h1.ext N) rfl,db rfl h8.u eG.i O P,aP eG.p rfl,aB Ψ (O.range E 1 _ rfl),az gi.p 2 a8 rfl,aQ,ah];refine⟨λba=>?_,λbb=>a7 _ _ ⟨by rw[decide_eq_false];omega,s⟩⟩;rw[az gi.p 1 a8 rfl,aQ];refine a7 _ _ ⟨?_,s⟩;congr 1;rw[U1,decide_eq_true_eq,decide_eq_true_eq];exact⟨λh=>⟨Ω,Ω⟩,λh=>Ω⟩
 rintro _ aJ ⟨rfl,s⟩;have N:=a6.trans s;rw[ah];refine⟨λba=>?_,λbb=>aH _ ⟨A,t,c.st,Grow.ext N,(h.ext L).ext N,E,aZ (.inr ⟨m,a1,bb⟩)⟩⟩;intro b5 al _ _;have Z:=N.trans al;have aK:=h1.ext Z;have O:=aX.ext Z;have bH:=ax.ext Z;have bI:=ab.ext Z;rw[bW,aP fx.p rfl,aB Ψ (aK.cell (o:=0+1) rfl),bW,aP fx.p rfl,aB Ψ (aK.cell (o:=0+0) rfl),db rfl h8.u eG.i O P,bx eG.p eG.i rfl (O.range E)];rw[dq (cs:=#[Δ (i:Int),Δ c.v,.int .u64 (c.st:Int)]) Ψ];let a:kZ:=⟨i,c⟩;have bJ:∀u∈nY a,u.oneCell'=true:=by intro v Y;simp[nY] at Y;rcases Y with rfl|rfl|rfl<;>rfl
 refine h0 (f:=nY) (a:=a) nn.u kS.i Ω rfl rfl λb6 b7 bc b8 z bK=>?_;refine⟨.inl z,?_⟩;have bd:=Z.trans z;have aL:=aK.ext z;have be:=O.ext z;have aM:=bH.ext z;have bf:=bI.ext z;obtain⟨⟨X,aD,aF⟩,I,bL⟩:=tj aL be aM bf;refine ik (f:=nY) (a:=a) nn.u kS.i rfl aM (by simpa using bK.sl) bJ (by have:=aq.2.1;omega) (by have:=aq.2.1;omega) λaN bh b9 an bM bi=>?_;rw[bW,aP fx.p rfl];have bj:=aL.U bi aD;refine bo nn.i (eL an.sl).1 (eL an.sl).2 bj Ξ λC bk ca aR=>?_;have aR:aa C ad fx [aY,aN,dL,.int .u64 (t.iJ:Int)]:=aR;have ao:ae (λr=>leadsTo Q r\/r=ad) bc C:=(bi.mono λr _ h=>.inl h).trans (bk.mono λr _ h=>.inr h);have bO:bg iq 2 eG C M aY t.cells:=be.U ao λr e he=>he.elim (λhe=>(I r e).1 he) λhe=>X (he▸e);have bP:bg nZ 3 gi C dg dL t.marks:=bf.U ao λr e he=>he.elim (λhe=>(bL r he).2 e) λhe=>aF (he▸e);have bQ:bg nY 3 kS C bh aN (t.olds++[a]):=an.U bk λr e he=>by
  have he:r=ad:=he;subst he;exact cQ an bj Φ e
 have cb:=bd.size;have cc:=a2.size;let aS:af:=λr=>A r\/bc.heap.size<=r;have bR:Grow A J aS C:=⟨(bd.U A).trans (ao.mono λr _ he=>he.elim (λhe=>ac r (.inr (.inl he))) λhe=>he▸aV),λr e=>e.imp id λe=>Ω,λr e=>.inl e⟩;have bU:dx C ad aS {t with olds:=t.olds++[a]}:=⟨.inl aV,M,bh,dg,aY,aN,dL,aR,bO,bQ,bP,λr e=>by
  rcases e with e|e|e
  .exact .inl (ac r (.inl e))
  .rcases bM r e with h|h
   .exact .inl (ac r (.inr (.inl h)))
   .exact .inr h
  .exact .inl (ac r (.inr (.inr e)))⟩
 have bV:aa C am gi (nZ m):=(aj ((s.trans al).trans z)).U ao λhe=>by
  rcases he with he|he
  .obtain⟨rfl,cd,bX⟩:=ef aM he;exact absurd (eu bX (aj ((s.trans al).trans z))) Φ
  .subst he;exact absurd (eu aL (aj ((s.trans al).trans z))) Φ
 intro ce aU _ _;have bY:=bU.ext aU;obtain⟨aA,M,go,dg,aY,Q,dL,G,H,R,S,W⟩:=bY;rw[aO fx.p 0 G rfl,az gi.p 2 (bV.ext aU) rfl,db rfl h8.u eG.i H P,aP eG.p rfl];obtain⟨⟨X,aD,aF⟩,I,_⟩:=tj G H R S;refine o0 (f:=iq) (j:=1) (a:=c) (a':=⟨c.v,m.st⟩) fv.i rfl rfl H E rfl Ω λcg ap ch bZ=>?_;have aG:t.set i x={t with olds:=t.olds++[a],cells:=t.cells.set i ⟨x,m.st⟩}:=by
  unfold aC.set;rw[E];simp only[a1];rw[if_pos ba]
 refine aH _ ⟨aS,{t with olds:=t.olds++[a],cells:=t.cells.set i ⟨c.v,m.st⟩},m.st,bR.trans ((Grow.ext aU).trans ⟨ap.mono λr _ e=>W r (.inl e),λ_ h=>.inl h,λ_ h=>h⟩),⟨aA,M,go,dg,aY,Q,dL,G.U ap X,bZ,R.U ap λr e he=>(I r he).1 e,S.U ap λr e he=>(I r he).2 e,W⟩,?_,?_⟩
 .show (t.cells.set i _)[i]? =_;rw[j9 P]
 .rw[aG];simp only[List.set_set]
theorem CP (n:Nat):dS (#[Δ 0,.int .u64 0]:Array x1) (n*2)=(p9 n (⟨0,0⟩:Cell)).flatMap iq:=by
 have:∀n,dS (#[Δ 0,.int .u64 0]:Array x1) (n*2)=(p9 n (⟨0,0⟩:Cell)).flatMap iq:=by
  intro n;apply Y6;intro j;have r:((p9 n (⟨0,0⟩:Cell)).flatMap iq).length=n*2:=by simp[iq]
  by_cases p:j<n*2
  .have q:(dS (#[Δ 0,.int .u64 0]:Array x1) (n*2))[j]? =σ (if j % 2=0 then Δ 0 else .int .u64 0):=by
    unfold dS;rw[S9,Array.getElem?_map,Array.getElem?_range,if_pos p];rcases Nat.mod_two_eq_zero_or_one j with h|h<;>simp[h]
   have e:=oZ (f:=iq) (k:=2) (L:=p9 n (⟨0,0⟩:Cell)) (i:=j / 2) (j:=j % 2) (a:=⟨0,0⟩) (v:=if j % 2=0 then Δ 0 else .int .u64 0) (λa _=>rfl) (by rw[List.getElem?_replicate,if_pos Ω]) (by rcases Nat.mod_two_eq_zero_or_one j with h|h<;>simp[h,iq]);rw[show j / 2*2+j % 2=j by omega] at e;rw[q,e]
  .rw[Z4 (by rw[oH];omega),Z4 Ω]
 exact this n
theorem Na {A:af} {t:aC} (h:dx w ad A t) (S:mG t) (ab:n<=100000000):ai x7 HM [Γ ad,Δ (n:Int)] w λv w'=>v=Δ (t.cells.length:Int)/\ ∃aI,Grow A w aI w'/\dx w' ad aI (t.grow n):=by
 refine aw func170 ?_;refine (CN h).mono ?_;rintro _ J _ ⟨rfl,f⟩;refine dm (λw2=>∃aI,Grow A w aI w2/\dx w2 ad aI (t.grow n)) (λw2 h=>⟨rfl,h⟩) ?_;intro au B;refine aT (λv w2=>v= .bool (decide (0<n))/\J=w2) ?_ ?_
 rotate_left
 .intro ac V;rw[zu pS.u];simp only[Z7,V0,bO];rw[bS];refine V _ _ ⟨?_,rfl⟩;congr 1;rw[U1,decide_eq_true_eq,decide_eq_true_eq];omega
 rintro _ _ ⟨rfl,rfl⟩;rw[ah];refine⟨λC=>?_,λC=>B _ ⟨A,Grow.ext f,?_⟩⟩
 rotate_left
 .have:n=0:=Ω
  subst this;have e:t.grow 0=t:=by unfold aC.grow;simp
  rw[e];exact h.ext f
 obtain⟨E,aj,go,dg,aY,G,dL,h1,H,I,K,j⟩:=id (h.ext f);rw[aO fx.p 0 h1 rfl];obtain⟨⟨W,X,Y⟩,L,ak⟩:=tj h1 H I K;have al:=S.1;refine M8 (k:=2) (m:=n) rfl h8.u ag.u eG.i rfl Ω (λu hu=>?_) H.1 C Ω Ω λs M w2 N Z O=>?_
 .exact Cx Φ Φ u hu
 rw[bW,aP fx.p rfl];have q:bg iq 2 eG w2 M s (t.cells++p9 n ⟨0,0⟩):=by
  refine⟨?_,λ_ _=>rfl⟩;have e:(x1.agg #[Δ 0,.int .u64 0]).cells= #[Δ 0,.int .u64 0]:=rfl;rw[e,CP] at N;rw[p8,List.length_replicate,List.flatMap_append];exact N
 have P:=h1.U O W;refine bo h8.i (eL q.sl).1 (eL q.sl).2 P Ξ λQ R am x=>?_;have x:aa Q ad fx [s,G,dL,.int .u64 (t.iJ:Int)]:=x;have y:ae (λr=>leadsTo aY r\/r=ad) J Q:=(O.mono λr _ h=>.inl h).trans (R.mono λr _ h=>.inr h);have z:=f.size;refine B _ ⟨λr=>A r\/J.heap.size<=r,(Grow.ext f).trans ⟨y.mono λr _ he=>he.elim (λhe=>j r (.inl he)) λhe=>he▸E,λr a=>a,λr a=>.inl a⟩,.inl E,M,go,dg,s,G,dL,x,q.U R λr a he=>?_,I.U y λr a he=>he.elim (λhe=>(L r he).1 a) λhe=>X (he▸a),K.U y λr a he=>he.elim (λhe=>(L r he).2 a) λhe=>Y (he▸a),λr a=>?_⟩
 .have he:r=ad:=he;subst he;exact cQ q P Φ a
 .rcases a with a|a|a
  .exact (Z r a).imp (λh=>j r (.inl h)) id
  .exact .inl (j r (.inr (.inl a)))
  .exact .inl (j r (.inr (.inr a)))
theorem Nb (s:n<=1000):ai x7 GQ [Δ (n:Int)] w λv w'=>Ext w w'/\ ∃ad,v=Γ ad/\dx w' ad (eI w.heap.size) ⟨p9 n ⟨0,0⟩,[],[],0⟩:=by
 refine aw func96 ?_;rw[vc,Int.max_eq_left Ω];refine zB (k:=2) h8.u eG.i Ω Ω λg J x h f=>?_;rw[dq (cs:=#[.slice (σ ⟨g,0,ν⟩) n n,.slice ν 0 0,.slice ν 0 0,.int .u64 0]) Ψ];refine bn λad w2 y j q=>?_;have z:=h.size;have e:(x1.agg #[Δ 0,.int .u64 0]).cells= #[Δ 0,.int .u64 0]:=rfl;have f:aa J g eG ((p9 n (⟨0,0⟩:Cell)).flatMap iq):=by rw[<-CP,<-e];exact f
 have p:bg iq 2 eG J g (.slice (σ ⟨g,0,ν⟩) n n) (p9 n ⟨0,0⟩):=by
  refine⟨?_,λ_ _=>rfl⟩;rw[List.length_replicate];exact bV.full f (by simp[iq]) (by simp[maxLen];omega)
 refine⟨h.trans j,ad,rfl,by show w.heap.size<=ad;omega,g,0,0,_,_,_,q,p.ext j,bg.nil _ _ _ _ _,bg.nil _ _ _ _ _,λr a=>?_⟩;rcases a with a|a|a
 .have:=(p.leads a).1;show w.heap.size<=r;omega
 .exact (e7 a).elim
 .exact (e7 a).elim
theorem nw {α β:Type} {f:α->List β}:∀ {L:List α} {i j:Nat} {a:α},L[i]? =σ a->j<(f a).length->(L.flatMap f)[((L.take i).flatMap f).length+j]? =(f a)[j]?
 |x::L,0,j,a,h,e=>by
  cases h;rw[List.take_zero,List.flatMap_nil,List.length_nil,W0,X2,Y8 e]
 |x::L,i+1,j,a,h,e=>by
  have h:L[i]? =σ a:=by simpa using h
  rw[List.take_succ_cons,X2,X2,p8,R7,X1 Ω,R8,nw h e]
theorem wo {α β:Type} {f:α->List β}:∀ {L:List α} {i j:Nat} {a b:α} {x:β},L[i]? =σ a->j<(f a).length->f b=(f a).set j x->(L.flatMap f).set (((L.take i).flatMap f).length+j) x=(L.set i b).flatMap f
 |y::L,0,j,a,b,x,h,e,p=>by
  cases h;rw[List.take_zero,List.flatMap_nil,List.length_nil,W0,X2,List.set_cons_zero,X2,p,List.set_append_left _ _ e]
 |y::L,i+1,j,a,b,x,h,e,p=>by
  have h:L[i]? =σ a:=by simpa using h
  rw[List.take_succ_cons,X2,X2,p8,R7,T8 _ _ Ω,R8,wo h e p,List.set_cons_succ,X2]
theorem CQ {α β:Type} {f:α->List β} {L:List α} {i:Nat} {a:α} (h:L[i]? =σ a) (e:j<(f a).length):((L.take i).flatMap f).length+j<(L.flatMap f).length:=by
 have h1:=nw (f:=f) h e;rw[x6 e] at h1;exact (x4.1 h1).1
structure bl where
 gone:Int
 mask:Int
 un:Λ
structure b3 where
 sc:Λ
 ac:Λ
 live:Int
 cs:Λ
structure pf where
 v:Int
 sc:Λ
 hd:Λ
structure aq where
 zero:Int
 vars:List bl
 funs:List b3
 ce:List pf
def hF (x:bl):Λ:=x.gone::x.mask::x.un
def h2 (x:b3):Λ:=x.live::x.cs
def iU (s:aq):Λ:=[s.zero,(s.funs.length:Int),(s.ce.length:Int)]
def aq.cells (s:aq):Λ:=iU s++(s.vars.flatMap hF++s.funs.flatMap h2)
def e8 (s:aq) (i:Nat):Nat:=3+((s.vars.take i).flatMap hF).length
def e9 (s:aq) (j:Nat):Nat:=3+((s.vars.flatMap hF).length+((s.funs.take j).flatMap h2).length)
theorem Nc (s:aq):s.cells[0]? =σ s.zero:=rfl
theorem pg {s:aq} {i:Nat} {x:bl} (h:s.vars[i]? =σ x) (e:j<x.un.length+2):s.cells[e8 s i+j]? =(hF x)[j]?:=by
 have a:j<(hF x).length:=e;unfold aq.cells e8;rw[R7,X1 (by simp[iU]),show (iU s).length=3 from rfl,R8,Y8 (CQ h a),nw h a]
theorem wp {s:aq} {i:Nat} {x:b3} (h:s.funs[i]? =σ x) (a:j<x.cs.length+1):s.cells[e9 s i+j]? =(h2 x)[j]?:=by
 have e:j<(h2 x).length:=a;unfold aq.cells e9;rw[R7,R7,X1 (by simp[iU]),show (iU s).length=3 from rfl,R8,X1 Ω,R8,nw h e]
theorem Nd (s:aq) (c:Int):s.cells.set 0 c=({s with zero:=c}:aq).cells:=rfl
theorem CR {s:aq} {i:Nat} {x y:bl} {c:Int} (h:s.vars[i]? =σ x) (e:j<x.un.length+2) (f:hF y=(hF x).set j c):s.cells.set (e8 s i+j) c=({s with vars:=s.vars.set i y}:aq).cells:=by
 have a:j<(hF x).length:=e;unfold aq.cells e8;rw[R7,T8 _ _ (by simp[iU]),show (iU s).length=3 from rfl,R8,List.set_append_left _ _ (CQ h a),wo h a f];rfl
theorem Nf {s:aq} {i:Nat} {x y:b3} {c:Int} (h:s.funs[i]? =σ x) (a:j<x.cs.length+1) (e:h2 y=(h2 x).set j c):s.cells.set (e9 s i+j) c=({s with funs:=s.funs.set i y}:aq).cells:=by
 have f:j<(h2 x).length:=a;unfold aq.cells e9;rw[R7,R7,T8 _ _ (by simp[iU]),show (iU s).length=3 from rfl,R8,T8 _ _ Ω,R8,wo h f e];show _=iU {s with funs:=s.funs.set i y}++_;unfold iU;rw[Z5]
theorem Ng {s:aq} (x:b3):(s.cells++h2 x).set 1 ((s.funs.length+1:Nat):Int)=({s with funs:=s.funs++[x]}:aq).cells:=by
 unfold aq.cells;simp only[List.flatMap_append,List.flatMap_singleton,iU,p8,U3,c9];rfl
theorem wq (s:aq):s.cells.length=3+((s.vars.flatMap hF).length+(s.funs.flatMap h2).length):=by
 unfold aq.cells;rw[p8,p8];rfl
def qJ (a sc:Λ):Λ:=sc.map λv=>a.getD v.toNat 0
def qK (k:Int) (a:Int) (p:bl×Int):Int:=if p.1.gone≠0 then a else min (a+p.1.un.getD p.2.toNat 0) k
def qL (k:Int) (a:Λ) (e:Int) (f:b3):Int:=if f.live≠0 then min (e+ba f.ac f.cs (qJ a f.sc)) k else e
def dropped (mask:Int) (v:Int):Bool:=mask.toNat.testBit v.toNat
def ir (p:bl×Int):Bool:=decide (p.1.gone≠0)|| !dropped p.1.mask p.2
def hf (k:Int) (s:aq) (a:Λ):Int:=if (s.vars.zip a).all ir then s.funs.foldl (qL k a) ((s.vars.zip a).foldl (qK k) s.zero) else k
def lh (s:aq) (a:Λ):Prop:=a.length=s.vars.length/\ ∀ (i:Nat) x v,s.vars[i]? =σ x->a[i]? =σ v->x.gone≠0\/(0<=v/\v<x.un.length)
structure br (k:Int) (sizes:Λ) (s:aq):Prop where
 fV:1<=k/\k<=2147483648
 e1:1<=sizes.length/\sizes.length<=64/\ ∀z∈sizes,1<=z/\z<=32
 zero:0<=s.zero/\s.zero<=k
 vars:s.vars.length=sizes.length
 var:∀ (i:Nat) x z,s.vars[i]? =σ x->sizes[i]? =σ z->x.un.length=z.toNat/\(∀c∈x.un,0<=c/\c<=k)/\0<=x.mask/\x.mask<4294967296
 funs:∀f∈s.funs,fG sizes k (f.sc,f.cs)/\f.ac=bP sizes f.sc/\2<=f.sc.length
def newVar (u:Λ):bl:=⟨0,0,u⟩
def kx (sizes:Λ) (g:cz):b3:=⟨g.1,bP sizes g.1,1,g.2⟩
def dj (n:aS):aq:=⟨n.zero,n.unary.map newVar,n.funs.map (kx n.sizes),[]⟩
theorem Nh {n:aS} (h:jR n):br n.k n.sizes (dj n):=by
 refine⟨h.k,h.sizes,h.zero,by simp[dj,h.kw],λi x z a j=>?_,λf p=>?_⟩
 .have a:(n.unary.map newVar)[i]? =σ x:=a;rw[x8] at a;obtain⟨u,hu,rfl⟩:=X3.1 a;obtain⟨h1,e⟩:=h.unary i z u j hu;exact⟨h1,e,Int.le_refl _,by show (0:Int)<_;omega⟩
 .obtain⟨g,q,rfl⟩:=l7.1 p;obtain⟨h1,e⟩:=h.funs g q;exact⟨h1,rfl,e⟩
theorem wr {n:aS} (h:fU w a n):ai x7 GS [Γ a] w λv w'=>v=Δ (n.sizes.length:Int)/\Ext w w':=by
 obtain⟨j,q,r,s,gr,aR,L,nm,szv,gz,fv2,h1,e,f,x,y,z,A⟩:=h;refine aw func99 ?_;rw[dp mi.u];simp only[Z7,aW];rw[aO fw.p 0 h1 rfl,aO cD.p 2 e rfl,aX al.u f.ls];exact⟨rfl,Ext.refl _⟩
theorem Ni {n:aS} (h:fU w a n):ai x7 Hi [Γ a] w λv w'=>v=Δ n.k/\Ext w w':=by
 obtain⟨f,j,q,r,gr,aR,L,nm,szv,gz,fv2,h1,e,s,x,y,z,A⟩:=h;refine aw func129 ?_;rw[dp mi.u];simp only[Z7,aW];rw[aO fw.p 0 h1 rfl,aO cD.p 1 e rfl];exact⟨rfl,Ext.refl _⟩
theorem Nj {n:aS} (h:fU w a n):ai x7 GR [Γ a] w λv w'=>v=Δ n.zero/\Ext w w':=by
 obtain⟨e,f,j,q,gr,aR,L,nm,szv,gz,fv2,h1,r,s,x,y,z,A⟩:=h;refine aw func98 ?_;rw[dp mi.u];simp only[Z7,aW];rw[aO fw.p 1 h1 rfl];exact⟨rfl,Ext.refl _⟩
theorem CS {n:aS} (h:fU w a n):ai x7 y7 [Γ a] w λv w'=>v=Δ (n.funs.length:Int)/\Ext w w':=by
 obtain⟨j,q,r,s,gr,aR,L,nm,szv,gz,fv2,h1,x,y,z,A,e,f⟩:=h;refine aw func102 ?_;rw[dp mi.u];simp only[Z7,aW];rw[aO fw.p 3 h1 rfl,eA kR.u e.1];exact⟨by rw[<-f,u7],Ext.refl _⟩
theorem CT {s:Nat} {n:aS} {i:Int} (h:fU w s n) (f:jR n):ai x7 GU [Γ s,Δ i] w λv w'=>Ext w w'/\(¬(0<=i/\i<n.sizes.length)->v= .slice ν 0 0)/\
  ∀u,0<=i->n.unary[i.toNat]? =σ u-> ∃g,w.heap.size<=g/\ap .i64 ak w' g v u:=by
 refine aw func100 ?_;have K:=f.kw;refine aT (λv J=>v= .bool (decide (¬(0<=i/\i<n.sizes.length)))/\Ext w J) ?_ ?_
 .rintro _ J ⟨rfl,e⟩;rw[ah];refine⟨λC=>⟨e,λ_=>rfl,λu E hu=>?_⟩,λj=>?_⟩
  .have:=(x4.1 hu).1;exact absurd ⟨E,Ω⟩ C
  have j:0<=i/\i<n.sizes.length:=Y7.1 j;obtain⟨M,N,O,P,gr,aR,L,nm,szv,gz,fv2,h1,Q,R,q,x,S,U⟩:=h.ext e;have V:aR.length=n.unary.length:=by rw[<-x,u7]
  obtain⟨a,r⟩:=aE (l:=aR) (i:=i.toNat) Ω;obtain⟨W,hm⟩:=q.2 a (x5 r);rw[aO fw.p 2 h1 rfl,db (i:=i.toNat) Ω dn.u an.i q.1 Ω,aB (o:=i.toNat*1) Ψ (q.1.range r 0 _ rfl)];have y:n.unary[i.toNat]? =σ a.l:=by rw[<-x,x8,r];rfl
  have X:a.l.length<=32:=by
   obtain⟨z,A⟩:=aE (l:=n.sizes) (i:=i.toNat) Ω;have Y:=(f.unary i.toNat z a.l A y).1;have Z:=f.sizes.2.2 z (x5 A);omega
  refine (vh hm.ls Ω).mono ?_;rintro v w2 _ ⟨G,g,aa,H⟩;refine⟨e.trans G,λI=>absurd j I,λu _ hu=>⟨g,by have:=e.size;omega,?_⟩⟩;rw[y] at hu;cases hu;exact H
 .intro au B;rw[aQ,ah];refine⟨λab=>B _ _ ⟨by rw[decide_eq_true];omega,Ext.refl _⟩,λac=>?_⟩;refine (wr h).mono ?_;rintro _ J _ ⟨rfl,e⟩;rw[cU];refine B _ _ ⟨?_,e⟩;congr 1;rw[U1,decide_eq_true_eq,decide_eq_true_eq];omega
theorem CU {n:aS} {i:Int} (h:fU w j n) (a:jR n):ai x7 G6 [Γ j,Δ i] w λv w'=>Ext w w'/\v=Δ (if 0<=i then n.sizes.getD i.toNat 0 else 0):=by
 refine aw func114 ?_;refine (CT h a).mono ?_;rintro v J _ ⟨p,r,s⟩;by_cases e:0<=i/\i<n.sizes.length
 .have x:=a.kw;obtain⟨u,hu⟩:=aE (l:=n.unary) (i:=i.toNat) Ω;obtain⟨z,f⟩:=aE (l:=n.sizes) (i:=i.toNat) Ω;obtain⟨g,_,hm⟩:=s u e.1 hu;rw[aX an.u hm.ls];refine⟨p,?_⟩;have y:=(a.unary i.toNat z u f hu).1;have A:=a.sizes.2.2 z (x5 f);rw[if_pos e.1,u4,f];congr 1;simp only[V8];omega
 .rw[r e,h9 an.u];refine⟨p,?_⟩;by_cases q:0<=i
  .rw[if_pos q,u4,Z4 Ω];rfl
  .rw[if_neg q];rfl
theorem CV {n:aS} {j:Int} (h:fU w a n) {K:x1->x3->Prop} (f:∀w',Ext w w'->K (.bool (decide (¬(0<=j/\j<n.funs.length)))) w'):
  V x7 (aJ .lss ag false true (Δ j) (Δ 0)) w λq=>Split q (K (.bool true) w) (ai x7 y7 [Γ a] w λr p=>V x7 (aJ .geq ag false false (Δ j) r) p λs=>K s p):=by
 rw[aQ,ah];refine⟨λy=>?_,λz=>?_⟩
 .have:=f w (Ext.refl _);rw[decide_eq_true (show ¬(0<=j/\j<n.funs.length) by omega)] at this;exact this
 .refine (CS h).mono ?_;rintro _ J _ ⟨rfl,x⟩;rw[cU];have:=f J x;have e:decide ((n.funs.length:Int)<=j)=decide (¬(0<=j/\j<n.funs.length)):=by
   rw[U1,decide_eq_true_eq,decide_eq_true_eq];omega
  rw[<-e] at this;exact this
theorem Nk {s:Nat} {n:aS} {g:cz} (h:fU w s n) (z:jR n) (e:n.funs[j]? =σ g):ai x7 GW [Γ s,Δ (j:Int)] w λv w'=>Ext w w'/\ ∃gs,w.heap.size<=gs/\ap .i64 ag w' gs v g.1:=by
 refine aw func104 ?_;have G:=(x4.1 e).1;refine aT (λv J=>v= .bool (decide (¬(0<=(j:Int)/\(j:Int)<n.funs.length)))/\Ext w J) ?_ λau A=>CV h λw' B=>A _ _ ⟨rfl,B⟩;rintro _ J ⟨rfl,f⟩;rw[decide_eq_false Ω,aW];obtain⟨H,I,K,M,gr,aR,L,nm,szv,gz,fv2,h1,N,O,P,Q,q,x⟩:=h.ext f;have R:L.length=n.funs.length:=by rw[<-x,u7]
 obtain⟨a,r⟩:=aE (l:=L) (i:=j) Ω;have y:dV a=g:=by rw[<-x,x8,r] at e;exact c7 e
 obtain⟨⟨S,hm⟩,_⟩:=q.2 a (x5 r);rw[aO fw.p 3 h1 rfl,db rfl kR.u hv.i q.1 Ω,aP hv.p rfl,aB Ψ (q.1.range r 0 _ rfl)];have U:a.sc.length<=6:=by
  have:=(z.funs g (x5 e)).1.scope.2;rw[<-y] at this;exact this
 refine (kY hm.ls Ω).mono ?_;rintro v w2 _ ⟨C,gs,V,E⟩;refine⟨f.trans C,gs,by have:=f.size;omega,?_⟩;rw[<-y];exact E
theorem Nl {g C:Nat} {ac:Λ} {k:Int} {cs:Λ} (h:dd w g C sv ac k cs):ai x7 HO [Γ g] w λv w'=>Ext w w'/\ ∃a e,v=Γ a/\w.heap.size<=a/\w.heap.size<=e/\dd w' a e sv ac k cs:=by
 obtain⟨⟨aY,gs,E,hm,G⟩,⟨h1,M,H⟩,I,y⟩:=h;refine aw func172 ?_;rw[dp eQ.u];simp only[Z7,aW];intro J f _ _;have r:=E.ext f;have N:=prod_bound I;rw[bW,aP cX.p rfl,bx (cs:=[sv]) bA.p bA.i rfl (nC r (by
  intro j v s
  match j,s with
  |0,s=>exact s)),aO cX.p 1 r rfl,aO cX.p 2 r rfl]
 refine (vh (G.ls.ext f) Ω).mono ?_;rintro z w2 _ ⟨x,e,O,q⟩;refine⟨.inl x,?_⟩;rw[dq (cs:=#[sv,Δ k,z]) (by obtain⟨_,_,_,rfl⟩:=du hm.ls;obtain⟨_,_,_,rfl⟩:=du q.ls;kernel_rfl)];refine bn λa P Q A K=>?_;have R:=f.size;have S:=x.size;have U:=q;have B:=(f.trans x).trans A;refine⟨B,a,e,rfl,Ω,Ω,⟨z,gs,K,hm.ext B,q.ext A⟩,⟨?_,?_,H⟩,I,y⟩
 .have:=s3 q (by rw[y];omega);omega
 .intro L;obtain⟨V,W⟩:=bU hm L;omega
theorem Nn {w0:x3} {z:Nat} {n:aS} {g:cz} (A:fU w0 z n) (B:Ext w0 w) (f:n.funs[j]? =σ g):ai x7 GX [Γ z,Δ (j:Int)] w λv w'=>Ext w w'/\ ∃gt q sv,v=Γ gt/\w.heap.size<=gt/\w.heap.size<=q/\dd w' gt q sv (bP n.sizes g.1) n.k g.2/\ ∀r,leads sv r-> ∃c,aa w0 r ag c:=by
 have h:=A.ext B;refine aw func105 ?_;have V:=(x4.1 f).1;refine aT (λv J=>v= .bool (decide (¬(0<=(j:Int)/\(j:Int)<n.funs.length)))/\Ext w J) ?_ λau I=>CV h λw' K=>I _ _ ⟨rfl,K⟩;rintro _ J ⟨rfl,s⟩;rw[decide_eq_false Ω,aW];have e:=B.trans s;obtain⟨W,X,Y,Z,gr,aR,L,nm,szv,gz,fv2,h1,ab,ac,ad,ae,x,C⟩:=A;have af:L.length=n.funs.length:=by rw[<-C,u7]
 obtain⟨a,y⟩:=aE (l:=L) (i:=j) Ω;have M:dV a=g:=by rw[<-C,x8,y] at f;exact c7 f
 obtain⟨_,q,N,E⟩:=x.2 a (x5 y);rw[aO fw.p 3 (h1.ext e) rfl,db rfl kR.u hv.i (x.1.ext e) Ω,aP hv.p rfl,aB Ψ ((x.1.ext e).range y 1 _ rfl)];refine (Nl (E.ext e)).mono ?_;rintro v w2 _ ⟨O,gt,P,rfl,ah,aj,Q⟩;have ak:=s.size;refine⟨s.trans O,gt,P,N,rfl,Ω,Ω,?_,λr G=>?_⟩
 .rw[<-M];exact Q
 .obtain⟨⟨_,_,_,hm,_⟩,_⟩:=E;obtain⟨R,_⟩:=bU hm G;rcases hm.2 with⟨S,_⟩|⟨_,cs,_,U,_⟩
  .obtain⟨_,_,_,H,al⟩:=G;rw[S] at H;cases H
  .exact⟨cs,R▸U⟩
structure ph where
 aD:x1
 szv:x1
 at_:Nat
def lY (x:ph):List x1:=[x.aD,x.szv,Δ (x.at_:Int)]
structure qM where
 v:Int
 aD:x1
 bv:x1
def ws (x:qM):List x1:=[Δ x.v,x.aD,x.bv]
def iu (s:aq):Λ:=(V6 s.vars.length).map λi=>(e8 s i:Int)
def iV (R:af) (w:x3) (v:x1) (l:Λ):Prop:=(∃g,ap .i64 ag w g v l)/\ ∀r,leads v r->R r
theorem iV.ls {R:af} (h:iV R w v l):aF .i64 w v l:=by
 obtain⟨⟨g,h⟩,_⟩:=h;exact h.ls
theorem iV.U {R S:af} (h:iV R w v l) (f:ae S w w') (j:∀r,r<w.heap.size->R r->¬S r):iV R w' v l:=by
 obtain⟨⟨g,h1⟩,a⟩:=h;exact⟨⟨g,bq h1 f λr e=>j r (by obtain⟨p,q⟩:=bU h1 e;omega) (a r e)⟩,a⟩
theorem iV.mono {R R':af} (h:iV R w v l) (a:∀r,R r->R' r):iV R' w v l:=⟨h.1,λr e=>a r (h.2 r e)⟩
def lj (R:af) (w:x3) (L:List ph) (s:aq):Prop:=L.length=s.funs.length/\ ∀ (j:Nat) x f,L[j]? =σ x->s.funs[j]? =σ f->iV R w x.aD f.sc/\iV R w x.szv f.ac/\x.at_=e9 s j
def lZ (R:af) (w:x3) (E:List qM) (s:aq):Prop:=E.length=s.ce.length/\ ∀ (j:Nat) x e,E[j]? =σ x->s.ce[j]? =σ e->x.v=e.v/\iV R w x.aD e.sc/\iV R w x.bv e.hd
theorem lj.U {R S:af} {L:List ph} {s:aq} (h:lj R w L s) (a:ae S w w') (e:∀r,r<w.heap.size->R r->¬S r):lj R w' L s:=⟨h.1,λj x f p q=>by
 obtain⟨h1,y,z⟩:=h.2 j x f p q;exact⟨h1.U a e,y.U a e,z⟩⟩
theorem lZ.U {R S:af} {E:List qM} {s:aq} (h:lZ R w E s) (a:ae S w w') (e:∀r,r<w.heap.size->R r->¬S r):lZ R w' E s:=⟨h.1,λj x f p q=>by
 obtain⟨h1,y,z⟩:=h.2 j x f p q;exact⟨h1,y.U a e,z.U a e⟩⟩
theorem lj.mono {R R':af} {L:List ph} {s:aq} (h:lj R w L s) (a:∀r,R r->R' r):lj R' w L s:=⟨h.1,λj x f e p=>by
 obtain⟨h1,q,y⟩:=h.2 j x f e p;exact⟨h1.mono a,q.mono a,y⟩⟩
theorem lZ.mono {R R':af} {E:List qM} {s:aq} (h:lZ R w E s) (a:∀r,R r->R' r):lZ R' w E s:=⟨h.1,λj x f e p=>by
 obtain⟨h1,q,y⟩:=h.2 j x f e p;exact⟨h1,q.mono a,y.mono a⟩⟩
theorem tm {a b c:x3} (h:Ext a b) (k:ae S b c) (f:∀r o,a.heap[r]? =σ o->fs o=true->¬S r):Ext a c:=
 ⟨X0 h.size k.size,λr o e I=>k.aV r o (h.aV r o e I) I (f r o e I)⟩
theorem dx.cut {A:af} {t:aC} (h:dx w ad A t):dx w ad (λr=>A r/\r<w.heap.size) t:=by
 obtain⟨s,x,go,dg,aY,y,dL,h1,e,f,j,z⟩:=h;refine⟨⟨s,h1.lt⟩,x,go,dg,aY,y,dL,h1,e,f,j,λr a=>⟨z r a,?_⟩⟩;rcases a with a|a|a
 .obtain⟨p,q⟩:=e.leads a;omega
 .obtain⟨p,q⟩:=f.leads a;omega
 .obtain⟨p,q⟩:=j.leads a;omega
def eM (w:x3) (ab ad j:Nat) (e f h:x1) (A R:af) (n:aS) (s:aq) (t:aC):Prop:=
 (A ab/\(∀r,A r->¬R r)/\(∀r,R r->r<w.heap.size)/\ ∀r,A r->r<w.heap.size)/\ ∃a7 p ge,∃ (L:List ph) (E:List qM) (a:af) (w0:x3),
  aa w ab ct [Γ j,Γ ad,e,f,h]/\(fU w0 j n/\Ext w0 w/\ ∀r o,w0.heap[r]? =σ o->fs o=true->R r)/\
  (dx w ad a t/\(∀r,a r->A r)/\¬a ab/\ ∀r,leads e r\/leadsTo f r\/leadsTo h r->A r/\¬a r)/\ap .i64 ag w a7 e (iu s)/\
  (bg lY 3 dQ w p f L/\lj R w L s)/\bg ws 3 gf w ge h E/\lZ R w E s
theorem eM.U {S:af} {y:Nat} {B C F:x1} {A R:af} {n:aS} {s:aq} {t:aC} (h:eM w ab ad y B C F A R n s t) (e:ae S w w') (f:∀r,r<w.heap.size->A r\/R r->¬S r):eM w' ab ad y B C F A R n s t:=by
 obtain⟨⟨h1,j,W,X⟩,a7,Y,ge,L,E,Z,w0,G,⟨aa,H,J⟩,⟨ac,p,ag,q⟩,K,⟨M,ah⟩,N,ai⟩:=h;have z:=e.size;refine⟨⟨h1,j,λr a=>by have:=W r a;omega,λr a=>by have:=X r a;omega⟩,a7,Y,ge,L,E,Z,w0,G.U e (f _ G.lt (.inl h1)),⟨aa,tm H e λr o a aj I=>f r (by have:=H.size;have:=(j0.1 a).1;omega) (.inr (J r o a aj)) I,J⟩,
  ⟨?_,p,ag,q⟩,bq K e λr a I=>f r ?_ (.inl (q r (.inl a)).1) I,⟨M.U e λr a I=>f r ?_ (.inl (q r (.inr (.inl a))).1) I,ah.U e λr a h=>f r a (.inr h)⟩,N.U e λr a I=>f r ?_ (.inl (q r (.inr (.inr a))).1) I,ai.U e λr a h=>f r a (.inr h)⟩
 .obtain⟨O,ak,go,dg,aY,al,dL,P,Q,T,V,x⟩:=ac;refine⟨O,ak,go,dg,aY,al,dL,P.U e (f _ P.lt (.inl (p _ O))),Q.U e λr a I=>?_,T.U e λr a I=>?_,V.U e λr a I=>?_,x⟩
  .exact f r (by obtain⟨h1,j⟩:=Q.leads a;omega) (.inl (p _ (x r (.inl a)))) I
  .exact f r (by obtain⟨h1,j⟩:=T.leads a;omega) (.inl (p _ (x r (.inr (.inl a))))) I
  .exact f r (by obtain⟨h1,j⟩:=V.leads a;omega) (.inl (p _ (x r (.inr (.inr a))))) I
 .obtain⟨h1,j⟩:=bU K a;omega
 .obtain⟨h1,j⟩:=M.leads a;omega
 .obtain⟨h1,j⟩:=N.leads a;omega
theorem eM.ext {e f j:x1} {A R:af} {n:aS} {s:aq} {t:aC} (h:eM w ab ad a e f j A R n s t) (p:Ext w w'):eM w' ab ad a e f j A R n s t:=h.U (p.U λ_=>False) λ_ _ _ h=>h
theorem eM.qN {C:Nat} {F G H:x1} {A R:af} {n:aS} {s:aq} {t:aC} (h:eM w ab ad C F G H A R n s t):∃q,dx w ad q t/\ ∀p w' bp,Grow q w p w'->dx w' ad p bp-> ∃aI,Grow A w aI w'/\eM w' ab ad C F G H aI R n s bp:=by
 obtain⟨⟨h1,f,J,K⟩,a7,X,ge,L,E,q,w0,M,⟨Y,Z,N⟩,⟨aa,j,O,x⟩,P,⟨Q,ac⟩,S,ae⟩:=h;refine⟨q,aa,λT w' bp y ag=>?_⟩;have V:=ag.cut;have e:Grow q w (λr=>T r/\r<w'.heap.size) w':=⟨y.1,λr a=>y.2.1 r a.1,λr a=>⟨y.2.2 r a,by have:=K r (j r a);have:=y.1.size;omega⟩⟩;obtain⟨p,W⟩:∃B:af,B=λr=>T r/\r<w'.heap.size:=⟨_,rfl⟩;rw[<-W] at V e;have ah:∀r,p r->r<w'.heap.size:=λr h=>by rw[W] at h;exact h.2
 refine⟨λr=>A r\/p r,⟨e.1.mono λr _ a=>j r a,λr a=>?_,λr a=>.inl a⟩,⟨.inl h1,λr a z=>?_,λr a=>?_,λr a=>?_⟩,a7,X,ge,L,E,p,w0,M.U e.1 O,⟨Y,tm Z e.1 λr o a ai I=>f r (j r I) (N r o a ai),N⟩,
  ⟨V,λr a=>.inr a,λa=>?_,λr a=>⟨.inl (x r a).1,λaj=>?_⟩⟩,bq P e.1 λr a I=>(x r (.inl a)).2 I,⟨Q.U e.1 λr a I=>(x r (.inr (.inl a))).2 I,ac.U e.1 λr _ a I=>f r (j r I) a⟩,S.U e.1 λr a I=>(x r (.inr (.inr a))).2 I,ae.U e.1 λr _ a I=>f r (j r I) a⟩
 .rcases a with a|a
  .exact .inl a
  .exact (e.2.1 r a).imp (j r) id
 .have:=J r z;rcases a with a|a
  .exact f r a z
  .rcases e.2.1 r a with h|h
   .exact f r (j r h) z
   .omega
 .have:=J r a;have:=e.1.size;omega
 .rcases a with a|a
  .have:=K r a;have:=e.1.size;omega
  .exact ah r a
 .rcases e.2.1 _ a with h|h
  .exact O h
  .have:=M.lt;omega
 .rcases e.2.1 r aj with h|h
  .exact (x r a).2 h
  .rcases a with a|a|a
   .obtain⟨h1,f⟩:=bU P a;omega
   .obtain⟨h1,f⟩:=Q.leads a;omega
   .obtain⟨h1,f⟩:=S.leads a;omega
def StateM (w:x3) (ab ad:Nat) (A R:af) (n:aS) (s:aq) (t:aC):Prop:=∃a e f h,eM w ab ad a e f h A R n s t
theorem StateM.U {S:af} {A R:af} {n:aS} {s:aq} {t:aC} (h:StateM w ab ad A R n s t) (a:ae S w w') (e:∀r,r<w.heap.size->A r\/R r->¬S r):StateM w' ab ad A R n s t:=by
 obtain⟨f,j,p,q,h⟩:=h;exact⟨f,j,p,q,h.U a e⟩
theorem StateM.ext {A R:af} {n:aS} {s:aq} {t:aC} (h:StateM w ab ad A R n s t) (a:Ext w w'):StateM w' ab ad A R n s t:=h.U (a.U λ_=>False) λ_ _ _ h=>h
theorem StateM.qN {A R:af} {n:aS} {s:aq} {t:aC} (h:StateM w ab ad A R n s t):∃a,dx w ad a t/\ ∀e w' bp,Grow a w e w'->dx w' ad e bp-> ∃aI,Grow A w aI w'/\StateM w' ab ad aI R n s bp:=by
 obtain⟨f,j,p,q,h⟩:=h;obtain⟨a,h1,r⟩:=h.qN;exact⟨a,h1,λe w' bp x y=>by
  obtain⟨aI,z,B⟩:=r e w' bp x y;exact⟨aI,z,f,j,p,q,B⟩⟩
def n0 (s s':aq):Prop:=iu s'=iu s/\s'.funs.length=s.funs.length/\(∀ (j:Nat) a,s'.funs[j]? =σ a-> ∃f,s.funs[j]? =σ f/\a.sc=f.sc/\a.ac=f.ac/\e9 s' j=e9 s j)/\s'.ce=s.ce
theorem eM.same {e p q:x1} {A R:af} {n:aS} {s s':aq} {t:aC} (h:eM w ab ad a e p q A R n s t) (I:n0 s s'):eM w ab ad a e p q A R n s' t:=by
 obtain⟨ay,a7,y,ge,L,E,z,w0,B,C,F,G,⟨H,r⟩,J,K⟩:=h;obtain⟨M,N,O,P⟩:=I;refine⟨ay,a7,y,ge,L,E,z,w0,B,C,F,by rw[M];exact G,⟨H,r.1.trans N.symm,λj x Q S T=>?_⟩,J,?_⟩
 .obtain⟨f,U,V,W,X⟩:=O j Q T;rw[V,W,X];exact r.2 j x f S U
 .unfold lZ;rw[P];exact K
theorem StateM.same {A R:af} {n:aS} {s s':aq} {t:aC} (h:StateM w ab ad A R n s t) (I:n0 s s'):StateM w ab ad A R n s' t:=by
 obtain⟨a,e,f,j,h⟩:=h;exact⟨a,e,f,j,h.same I⟩
theorem tn {α β:Type} {f:α->List β}:∀ {L:List α} {i j:Nat} {a b:α},L[i]? =σ a->(f b).length=(f a).length->(((L.set i b).take j).flatMap f).length=((L.take j).flatMap f).length
 |[],_,_,_,_,h,_=>by simp at h
 |x::L,0,j,a,b,h,e=>by
  cases h;cases j with
  |zero=>rfl
  |succ j=>simp[e]
 |x::L,i+1,j,a,b,h,e=>by
  have h:L[i]? =σ a:=by simpa using h
  cases j with
  |zero=>rfl
  |succ j=>
   rw[List.set_cons_succ,List.take_succ_cons,List.take_succ_cons,X2,X2,p8,p8,tn h e]
theorem CW (s:aq) (c:Int):n0 s {s with zero:=c}:=⟨rfl,rfl,λj f h=>⟨f,h,rfl,rfl,rfl⟩,rfl⟩
theorem CX {s:aq} {i:Nat} {x y:bl} (a:s.vars[i]? =σ x) (p:y.un.length=x.un.length):n0 s {s with vars:=s.vars.set i y}:=by
 have e:(hF y).length=(hF x).length:=by simp[hF,p]
 refine⟨?_,rfl,λj f h=>⟨f,h,rfl,rfl,?_⟩,rfl⟩
 .unfold iu;rw[show ({s with vars:=s.vars.set i y}:aq).vars.length=s.vars.length from Z5];apply List.map_congr_left;intro j _;unfold e8;rw[tn a e]
 .unfold e9;have:=tn (j:=s.vars.length) a e;rw[o9 Ξ,o9 (o4 _)] at this;show 3+(((s.vars.set i y).flatMap hF).length+_)=_;rw[this]
theorem No {s:aq} {i:Nat} {x y:b3} (a:s.funs[i]? =σ x) (q:y.cs.length=x.cs.length) (h1:y.sc=x.sc) (r:y.ac=x.ac):n0 s {s with funs:=s.funs.set i y}:=by
 have w:(h2 y).length=(h2 x).length:=by simp[h2,q]
 refine⟨rfl,Z5,λj f h=>?_,rfl⟩;have h:(s.funs.set i y)[j]? =σ f:=h;have e:e9 {s with funs:=s.funs.set i y} j=e9 s j:=by
  unfold e9;show 3+(_+(((s.funs.set i y).take j).flatMap h2).length)=_;rw[tn a w]
 by_cases p:i=j
 .subst p;rw[j9 (x4.1 a).1] at h;cases h;exact⟨x,a,h1,r,e⟩
 .rw[Y0 p] at h;exact⟨f,h,rfl,rfl,e⟩
theorem aC.wu (t:aC) (i:Nat) (x:Int):(t.set i x).marks=t.marks:=by
 unfold aC.set;cases t.cells[i]? with
 |none=>rfl
 |some c=>
  simp only;cases t.marks.getLast? with
  |none=>rfl
  |some m=>simp only;split<;>rfl
theorem aC.CY (t:aC) (i:Nat) (x:Int):(t.set i x).iJ=t.iJ:=by
 unfold aC.set;cases t.cells[i]? with
 |none=>rfl
 |some c=>
  simp only;cases t.marks.getLast? with
  |none=>rfl
  |some m=>simp only;split<;>rfl
theorem aC.CZ (t:aC) (i:Nat) (x:Int):(t.set i x).cells.length=t.cells.length:=by
 have h:=congrArg T7 (aC.pX (t:=t) (i:=i) (x:=x));rw[Z5] at h;unfold aC.bD at h;rwa [u7,u7] at h
theorem aC.C0 (t:aC) (i:Nat) (x:Int):(t.set i x).olds.length<=t.olds.length+1:=by
 unfold aC.set;cases t.cells[i]? with
 |none=>exact Nat.le_succ _
 |some c=>
  simp only;cases t.marks.getLast? with
  |none=>exact Nat.le_succ _
  |some m=>simp only;split<;>simp
theorem aC.wv {t:aC} (h:t.marks=[]) (i:Nat) (x:Int):(t.set i x).olds=t.olds:=by
 unfold aC.set;cases t.cells[i]? with
 |none=>rfl
 |some c=>simp only[h,List.getLast?_nil]
def fI (t:aC) (l:Λ):Nat->aC
 |0=>t.grow l.length
 |i+1=>(fI t l i).set (t.cells.length+i) (l.getD i 0)
def mH (t:aC) (l:Λ):aC:=fI t l l.length
theorem qO (t:aC) (l:Λ):∀i,(fI t l i).marks=t.marks
 |0=>rfl
 |i+1=>(aC.wu _ _ _).trans (qO t l i)
theorem C1 (t:aC) (l:Λ):∀i,(fI t l i).iJ=t.iJ
 |0=>rfl
 |i+1=>(aC.CY _ _ _).trans (C1 t l i)
theorem wx (t:aC) (l:Λ):∀i,(fI t l i).cells.length=t.cells.length+l.length
 |0=>by simp[fI,aC.grow]
 |i+1=>(aC.CZ _ _ _).trans (wx t l i)
theorem wy (t:aC) (l:Λ):∀i,(fI t l i).olds.length<=t.olds.length+i
 |0=>o4 _
 |i+1=>by have:=aC.C0 (fI t l i) (t.cells.length+i) (l.getD i 0);have:=wy t l i;show (aC.set _ _ _).olds.length<=_;omega
theorem C2 {t:aC} (h:t.marks=[]) (l:Λ):∀i,(fI t l i).olds=t.olds
 |0=>rfl
 |i+1=>(aC.wv ((qO t l i).trans h) _ _).trans (C2 h l i)
theorem C3 (t:aC) (l:Λ):∀i,i<=l.length->(fI t l i).bD=t.bD++(l.take i++p9 (l.length-i) 0)
 |0,_=>by rw[List.take_zero,List.nil_append];exact aC.I8
 |i+1,h=>by
  have a:=C3 t l i Ω;show (aC.set _ _ _).bD=_;have e:t.bD.length=t.cells.length:=by simp[aC.bD]
  rw[aC.pX,a,T8 _ _ Ω,e,R8,T8 _ _ (by rw[j5];omega),j5,Nat.min_eq_left Ω,U7,show l.length-i=(l.length-(i+1))+1 by omega,List.replicate_succ,List.set_cons_zero,u9,u4,x6 (show i<l.length by omega)];simp only[o8,V8,c9,List.singleton_append]
theorem C4 (t:aC) (l:Λ):(mH t l).bD=t.bD++l:=by
 unfold mH;rw[C3 t l _ (o4 _),o7,U7,List.replicate_zero,W7]
theorem en.fI {h:List aC} {t:aC} (hk:en t h) (l:Λ):∀i,en (fI t l i) h
 |0=>hk.grow
 |i+1=>(en.fI hk l i).set
theorem k7 {s:Go.Sem x1} {x:x1} (h:V x7 s w (λv=>v=x)):b4 x7 s x w:=by
 obtain⟨v,h,rfl⟩:=h;exact h
theorem tp {off:Nat} {z:Nat} {a:r9} {cs:List x1} {x:x1} (f:aa w ab e cs) (h:∀ (K:x1->Prop),V x7 (u6 ct (Γ ab) z) w K=K (.pointer (σ ⟨ab,0+off,ν⟩))) (j:jF x7 a=true) (p:cs[0+off]? =σ x):
  b4 x7 (u5 a (.pointer (σ ⟨ab,0+off,ν⟩))) x w/\b4 x7 (u6 ct (Γ ab) z) (.pointer (σ ⟨ab,0+off,ν⟩)) w/\b4 x7 (bN (Γ ab)) (Γ ab) w/\True:=
 ⟨nE j (f.cell p),k7 (by rw[h]),k7 (by rw[bW]),trivial⟩
def C5 (w:x3) (r:Nat):Prop:=∃e c,aa w r e c/\(e=fx\/e=eG\/e=kS\/e=gi\/e=ct\/e=dQ\/e=gf)
def eN (w:x3) (r:Nat):Prop:=C5 w r\/ ∀o,w.heap[r]? =σ o->fs o≠true
theorem mI {J:x3} {r:Nat} (hk:∀o,w.heap[r]? =σ o->fs o=true->¬eN w r->J.heap[r]? =σ o) (h:eN J r):eN w r:=by
 by_cases a:eN w r
 .exact a
 .refine absurd (.inr λo j I=>?_) a;have h1:=hk o j I a;rcases h with⟨e,c,f,he⟩|p
  .refine a (.inl ⟨e,c,?_,he⟩);unfold aa at f ⊢;rw[h1] at f;rw[j];exact f
  .exact p o h1 I
theorem jT {J w2:x3} (a:Ext w J) (e:ae (eN J) J w2):ae (eN w) w w2:=(a.U _).trans (e.mono λr _ h=>mI (λo f I _=>a.aV r o f I) h)
theorem wz {J w2:x3} (h:ae (eN w) w J) (a:ae (eN J) J w2):ae (eN w) w w2:=h.trans (a.mono λr _ e=>mI (λo f I j=>h.aV r o f I j) e)
theorem dx.min {A:af} {t:aC} (h:dx w ad A t):dx w ad (λr=>A r/\C5 w r) t:=by
 obtain⟨q,s,go,dg,aY,x,dL,h1,f,j,p,y⟩:=h;refine⟨⟨q,_,_,h1,.inl rfl⟩,s,go,dg,aY,x,dL,h1,f,j,p,λr a=>⟨y r a,?_⟩⟩;rcases a with a|a|a
 .obtain⟨rfl,c,e⟩:=ef f a;exact⟨_,c,e,.inr (.inl rfl)⟩
 .obtain⟨rfl,c,e⟩:=ef j a;exact⟨_,c,e,.inr (.inr (.inl rfl))⟩
 .obtain⟨rfl,c,e⟩:=ef p a;exact⟨_,c,e,.inr (.inr (.inr (.inl rfl)))⟩
theorem eM.wA {p q x:x1} {A R:af} {n:aS} {s:aq} {t:aC} (h:eM w ab ad j p q x A R n s t):∃a,dx w ad a t/\ ∀y w' bp,Grow a w y w'->dx w' ad y bp->ae (eN w) w w'/\ ∃aI,Grow A w aI w'/\eM w' ab ad j p q x aI R n s bp:=by
 obtain⟨a,z,B⟩:=h.qN;refine⟨_,z.min,λC J bp e E=>⟨e.1.mono λr _ h=>.inl h.2,?_⟩⟩;exact B (λr=>a r\/C r) J _ ⟨e.1.mono λr _ h=>h.1,λr f=>f.elim .inl λh=>(e.2.1 r h).imp (λh=>h.1) id,λr f=>.inl f⟩ (E.mono λr h=>.inr h)
theorem C6 {z:Nat} {B C G:x1} {A R:af} {n:aS} {s:aq} {t:aC} {j:x1} (h:eM w ab ad z B C G A R n s t) (H:aF .i64 w j l) (S:∀r,leads j r->¬A r) (aH:t.cells.length+l.length<=100000000) (aJ:t.olds.length+l.length<=100000000) (hm:t.marks.length<=100000000):
  ai x7 y6 [Γ ab,j] w λv w'=>v=Δ (t.cells.length:Int)/\ae (eN w) w w'/\ ∃aI,Grow A w aI w'/\eM w' ab ad z B C G aI R n s (mH t l):=by
 refine aw func101 ?_;obtain⟨_,a7,U,ge,L,E,_,w0,I,_⟩:=id h;obtain⟨V,K,M⟩:=h.wA;rw[aO ct.p 1 I rfl,aX an.u H];refine (Na (n:=l.length) K ⟨Ω,Ω,hm⟩ Ω).mono ?_;rintro _ J _ ⟨rfl,W,X,Y⟩;obtain⟨Z,aa,O,ac⟩:=M W J _ X Y;have P:∀ {aI:af} {w':x3},Grow A w aI w'->aF .i64 w' j l:=λag=>hV H ag.1 λr aj a al c am ao=>S r ⟨a,al,c,am,ao⟩ aj;rw[aX an.u (P O)];have ap:=H.le;refine ci.range l.length (λi w2=>ae (eN w) w w2/\ ∃f,Grow A w f w2/\eM w2 ab ad z B C G f R n s (fI t l i)) ap ⟨Z,aa,O,ac⟩ ?_ ?_
 .rintro i w2 k hi ⟨N,f,q,y⟩ hk;refine bH Ω ?_;obtain⟨x,Q⟩:=aE (l:=l) hi;rw[be an.u ak.i Ψ (P q) Q];obtain⟨_,a7,U,ge,L,E,_,w0,I,_⟩:=id y;obtain⟨V,K,M⟩:=y.wA;have aK:=wx t l i;have aL:=wy t l i;have au:=qO t l i;rw[aO ct.p 1 I rfl,aM,wrap_i64 Ω Ω];refine (tk (i:=t.cells.length+i) K Ω Ω ⟨Ω,Ω,by rw[au];exact hm⟩).mono ?_;rintro _ av _ ⟨rfl,ax,ay,az⟩;obtain⟨aA,aB,aD,aG⟩:=M ax av _ ay az;rw[aM];refine hk _ ⟨wz N aA,aB,q.trans aD,?_⟩;have e:fI t l (i+1)=(fI t l i).set (t.cells.length+i) x:=by
   show (fI t l i).set _ (l.getD i 0)=_;rw[u4,Q];rfl
  rw[e];exact aG
 .rintro w2 k ⟨N,f,q,y⟩;rw[aQ,ah];exact⟨λh=>Ω,λ_=>⟨rfl,N,f,q,y⟩⟩
def iW (s:aq) (sc ac cs:Λ):aq:={s with funs:=s.funs++[⟨sc,ac,1,cs⟩]}
def n1 (s:aq) (t:aC) (cs:Λ):aC:=(mH t (1::cs)).set 1 ((s.funs.length+1:Nat):Int)
theorem Np {s:aq} {t:aC} {sc ac cs:Λ} (h:t.bD=s.cells):(n1 s t cs).bD=(iW s sc ac cs).cells:=by
 unfold n1 iW;rw[aC.pX,C4,h,<-Ng];rfl
theorem Nq {be:Nat} {bf aN bg:x1} {A R:af} {n:aS} {s:aq} {t:aC} {aD:x1} {sc ac cs:Λ} {g bQ:Nat} {W:x1} {k:Int}
  (h:eM w ab ad be bf aN bg A R n s t) (ck:t.bD=s.cells) (cl:aF .i64 w aD sc) (dt:∀r,leads aD r->¬A r) (bh:dd w g bQ W ac k cs) (bR:¬A g/\¬A bQ/\ ∀r,leads W r->¬A r) (dv:sc.length<=1000)
  (aW:t.cells.length+cs.length+1<=100000000) (bi:t.olds.length+cs.length+1<=100000000) (hm:t.marks.length<=100000000) (dw:s.funs.length<=1000000):
  ai x7 GV [Γ ab,aD,Γ g] w λv w'=>v=Δ (s.funs.length:Int)/\ae (eN w) w w'/\ ∃aI R' bw,Grow A w aI w'/\eM w' ab ad be bf bw bg aI R' n (iW s sc ac cs) (n1 s t cs)/\(∀r,R r->R' r)/\ ∀r,R' r->R r\/leads W r\/w.heap.size<=r:=by
 have dx:t.cells.length=s.cells.length:=by rw[<-ck];simp[aC.bD]
 have dy:=wq s;have cm:e9 (iW s sc ac cs) s.funs.length=t.cells.length:=by
  unfold e9 iW;simp only[List.take_left];omega
 have cn:∀j,j<s.funs.length->e9 (iW s sc ac cs) j=e9 s j:=λj bx=>by
  unfold e9 iW;simp only[List.take_append_of_le_length (show j<=s.funs.length by omega)]
 have cp:iu (iW s sc ac cs)=iu s:=rfl;refine aw func103 ?_;refine dm (λJ=>ae (eN w) w J/\ ∃aI R' bw,Grow A w aI J/\eM J ab ad be bf bw bg aI R' n (iW s sc ac cs) (mH t (1::cs))/\(∀r,R r->R' r)/\ ∀r,R' r->R r\/leads W r\/w.heap.size<=r) ?_ ?_
 .rintro J ⟨cq,dz,cr,cu,cw,cz,cA,cB⟩;intro w2 bz _ _;have bS:=cz.ext bz;obtain⟨_,a7,bA,ge,L,E,_,w0,ao,_,_,_,⟨a2,bj⟩,_⟩:=id bS;have bk:L.length=s.funs.length+1:=by rw[bj.1];simp[iW]
  rw[aO ct.p 1 ao rfl,aO ct.p 3 ao rfl,eA ff.u a2];obtain⟨bT,cC,cD⟩:=bS.wA;have cE:=wx t (1::cs) (1::cs).length;have cF:=wy t (1::cs) (1::cs).length;have cG:=qO t (1::cs) (1::cs).length;simp only[b8] at cE cF;refine (tk (i:=1) (y:=1) cC rfl (by show 1<(fI _ _ _).cells.length;simp only[b8];omega) ⟨by show (fI _ _ _).cells.length<=_;simp only[b8];omega,by show (fI _ _ _).olds.length<=_;simp only[b8];omega,by show (fI _ _ _).marks.length<=_;rw[cG];exact hm⟩).mono ?_;rintro _ cH _ ⟨rfl,cI,cJ,cK⟩;obtain⟨cL,cM,cN,bV⟩:=cD cI cH _ cJ cK;obtain⟨_,a7,bA,ge,cO,E,_,w0,ao,_,_,_,⟨a2,cP⟩,_⟩:=id bV;have dA:cO.length=s.funs.length+1:=by rw[cP.1];simp[iW]
  rw[aO ct.p 3 ao rfl,eA ff.u a2,dR,wrap_i64 Ω Ω];refine⟨by congr 1;omega,wz cq (jT bz cL),cM,cr,cu,cw.trans ((Grow.ext bz).trans cN),?_,cA,cB⟩;have e:n1 s t cs=(mH t (1::cs)).set 1 (L.length:Int):=by unfold n1;rw[bk]
  rw[e];exact bV
 intro au cR;intro aJ aQ _ _;have bX:=h.ext aQ;obtain⟨_,a7,bA,ge,L,E,_,w0,ao,_⟩:=id bX;rw[aO ct.p 3 ao rfl];have z4:=aQ.size;have bl:∀ {G:x3} {ah X:x1} {aX aj:Nat},Ext aJ G->w.heap.size<=aX->w.heap.size<=aj->ap .i64 ag G aX ah sc->ap .i64 ak G aj X (1::cs)->(∀r,leads ah r\/leads X r->¬A r)->
   ai x7 y6 [Γ ab,X] G λcS ax=>
    (Ext aJ ax\/b4 x7 (u5 ff (.pointer (σ ⟨ab,0+3,ν⟩))) aN ax/\b4 x7 (u6 ct (Γ ab) 3) (.pointer (σ ⟨ab,0+3,ν⟩)) ax/\b4 x7 (bN (Γ ab)) (Γ ab) ax/\True)/\
    V x7 (Instr.build dQ #[(0,ah),(1,.agg #[W]),(2,cS)]) ax λt22=>
    av x7 (Y4 ff 1 #[(0,t22)]) ax λcT ay=>
     (Ext aJ ay\/b4 x7 (u5 ff (.pointer (σ ⟨ab,0+3,ν⟩))) aN ay/\b4 x7 (u6 ct (Γ ab) 3) (.pointer (σ ⟨ab,0+3,ν⟩)) ay/\b4 x7 (bN (Γ ab)) (Γ ab) ay/\True)/\
    av x7 (b9 #[ff,ff] ff #[aN,cT]) ay λcU bm=>
     V x7 (bN (Γ ab)) bm λt25=>
     V x7 (u6 ct t25 3) bm λcV=>
     av x7 (o5 ff cV cU) bm λ(_:Unit) aR=>
      au aR:=by
  intro G ah X aX aj H bY Y M O bB;have cW:=bX.ext H;refine (C6 cW O.ls (λr B=>bB r (.inr B)) (by simp only[b8];omega) (by simp only[b8];omega) hm).mono ?_;rintro _ ax _ ⟨rfl,cX,a6,aY,cY⟩;obtain⟨⟨bZ,b0,cZ,b1⟩,a7,bA,ge,L,E,bT,w0,ao,⟨c0,c3,b2⟩,⟨c4,b3,b5,aK⟩,bC,⟨a2,bj⟩,bE,c5⟩:=id cY;have aG:ap .i64 ag ax aX ah sc:=bq M aY.1 λr B=>bB r (.inl B);have bn:ap .i64 ag G (Classical.choose (show ∃gs,ap .i64 ag w gs W ac from by obtain⟨⟨_,gs,_,q,_⟩,_⟩:=bh;exact⟨gs,q⟩)) W ac:=((Classical.choose_spec (show ∃gs,ap .i64 ag w gs W ac from by obtain⟨⟨_,gs,_,q,_⟩,_⟩:=bh;exact⟨gs,q⟩)).ext aQ).ext H;have c6:=bq bn aY.1 bR.2.2;refine⟨.inr (tp (off:=3) (z:=3) ao (λK=>by rw[aP ct.p rfl]) Ψ rfl),?_⟩;rw[dq (cs:=#[ah,W,Δ (t.cells.length:Int)]) (by obtain⟨_,_,_,rfl⟩:=du M.ls;obtain⟨_,_,_,rfl⟩:=du bn.ls;kernel_rfl)];let a:ph:=⟨ah,W,t.cells.length⟩;have c7:∀u∈lY a,u.oneCell'=true:=by
   intro u hu;simp[lY] at hu;rcases hu with rfl|rfl|rfl
   .exact M.ls.cells.2
   .exact bn.ls.cells.2
   .rfl
  refine h0 (f:=lY) (a:=a) ff.u dQ.i Ω rfl rfl λdC dD ay dE N c8=>?_;refine⟨.inr (tp (off:=3) (z:=3) (ao.ext N) (λK=>by rw[aP ct.p rfl]) Ψ rfl),?_⟩;have a8:=a2.ext N;have bk:L.length=s.funs.length:=bj.1;refine ik (f:=lY) (a:=a) ff.u dQ.i rfl a8 (by simpa using c8.sl) c7 Ω Ω λb6 c9 bm ba da b7=>?_;have bb:=ao.ext N;have ca:=bb.U b7 λhe=>cQ a8 bb Φ he;rw[bW,aP ct.p rfl];refine bo ff.i (eL ba.sl).1 (eL ba.sl).2 ca Ξ λaR bF dF bG=>?_;have bG:aa aR ab ct [Γ be,Γ ad,bf,b6,bg]:=bG;have az:ae (λr=>leadsTo aN r\/r=ab) ay aR:=(b7.mono λr _ h=>.inl h).trans (bF.mono λr _ h=>.inr h);have z9:=H.size;have dG:=aY.1.size;have dH:=N.size;have dI:=az.size;have bH:∀r,(leadsTo aN r\/r=ab)->a6 r:=λr B=>B.elim (λB=>(aK r (.inr (.inl B))).1) λB=>B▸bZ;have bI:∀r,(leadsTo aN r\/r=ab)->¬R r:=λr B=>b0 r (bH r B);have db:ae (eN w) w aR:=wz (jT (aQ.trans H) cX) (jT N (az.mono λr _ B=>by
   rcases B with B|rfl
   .obtain⟨_,c,aW⟩:=ef a8 B;exact .inl ⟨_,c,‹r=_› ▸aW,Φ⟩
   .exact .inl ⟨_,_,bb,Φ⟩))
  let dk:af:=λr=>a6 r\/(ay.heap.size<=r/\r<aR.heap.size);let bJ:af:=λr=>R r\/(leads W r/\r<ax.heap.size)\/(leads ah r/\r<ax.heap.size);have dJ:∀r,r<w.heap.size->a6 r->A r:=λr B h=>(aY.2.1 r h).elim id λh=>Ω
  have bK:∀r,leads ah r->w.heap.size<=r/\r<G.heap.size:=λr B=>by obtain⟨h1,aZ⟩:=bU M B;omega
  have cb:∀r,leads W r->r<G.heap.size:=λr B=>by obtain⟨h1,aZ⟩:=bU bn B;omega
  have bp:∀r,leads ah r\/leads W r->¬a6 r:=λr B dc=>by
   rcases aY.2.1 r dc with h|h
   .rcases B with B|B
    .exact bB r (.inl B) h
    .exact bR.2.2 r B h
   .rcases B with B|B
    .have:=bK r B;omega
    .have:=cb r B;omega
  refine cR _ ⟨db,dk,bJ,b6,(Grow.ext (aQ.trans H)).trans (aY.trans ((Grow.ext N).trans ⟨az.mono λr _ B=>bH r B,λr B=>B.imp id And.left,λr B=>.inl B⟩)),?_,λr B=>.inl B,λr B=>?_⟩
  rotate_left
  .rcases B with B|B|B
   .exact .inl B
   .exact .inr (.inl B.1)
   .exact .inr (.inr (bK r B.1).1)
  have cc:∀ {v:x1} {bc:Nat} {l:Λ},ap .i64 ag ay bc v l->(∀r,leads v r->¬a6 r)->ap .i64 ag aR bc v l:=λhm de=>bq hm az λr B I=>de r B (bH r I);have ce:∀r,bJ r->r<ay.heap.size:=λr B=>by
   rcases B with B|B|B
   .have:=cZ r B;omega
   .omega
   .omega
  refine⟨⟨.inl bZ,λr B aL=>?_,λr B=>by have:=ce r B;omega,λr B=>B.elim (λB=>by have:=b1 r B;omega) And.right⟩,a7,c9,ge,L++[a],E,bT,w0,bG,⟨c0,tm (c3.trans N) az λr o B bi I=>bI r I (b2 r o B bi),λr o B bi=>.inl (b2 r o B bi)⟩,⟨(c4.ext N).U az λr B I=>?_,λr B=>.inl (b3 r B),b5,λr B=>?_⟩,?_,⟨ba.U bF λr B he=>?_,?_⟩,(bE.ext N).U az λr B I=>?_,?_⟩
  .have:=ce r aL;rcases B with B|B
   .rcases aL with aL|aL|aL
    .exact b0 r B aL
    .exact bp r (.inr aL.1) B
    .exact bp r (.inl aL.1) B
   .omega
  .rcases I with I|rfl
   .exact (aK r (.inr (.inl I))).2 B
   .exact b5 B
  .rcases B with B|B|B
   .exact⟨.inl (aK r (.inl B)).1,(aK r (.inl B)).2⟩
   .obtain⟨h1,aZ⟩:=ba.leads B;rcases da r B with h|h
    .exact⟨.inl (aK r (.inr (.inl h))).1,(aK r (.inr (.inl h))).2⟩
    .refine⟨.inr ⟨h,by have:=bF.size;omega⟩,λdf=>?_⟩;have:=b1 r (b3 r df);omega
   .exact⟨.inl (aK r (.inr (.inr B))).1,(aK r (.inr (.inr B))).2⟩
  .rw[cp];exact bq (bC.ext N) az λr B I=>by
    rcases I with I|rfl
    .obtain⟨rfl,c,aW⟩:=ef a8 I;exact cd (bC.ext N) aW Φ B rfl
    .exact cd (bC.ext N) bb Φ B rfl
  .have he:r=ab:=he;subst he;exact cQ ba ca Φ B
  .refine⟨by rw[p8,bk];simp[iW],λj x f br aT=>?_⟩;have aT:(s.funs++[⟨sc,ac,1,cs⟩])[j]? =σ f:=aT;by_cases bx:j<s.funs.length
   .rw[Y8 Ω] at br;rw[Y8 bx] at aT;obtain⟨dg,dh,di⟩:=((((lj.U bj (N.U λ_=>False) λ_ _ _ h=>h).U az λr _ B I=>bI r I B).mono (R':=bJ) λr B=>.inl B)).2 j x f br aT;exact⟨dg,dh,by rw[cn j bx];exact di⟩
   .have bL:j=s.funs.length:=by have:=(x4.1 aT).1;simp at this;omega
    rw[X1 Ω,bk,bL,U7] at br;rw[X1 Ω,bL,U7] at aT;cases br;cases aT;refine⟨⟨⟨_,cc (aG.ext N) λr B=>bp r (.inl B)⟩,λr B=>.inr (.inr ⟨B,?_⟩)⟩,⟨⟨_,cc (c6.ext N) λr B=>bp r (.inr B)⟩,λr B=>.inr (.inl ⟨B,?_⟩)⟩,?_⟩
    .have:=bK r B;omega
    .have:=cb r B;omega
    .rw[bL,cm]
  .rcases I with I|rfl
   .obtain⟨rfl,c,aW⟩:=ef a8 I;exact cQ (bE.ext N) aW Φ B
   .exact cQ (bE.ext N) bb Φ B
  .exact ((lZ.U c5 (N.U λ_=>False) λ_ _ _ h=>h).U az λr _ B I=>bI r I B).mono λr B=>.inl B
 have a1:=bh.ext aQ;have cg:=cl.ext aQ;have dj:∀r,A r->r<w.heap.size:=h.1.2.2.2;obtain⟨_,⟨_,_,dK⟩,dL,dM⟩:=id bh;have dN:cs.length<=4096:=Ω
 have bt:∀ {aA:x3} {aU aV:x1} {Z:Nat} {K:x1->x3->Prop},Ext aJ aA->aJ.heap.size<=Z->ap .i64 ak aA Z aU [1]->aF .i64 aA aV cs->
   (∀X aj G,Ext aJ G->ae (λr=>r=Z) aA G->w.heap.size<=aj->ap .i64 ak G aj X (1::cs)->(Ext aJ G->K X G))->av x7 (b9 #[an,an] an #[aU,aV]) aA K:=by
  intro aA aU aV Z K C bu aB aH dl;refine jj an.u ak.i rfl aB aH Θ Θ λX aj G Y O aE=>?_;have H:Ext aJ G:=C.put aE Ω;have dn:=C.size;exact dl X aj G H aE Ω O H
 have aM:∀ {v:x1} {bc:Nat} {dp:o6} {e:r9} {dr:x3} {l:Λ},ap dp e dr bc v l->w.heap.size<=bc-> ∀r,leads v r->¬A r:=λhm dO r B ds=>by
  obtain⟨h1,_⟩:=bU hm B;have:=dj r ds;omega
 refine⟨?_,?_⟩
 .refine (kY cg Ω).mono ?_;rintro ah ch _ ⟨P,aX,bY,M⟩;have z5:=P.size;refine⟨.inl P,?_,?_⟩
  .refine (oX (a1.ext P)).mono ?_;rintro _ ci _ ⟨rfl,Q⟩;have al:=P.trans Q;have dP:=al.size;have dS:=Q.size;have cj:=(a1.ext P).ext Q;refine⟨.inl al,?_,?_⟩
   .refine ej an.u ak.i rfl λaU Z aA bu C aB=>?_;refine⟨.inl (al.trans C),?_⟩;refine (mB (cj.ext C)).mono ?_;rintro aV bM _ ⟨S,bO,bP,aH⟩;have am:=(al.trans C).trans S;refine⟨.inl am,?_⟩;refine bt am Ω (aB.ext S) aH.ls λX aj G H aE Y O _=>⟨.inl H,?_⟩;have aG:=bq (((M.ext Q).ext C).ext S) aE λr B he=>by have he:r=Z:=he;obtain⟨h1,aZ⟩:=bU M B;omega
    exact bl H Ω Y aG O λr B=>B.elim (aM M Ω r) (aM O Y r)
   .refine (mB cj).mono ?_;rintro aV aA _ ⟨C,bO,bP,aH⟩;refine⟨.inl (al.trans C),?_⟩;have dn:=C.size;refine ej an.u ak.i rfl λaU Z bM bu S aB=>?_;have am:=(al.trans C).trans S;refine⟨.inl am,?_⟩;refine bt am Ω aB (aH.ls.ext S) λX aj G H aE Y O _=>⟨.inl H,?_⟩;have aG:=bq (((M.ext Q).ext C).ext S) aE λr B he=>by have he:r=Z:=he;obtain⟨h1,aZ⟩:=bU M B;omega
    exact bl H Ω Y aG O λr B=>B.elim (aM M Ω r) (aM O Y r)
  .refine ej an.u ak.i rfl λaU Z ci bu Q aB=>?_;have al:=P.trans Q;refine⟨.inl al,?_⟩;refine (oX ((a1.ext P).ext Q)).mono ?_;rintro _ aA _ ⟨rfl,C⟩;have bd:=al.trans C;refine⟨.inl bd,?_⟩;refine (mB (((a1.ext P).ext Q).ext C)).mono ?_;rintro aV bM _ ⟨S,bO,bP,aH⟩;have am:=bd.trans S;refine⟨.inl am,?_⟩;refine bt am Ω ((aB.ext C).ext S) aH.ls λX aj G H aE Y O _=>⟨.inl H,?_⟩;have aG:=bq (((M.ext Q).ext C).ext S) aE λr B he=>by have he:r=Z:=he;obtain⟨h1,aZ⟩:=bU M B;omega
   exact bl H Ω Y aG O λr B=>B.elim (aM M Ω r) (aM O Y r)
 .refine ej an.u ak.i rfl λaU Z ch bu P aB=>?_;refine⟨.inl P,?_⟩;have z5:=P.size;have dT:Z<ch.heap.size:=s3 aB Ξ;refine (kY (cg.ext P) Ω).mono ?_;rintro ah ci _ ⟨Q,aX,bY,M⟩;have al:=P.trans Q;refine⟨.inl al,?_⟩;refine (oX ((a1.ext P).ext Q)).mono ?_;rintro _ aA _ ⟨rfl,C⟩;have bd:=al.trans C;refine⟨.inl bd,?_⟩;refine (mB (((a1.ext P).ext Q).ext C)).mono ?_;rintro aV bM _ ⟨S,bO,bP,aH⟩;have am:=bd.trans S;refine⟨.inl am,?_⟩;refine bt am Ω (((aB.ext Q).ext C).ext S) aH.ls λX aj G H aE Y O _=>⟨.inl H,?_⟩;have aG:=bq ((M.ext C).ext S) aE λr B he=>by have he:r=Z:=he;obtain⟨h1,aZ⟩:=bU M B;omega
  exact bl H Ω Y aG O λr B=>B.elim (aM M Ω r) (aM O Y r)
theorem gP {P:W9} {G:r9} {k:o6} {b g:Nat} {x:x1} {m:Λ} {K:x1->x3->Prop} (y:P.underlying t=σ (.slice e)) (hi:aN P e 1 b z) (A:z.cells.size=1)
  (h:ap k e w g v l) (B:aF k w x m) (C:(l.length+m.length)*b<=140737488355328) (E:l.length+m.length<=9223372036854775807)
  (F:∀a f w',ap k e w' f a (l++m)->(∀r,leads a r->leads v r\/w.heap.size<=r)->ae (λr=>leads v r) w w'->K a w'):av P (b9 #[t,t] G #[v,x]) w K:=by
 rcases h.2 with⟨p,H⟩|⟨cap,cs,p,L,M⟩
 .have I:l=[]:=Z0 H;subst I;have h':ap k e w w.heap.size v []:=by rw[p];exact ap.nil _ _ _ _
  refine jj y hi A h' B C E λa f w' q hm s=>F a f w' hm (λr j=>.inr ?_) (s.mono λr j he=>by have he:r=w.heap.size:=he;omega);obtain⟨J,_⟩:=bU hm j;omega
 .refine jj y hi A h B C E λa f w' q hm s=>F a f w' hm (λr j=>?_) (s.mono λr j he=>⟨_,_,_,p,he.symm⟩);obtain⟨J,_⟩:=bU hm j;rcases q with q|q
  .exact .inl ⟨_,_,_,p,by show g=r;omega⟩
  .exact .inr Ω
def addVar (s:aq) (u:Λ):aq:={s with vars:=s.vars++[newVar u]}
theorem Nr (s:aq) (u:Λ):iu (addVar s u)=iu s++[((3+(s.vars.flatMap hF).length:Nat):Int)]:=by
 unfold iu addVar;rw[p8,U3,List.range_succ,j6];congr 1
 .apply List.map_congr_left;intro i hi;have:=List.mem_range.1 hi;unfold e8;simp only[List.take_append_of_le_length (show i<=s.vars.length by omega)]
 .simp[e8]
theorem Ns {s:aq} {u:Λ} (a:s.funs=[]):(addVar s u).cells=s.cells++(0::0::u):=by
 unfold aq.cells addVar iU;simp only[a,List.flatMap_nil,W7,List.flatMap_append,List.flatMap_singleton,c9];rfl
def eS (n:aS) (i j:Nat):aq:=⟨n.zero,(n.unary.take i).map newVar,(n.funs.take j).map (kx n.sizes),[]⟩
theorem C7 {n:aS} {i:Nat} {u:Λ} (h:n.unary[i]? =σ u):eS n (i+1) 0=addVar (eS n i 0) u:=by
 unfold eS addVar;simp only[u9,h,o8,j6,List.map_singleton]
theorem Nt {n:aS} {i:Nat} {g:cz} (h:n.funs[j]? =σ g):eS n i (j+1)=iW (eS n i j) g.1 (bP n.sizes g.1) g.2:=by
 unfold eS iW;simp only[u9,h,o8,j6,List.map_singleton];rfl
theorem wB (n:aS):eS n n.unary.length n.funs.length=dj n:=by
 unfold eS dj;rw[o7,o7]
theorem wC {α β:Type} {f:α->List β} {b:Nat}:∀ {L:List α},(∀x∈L,(f x).length<=b)->(L.flatMap f).length<=L.length*b
 |[],_=>Ξ
 |x::L,h=>by
  rw[X2,p8,b8,U4];have:=wC (L:=L) λy a=>h y (.tail _ a);have:=h x (.head _);omega
theorem tq {n:aS} (a:jR n) (B:n.funs.length<=256) (i j:Nat):(eS n i j).cells.length<=2000000:=by
 rw[wq];have h1:=wC (f:=hF) (b:=34) (L:=(eS n i j).vars) λx h=>by
  obtain⟨u,hu,rfl⟩:=l7.1 (show x∈(n.unary.take i).map newVar from h);obtain⟨p,q⟩:=X9.1 (T9 hu);have C:=a.kw;have E:=(x4.1 q).1;obtain⟨z,r⟩:=aE (l:=n.sizes) (i:=p) Ω;have w:=(a.unary p z u r q).1;have e:=a.sizes.2.2 z (x5 r);show u.length+2<=34;omega
 have w:=wC (f:=h2) (b:=4097) (L:=(eS n i j).funs) λx h=>by
  obtain⟨g,y,rfl⟩:=l7.1 (show x∈(n.funs.take j).map (kx n.sizes) from h);have e:=(a.funs g (T9 y)).1;have s:=e.len;have A:=e.small;show g.2.length+1<=4097;omega
 have e:(eS n i j).vars.length<=64:=by
  show ((n.unary.take i).map newVar).length<=64;rw[u7,j5];have:=a.kw;have:=a.sizes.2.1;omega
 have s:(eS n i j).funs.length<=256:=by
  show ((n.funs.take j).map (kx n.sizes)).length<=256;rw[u7,j5];omega
 have A:=X5 34 e;have F:=X5 4097 s;omega
def Plain (t:aC):Prop:=t.marks=[]/\t.olds=[]/\en t []/\t.iJ=0
theorem Plain.set {t:aC} (h:Plain t) (i:Nat) (x:Int):Plain (t.set i x):=⟨(aC.wu _ _ _).trans h.1,(aC.wv h.1 _ _).trans h.2.1,h.2.2.1.set,(aC.CY _ _ _).trans h.2.2.2⟩
theorem Plain.lay {t:aC} (h:Plain t) (l:Λ):Plain (mH t l):=⟨(qO _ _ _).trans h.1,(C2 h.1 _ _).trans h.2.1,h.2.2.1.fI l _,(C1 _ _ _).trans h.2.2.2⟩
theorem Plain.put {s:aq} {t:aC} (h:Plain t) (cs:Λ):Plain (n1 s t cs):=(h.lay _).set _ _
def Nu (w:x3) (R0:af) (n:aS) (v:x1) (w':x3):Prop:=Ext w w'/\ ∃ab ad A R t,v=Γ ab/\StateM w' ab ad A R n (dj n) t/\t.bD=(dj n).cells/\Plain t/\(∀r,A r->w.heap.size<=r)/\ ∀r,R r->R0 r\/w.heap.size<=r
theorem Nv {w0:x3} {R0:af} {n:aS} (aN:fU w0 B n) (ax:Ext w0 w) (bf:∀r o,w0.heap[r]? =σ o->fs o=true->R0 r) (aQ:∀r,R0 r->r<w.heap.size) (C:jR n) (bh:n.funs.length<=256):ai x7 yV [Γ B] w (Nu w R0 n):=by
 have h:=aN.ext ax;have bV:=C.kw;have cZ:=C.sizes.2.1;refine aw func37 ?_;rw[dp mi.u];simp only[Z7,aW];refine (Nb (n:=3) Ω).mono ?_;rintro _ J _ ⟨ay,ad,rfl,bX⟩;rw[dq (cs:=#[Γ B,Γ ad,.slice ν 0 0,.slice ν 0 0,.slice ν 0 0]) Ψ];refine bn λab w2 c0 S V=>?_;have V:aa w2 ab ct [Γ B,Γ ad,.slice ν 0 0,.slice ν 0 0,.slice ν 0 0]:=V;have c3:=ay.size;have c4:=S.size;have c5:=V.lt;have bY:eM w2 ab ad B (.slice ν 0 0) (.slice ν 0 0) (.slice ν 0 0) (λr=>r=ab\/(w.heap.size<=r/\r<J.heap.size)) R0 n ⟨0,[],[],[]⟩ ⟨p9 3 ⟨0,0⟩,[],[],0⟩:=by
  refine⟨⟨.inl rfl,λr q O=>?_,λr q=>?_,λr q=>?_⟩,0,0,0,[],[],λr=>w.heap.size<=r/\r<J.heap.size,w0,V,⟨aN,ax.trans (ay.trans S),bf⟩,⟨(bX.cut).ext S,λr q=>.inr q,λq=>?_,λr q=>?_⟩,ap.nil _ _ _ _,⟨bg.nil _ _ _ _ _,rfl,λj x f W=>by simp at W⟩,bg.nil _ _ _ _ _,rfl,λj x f W=>by simp at W⟩
  .have O:=aQ r O;rcases q with q|q<;>omega
  .have q:=aQ r q;omega
  .rcases q with q|q<;>omega
  .omega
  .rcases q with q|q|q
   .obtain⟨a,c6,c,aR,c7⟩:=q;cases aR
   .exact (e7 q).elim
   .exact (e7 q).elim
 intro c8 X _ _;have bZ:=bY.ext X;rw[aO ct.p 1 (V.ext X) rfl];refine (Nj (h.ext ((ay.trans S).trans X))).mono ?_;rintro _ c9 _ ⟨rfl,az⟩;refine⟨.inl az,?_⟩;have b0:=bZ.ext az;obtain⟨aT,b1,b2⟩:=b0.qN;refine (tk (i:=0) (y:=0) b1 rfl Φ ⟨Ξ,Ξ,Ξ⟩).mono ?_;rintro _ bi _ ⟨_,b3,b4,b5⟩;obtain⟨b6,bj,aU⟩:=b2 b3 bi _ b4 b5;have aU:=aU.same (CW ⟨0,[],[],[]⟩ n.zero);have z3:=X.size;have z4:=az.size;have b7:=((ay.trans S).trans X).trans az;have bk:Ext w bi:=b7.then bj.1 λr q he=>by rcases he with he|he<;>omega
 refine (wr (h.ext bk)).mono ?_;rintro _ da _ ⟨rfl,bl⟩;refine ci.range n.sizes.length (λi aA=>∃A M t,Ext w aA/\eM aA ab ad B M (.slice ν 0 0) (.slice ν 0 0) A R0 n (eS n i 0) t/\t.bD=(eS n i 0).cells/\Plain t/\ ∀r,A r->w.heap.size<=r) Ω
  ⟨b6,_,_,bk.trans bl,aU.ext bl,?_,?_,λr q=>?_⟩ ?_ ?_
 .rw[aC.pX];rfl
 .exact Plain.set (t:=⟨p9 3 ⟨0,0⟩,[],[],0⟩) ⟨rfl,rfl,⟨rfl,rfl,λc G=>by rw[(List.mem_replicate.1 G).2];exact o4 _⟩,rfl⟩ _ _
 .rcases bj.2.1 r q with he|he
  .rcases he with he|he<;>omega
  .omega
 .rintro i aA b8 hi ⟨A,M,t,P,aV,Y,Z,aB⟩ b9;obtain⟨u,hu⟩:=aE (l:=n.unary) (i:=i) Ω;obtain⟨bm,bp⟩:=aE (l:=n.sizes) (i:=i) Ω;have db:u.length<=32:=by
   have dc:=(C.unary i bm u bp hu).1;have dd:=C.sizes.2.2 bm (x5 bp);omega
  refine bH Ω ?_;refine (CT (h.ext P) C).mono ?_;rintro de df _ ⟨cb,_,cc⟩;obtain⟨dg,dh,ce⟩:=cc u Ω (by rw[r8];exact hu);intro aX br _ _;have aY:=cb.trans br;have bt:=aV.ext aY;obtain⟨⟨_,_,_,ac⟩,a7,bu,ge,L,E,aT,w0,aF,_⟩:=id bt;have di:=aY.size;have dk:=P.size;rw[aO ct.p 2 aF rfl];refine pY (l:=[0,0]) an.u ak.i Ω rfl Ψ λcg dl dm dn aG bw=>?_;refine⟨.inl aG,?_⟩;refine gP an.u ak.i rfl bw ((ce.ext br).ls.ext aG) Θ Θ λch dr cj ck cl cm=>?_;have bx:∀r,leads cg r->aX.heap.size<=r:=λr q=>by obtain⟨aR,_⟩:=bU bw q;omega
  have aH:Ext aX cj:=aG.then cm λr q he=>by have:=bx r he;omega
  refine⟨.inl aH,?_⟩;have cn:=bt.ext aH;have cp:∀r,leads ch r->aX.heap.size<=r:=λr q=>by
   rcases cl r q with h|h
   .exact bx r h
   .have:=aG.size;omega
  have cq:t.cells.length<=2000000:=by
   have h1:=tq C bh i 0;rw[<-Y] at h1;unfold aC.bD at h1;rwa [u7] at h1
  have cr:t.olds.length=0:=by rw[Z.2.1];rfl
  have cu:t.marks.length=0:=by rw[Z.1];rfl
  refine (C6 cn ck.ls (λr q s=>by have:=ac r s;have:=cp r q;omega) Θ Θ Ω).mono ?_;rintro _ ds _ ⟨rfl,_,aZ,a1,cw⟩;obtain⟨⟨bz,bA,cz,bB⟩,a7,bu,ge,L,E,aT,w0,aF,⟨cA,cB,bC⟩,⟨cC,bE,bF,aJ⟩,cD,⟨cE,cF⟩,cG,cH⟩:=id cw;refine⟨.inr (tp (off:=2) (z:=2) aF (λK=>by rw[aP ct.p rfl]) Ψ rfl),?_⟩;refine ej (k:=.i64) al.u ag.i rfl λdt du bG dv H cI=>?_;have a2:=aF.ext H;refine⟨.inr (tp (off:=2) (z:=2) a2 (λK=>by rw[aP ct.p rfl]) Ψ rfl),?_⟩;have bI:(iu (eS n i 0)).length=i:=by
   unfold iu eS;simp only[u7,List.length_range,j5];omega
  have bJ:=cD.ext H;refine gP al.u ag.i rfl bJ cI.ls (by rw[bI];simp;omega) (by rw[bI];simp;omega) λbK cJ dw ah cK bL=>?_;have bM:=a2.U bL λhe=>cd bJ a2 Φ he rfl;rw[bW,aP ct.p rfl];refine bo al.i ah.ls.cells.1 ah.ls.cells.2 bM Ξ λa6 a8 dx ba=>?_;have ba:aa a6 ab ct [Γ B,Γ ad,bK,.slice ν 0 0,.slice ν 0 0]:=ba;rw[aM];have G:ae (λr=>leads M r\/r=ab) bG a6:=(bL.mono λr _ h=>.inl h).trans (a8.mono λr _ h=>.inr h);have dy:=aH.size;have z12:=a1.1.size;have dz:=H.size;have dA:=G.size;have bN:∀r,aZ r->w.heap.size<=r:=λr q=>(a1.2.1 r q).elim (aB r) λh=>Ω
  have bO:∀r,(leads M r\/r=ab)->aZ r:=λr q=>q.elim (λq=>(aJ r (.inl q)).1) λq=>q▸bz;have cL:(eS n (i+1) 0).cells=(eS n i 0).cells++(0::0::u):=by rw[C7 hu];exact Ns rfl
  have cM:t.cells.length=3+((eS n i 0).vars.flatMap hF).length:=by
   have h1:=congrArg T7 Y;rw[wq] at h1;unfold aC.bD at h1;rw[u7] at h1;have:((eS n i 0).funs.flatMap h2).length=0:=by simp[eS]
   omega
  refine b9 _ ⟨λr=>aZ r\/(bG.heap.size<=r/\r<a6.heap.size),bK,mH t ([0,0]++u),?_,⟨⟨.inl bz,λr q O=>?_,λr q=>by have:=cz r q;omega,λr q=>?_⟩,cJ,bu,ge,L,E,aT,w0,ba,⟨cA,tm (cB.trans H) G λr o q cN I=>bA r (bO r I) (bC r o q cN),bC⟩,⟨(cC.ext H).U G λr q I=>?_,λr q=>.inl (bE r q),bF,λr q=>?_⟩,?_,⟨(cE.ext H).U G λr q I=>?_,?_⟩,(cG.ext H).U G λr q I=>?_,?_⟩,?_,Z.lay _,λr q=>?_⟩
  .exact ((P.trans (aY.trans aH)).then a1.1 λr q he=>by have:=aB r he;omega).trans H |>.then G λr q I=>by have:=bN r (bO r I);omega
  .rcases q with q|q
   .exact bA r q O
   .have O:=aQ r O;omega
  .rcases q with q|q
   .have:=bB r q;omega
   .exact q.2
  .rcases I with I|rfl
   .exact (aJ r (.inl I)).2 q
   .exact bF q
  .rcases q with q|q|q
   .have dC:=(bU ah q);rcases cK r q with h|h
    .exact⟨.inl (aJ r (.inl h)).1,(aJ r (.inl h)).2⟩
    .refine⟨.inr ⟨h,by have:=a8.size;omega⟩,λcO=>by have:=bB r (bE r cO);omega⟩
   .exact (e7 q).elim
   .exact (e7 q).elim
  .rw[C7 hu,Nr,<-cM];exact bq ah a8 λr q he=>by
    have he:r=ab:=he;subst he;exact cd ah bM Φ q rfl
  .exact (e7 q).elim
  .refine⟨cF.1,λj x f W bb=>?_⟩;have bb:((n.funs.take 0).map (kx n.sizes))[j]? =σ f:=bb;simp at bb
  .exact (e7 q).elim
  .refine⟨cH.1,λj x e W he=>?_⟩;have he:([]:List pf)[j]? =σ e:=he;simp at he
  .rw[C4,cL,Y];rfl
  .rcases q with q|q
   .exact bN r q
   .omega
 .rintro aA b8 ⟨A,M,t,P,aV,Y,Z,aB⟩;refine ca Ω ?_;refine (CS (h.ext P)).mono ?_;rintro _ dD _ ⟨rfl,bP⟩;refine ci.range n.funs.length (λj aj=>∃A R aK t,Ext w aj/\eM aj ab ad B M aK (.slice ν 0 0) A R n (eS n n.sizes.length j) t/\t.bD=(eS n n.sizes.length j).cells/\Plain t/\(∀r,A r->w.heap.size<=r)/\ ∀r,R r->R0 r\/w.heap.size<=r) Ω
   ⟨A,_,_,t,P.trans bP,aV.ext bP,Y,Z,aB,λ_ h=>.inl h⟩ ?_ ?_
  .rintro j aj cP cQ ⟨A,R,aK,t,N,am,Q,ao,aq,bc⟩ cR;obtain⟨g,aL⟩:=aE (l:=n.funs) cQ;have bd:=(C.funs g (x5 aL)).1;refine bH Ω ?_;refine (Nk (h.ext N) C aL).mono ?_;rintro aD dE _ ⟨au,gs,dF,bQ⟩;refine (Nn aN (ax.trans (N.trans au)) aL).mono ?_;rintro _ dG _ ⟨av,gt,dH,cS,rfl,dI,dJ,cT,bR⟩;have z0:=ax.size;have cU:∀r,leads cS r->r<w.heap.size:=λr q=>by obtain⟨c,be⟩:=bR r q;have:=be.lt;omega
   have cV:=(am.ext au).ext av;have ac:∀r,A r->r<aj.heap.size:=am.1.2.2.2;have dK:=au.size;have cq:t.cells.length<=2000000:=by
    have h1:=tq C bh n.sizes.length j;rw[<-Q] at h1;unfold aC.bD at h1;rwa [u7] at h1
   have cr:t.olds.length=0:=by rw[ao.2.1];rfl
   have cu:t.marks.length=0:=by rw[ao.1];rfl
   have dL:g.2.length<=4096:=by have:=bd.len;have:=bd.small;omega
   have dM:g.1.length<=6:=bd.scope.2;refine (Nq (sc:=g.1) cV Q (bQ.ls.ext av) (λr q s=>by have:=ac r s;obtain⟨aR,_⟩:=bU bQ q;omega) cT ⟨λs=>by have:=ac _ s;omega,λs=>by have:=ac _ s;omega,λr q s=>by have:=aq r s;have:=cU r q;omega⟩ Ω Ω Ω Ω ?_).mono ?_
   .show ((n.funs.take j).map (kx n.sizes)).length<=_;rw[u7,j5];omega
   rintro _ dN _ ⟨rfl,_,aI,R',cW,bS,cX,dO,cY⟩;rw[aM];have bT:=Nt (i:=n.sizes.length) aL;refine cR _ ⟨aI,R',cW,n1 (eS n n.sizes.length j) t g.2,((N.trans au).trans av).then bS.1 (λr q s=>by have:=aq r s;omega),?_,?_,ao.put _,λr q=>?_,λr q=>?_⟩
   .rw[bT];exact cX
   .rw[bT];exact Np Q
   .rcases bS.2.1 r q with h|h
    .exact aq r h
    .have:=N.size;have:=av.size;omega
   .rcases cY r q with h|h|h
    .exact bc r h
    .exact .inl (by obtain⟨c,be⟩:=bR r h;exact bf r _ be rfl)
    .exact .inr (by have:=N.size;have:=au.size;have:=av.size;omega)
  .rintro aj cP ⟨A,R,aK,t,N,am,Q,ao,aq,bc⟩;refine ca Ω ?_;have e:eS n n.sizes.length n.funs.length=dj n:=by rw[<-bV];exact wB n
   rw[e] at am Q;exact⟨N,ab,ad,A,R,t,rfl,⟨B,M,aK,_,am⟩,Q,ao,aq,bc⟩
theorem Nw (L:Bytes l) (U:l.length<=100000):ai x7 Hy [bR l] w λv w'=>v=kq l/\Ext w w':=by
 refine aw func148 ?_;refine iB (λab ac J=>Ext w J/\ ∃ (m:Λ) (s:Int),ab=bR m/\ac=Δ s/\Bytes m/\m.length<=100000/\oS l m s) ?_ ?_
 .rintro _ _ J ⟨M,m,s,rfl,rfl,H,ax,I⟩;rw[nF c4.u,bi,ah];refine⟨λN=>?_,λN=>?_⟩
  .have O:m=[]:=Z0 Ω;exact⟨by rw[sx I (by rw[O];rfl)],M⟩
  have O:m≠[]:=λh=>N (by rw[h];rfl);refine pG.range m.length (λi _ _ P Q f=>Ext J f/\ ∃ (n:Int) (a:Bool),P= .int .u64 n/\Q= .bool a/\mu n a ((m.take i).foldl eW 0)/\(m.take i).all gm=true) Ω ⟨Ext.refl _,0,false,rfl,rfl,I5,rfl⟩ ?_ ?_
  .rintro i ad t3 _ _ f ae hi ⟨B,n,a,rfl,rfl,p,C⟩ af;obtain⟨b,q⟩:=aE (l:=m) hi;have ay:=H b (x5 q);rw[nF c4.u];refine bH Ω ?_;refine Aa (λ_ _ P Q j=>Ext J j/\ ∃ (n:Int) (a:Bool),P= .int .u64 n/\Q= .bool a/\mu n a ((m.take (i+1)).foldl eW 0)/\(m.take (i+1)).all gm=true) ?_ ?_
   .rintro az aA a3 a4 j ag;rw[aM];exact af _ _ _ _ _ ag
   intro au z;refine aT (λv j=>f=j/\v= .bool (!gm b)) ?_ ?_
   rotate_left
   .intro R e;rw[p0 rfl c4.u H q,aQ,ah];refine⟨λh=>e _ _ ⟨rfl,by unfold gm;rw[decide_eq_false Ω];rfl⟩,λh=>?_⟩;rw[p0 rfl c4.u H q,bS];refine e _ _ ⟨rfl,?_⟩;unfold gm;congr 1;by_cases W:57<b
    .rw[decide_eq_true W,decide_eq_false Ω];rfl
    .rw[decide_eq_false W,decide_eq_true Ω];rfl
   rintro _ _ ⟨rfl,rfl⟩;cases S:gm b with
   |false=>
    rw[V0,bO];exact⟨by rw[sx I (AZ q S)],M.trans B⟩
   |true=>
    rw[Y5,aW];have aj:=of_decide_eq_true S;have K:=I4 p aj;rw[AX q,AW q,C,S] at z;have al:=p.1;have am:=p.2.1;refine aT (λv j=>f=j/\v= .bool (a||decide (461168601842738790<n))) ?_ ?_
    rotate_left
    .intro R e;rw[bS,ah];refine⟨λh=>e _ _ ⟨rfl,by rw[decide_eq_true h,Bool.or_true]⟩,λh=>e _ _ ⟨rfl,by rw[decide_eq_false h,Bool.or_false]⟩⟩
    rintro _ _ ⟨rfl,rfl⟩;by_cases E:a=true\/461168601842738790<n
    .have r:(a||decide (461168601842738790<n))=true:=by rcases E with h|h<;>simp[h]
     rw[if_pos E,r] at K;rw[r,bF,Y5,aW];exact z _ _ _ _ _ ⟨B,n,true,rfl,rfl,K,rfl⟩
    .have r:(a||decide (461168601842738790<n))=false:=by
      cases a with
      |true=>exact absurd (.inl rfl) E
      |false=>simp;omega
     rw[if_neg E,r] at K;have aB:¬461168601842738790<n:=λh=>E (.inr h);rw[r,bF,V0,bO,hQ,p0 rfl c4.u H q,dR,wrap_u8 Ω Ω,e3 cC.u fv.u,wrap_u64 Ω Ω,wrap_u64 Ω Ω,aM,wrap_u64 Ω Ω];exact z _ _ _ _ _ ⟨B,_,false,rfl,rfl,K,rfl⟩
  .rintro ad t3 _ _ f ae ⟨B,n,a,rfl,rfl,p,C⟩;rw[o7] at C p;rw[nF c4.u];refine ca Ω ?_;have X:=I6 p;have al:=p.1;have am:=p.2.1;have an:∀ {x:Int},x=m.foldl eW 0->0<=x->x<=4611686018427387904->(V x7 (convert fv ak (.int .u64 x)) f λao=>
     V x7 (aJ .mul ak false false (Δ s) ao) f λap=>(λv w'=>v=kq l/\Ext w w') (.tuple #[ap,(Δ 0)]) f):=by
    intro x aq N h1;rw[e3 fv.u ak.u,wrap_i64 Ω Ω,hQ];have hw:X7.wrap (s*x)=s*x:=by
     rcases I.1 with rfl|rfl<;>exact wrap_i64 Ω Ω
    rw[hw];refine⟨?_,M.trans B⟩;rw[A2 I (AY O C),aq]
   refine aT (λv j=>f=j/\v= .int .u64 (m.foldl eW 0)) ?_ ?_
   .rintro _ _ ⟨rfl,rfl⟩;have Y:=si (l:=m) (n:=0) C ⟨Int.le_refl _,Φ⟩;exact an rfl Y.1 Y.2
   intro R e;refine aT (λv j=>f=j/\v= .bool (a||decide (4611686018427387904<n))) ?_ ?_
   .rintro _ _ ⟨rfl,rfl⟩;rw[b0];refine⟨λh=>e _ _ ⟨rfl,?_⟩,λh=>e _ _ ⟨rfl,?_⟩⟩
    .have h':a=true\/4611686018427387904<n:=by simpa using h
     rw[X,if_pos h']
    .have h':¬(a=true\/4611686018427387904<n):=by
      intro G;rcases G with G|G
      .simp[G] at h
      .simp[G] at h
     rw[X,if_neg h']
   .intro aC Z;cases a with
    |true=>rw[bO];exact Z _ _ ⟨rfl,rfl⟩
    |false=>rw[aW,bS];exact Z _ _ ⟨rfl,by rw[Bool.false_or]⟩
 .intro au z;refine aT (λv w2=>w=w2/\ ∃c:Bool,v= .bool c/\(c=true↔l[0]? =σ 45)) ?_ ?_
  .rintro _ _ ⟨rfl,c,rfl,aa⟩;rw[b0];refine⟨λav=>?_,λr=>?_⟩
   .obtain⟨m,rfl⟩:∃m,l=45::m:=by
     have:=aa.1 av;cases l with
     |nil=>simp at this
     |cons x m=>exact⟨m,by simp at this;rw[this]⟩
    rw[Ae (y:=1) (i:=1) rfl c4.u Ξ];exact z _ _ _ ⟨Ext.refl _,m,-1,rfl,rfl,λb A=>L b (.tail _ A),by simp at U;omega,A0⟩
   .refine z _ _ _ ⟨Ext.refl _,l,1,rfl,rfl,L,U,A1 λb A he=>?_⟩;subst he;have:=aa.2 A;rw[r] at this;cases this
  .intro R e;rw[nF c4.u,bS,ah];refine⟨λh=>?_,λh=>e _ _ ⟨rfl,false,rfl,?_⟩⟩
   .obtain⟨b,A⟩:=aE (l:=l) (i:=0) Ω;rw[p0 (y:=0) (i:=0) rfl c4.u L A,bi];refine e _ _ ⟨rfl,_,rfl,?_⟩;rw[decide_eq_true_eq,A];exact⟨λh=>by rw[h],λh=>c7 h⟩
   .have:l=[]:=Z0 Ω;subst this;simp
theorem Nx {s:Go.Sem x1} (h:V x7 s w λu=>u=v) (hk:K v):V x7 s w K:=by
 obtain⟨u,h1,rfl⟩:=h;exact⟨u,h1,hk⟩
abbrev hg:Type:=Λ×Int
def fJ (x:hg):List x1:=[bR x.1,Δ x.2]
theorem wD (x:hg):∀u∈fJ x,u.oneCell'=true:=by
 intro u hu;simp[fJ] at hu;rcases hu with rfl|rfl<;>rfl
def iX (w:x3) (v:x1) (L:List hg):Prop:=b7 w 2 v L.length (L.flatMap fJ)
theorem wE {g:Nat} {L:List hg} (h:bg fJ 2 cn w g v L):iX w v L:=h.sl
theorem C8 {L:List hg} {a:r9} (h:iX w v L):V x7 (V3 #[fg] a #[v]) w K=K (Δ (L.length:Int)):=by
 obtain⟨_,_,_,_,_,rfl,_⟩:=h;exact h9 fg.u
theorem Ny {cs:List x1} (h:b7 w k v n cs) (f:ae S w w') (p:∀r,leadsTo v r->¬S r):b7 w' k v n cs:=by
 obtain⟨h1,b,o,base,cap,rfl,q,s,e,x⟩:=h;refine⟨h1,b,o,base,cap,rfl,q,s,e,?_⟩;rcases Q3 n with a|a
 .have:cs=[]:=Z0 (by rw[h1,a,Nat.zero_mul]);subst this;intro j v y;simp at y
 .have z:=e a;exact jh f (p b ⟨⟨b,o,ν⟩,n,cap,by rw[z],rfl⟩) x
theorem iX.U {L:List hg} (h:iX w v L) (a:ae S w w') (e:∀r,leadsTo v r->¬S r):iX w' v L:=Ny h a e
theorem C9 {x:hg} {L:List hg} (h:iX w v (x::L)) (a:∀b o,w.rangeAt b o (fJ x)->K (.pointer (σ ⟨b,o,ν⟩))):V x7 (c8 fg v (Δ 0)) w K:=by
 obtain⟨_,b,o,base,cap,rfl,_,_,e,f⟩:=h;have:=fz (P:=x7) (w:=w) (K:=K) (k:=.i64) (c:=cap) fg.u cn.i (show 0<(x::L).length by simp) e;rw[show ((0:Nat):Int)=0 from rfl] at this;rw[this];refine a _ _ λj u hu=>?_;have p:=(x4.1 hu).1;rw[Nat.zero_mul,Nat.add_zero];exact f j u (by rw[X2,Y8 p];exact hu)
theorem Nz {x:hg} {L:List hg} (h:iX w v (x::L)) (s:∀j,(∀w',iX w' v (x::L)->iX w' j L)->(∀r,leadsTo j r->leadsTo v r)->K j):V x7 (U2 fg v (σ (Δ 1)) ν ν) w K:=by
 have B:=h;obtain⟨_,b,o,base,cap,rfl,C,_⟩:=h;rw[iG fg.u cn.i (nr 1 1 rfl) kj gj Ξ Ω (o4 _)];refine s _ (λw' y=>?_) λr z=>?_
 .have:=b7.part (l:=1) (h:=(x::L).length) (m:=cap) y Ξ (o4 _) Ω (o4 _);have e:(((x::L).flatMap fJ).drop (1*2)).take (((x::L).length-1)*2)=L.flatMap fJ:=by
   rw[X2];have A:(L.flatMap fJ).length=L.length*2:=ij (k:=2) λ_ _=>rfl;show (L.flatMap fJ).take _=_;rw[o9 (by rw[A,b8,Nat.add_sub_cancel];exact o4 _)]
  rw[e] at this;exact this
 .obtain⟨a,n,c,f,p⟩:=z;split at f
  .cases f;exact⟨_,_,_,rfl,p⟩
  .cases base with
   |none=>cases f
   |some q=>cases f;exact⟨_,_,_,rfl,p⟩
theorem NA {g:Nat} {L:List hg} (x:y=(n:Int)) (h:bg fJ 2 cn w g v L) (z:n<=L.length) (A:∀p,iX w p (L.take n)->(∀r,leadsTo p r->leadsTo v r)->K p):V x7 (U2 fg v ν (σ (Δ y)) ν) w K:=by
 have B:=wE h;obtain⟨_,b,o,base,cap,rfl,F,_⟩:=h.sl;rw[iG fg.u cn.i ki (ns n y x) gj (X8 _) Ω (o4 _)];refine A _ ?_ λr C=>?_
 .have:=b7.part (l:=0) (h:=n) (m:=cap) B (X8 _) z Ω (o4 _);have e:((L.flatMap fJ).drop (0*2)).take ((n-0)*2)=(L.take n).flatMap fJ:=by
   rw[Nat.zero_mul,List.drop_zero,Nat.sub_zero,qp (f:=fJ) (k:=2) n λ_ _=>rfl]
  rw[e] at this;have E:(L.take n).length=n-0:=by rw[j5];omega
  unfold iX;rw[E];exact this
 .obtain⟨a,n,c,j,s⟩:=C;split at j
  .cases j;exact⟨_,_,_,rfl,s⟩
  .cases base with
   |none=>cases j
   |some q=>cases j;exact⟨_,_,_,rfl,s⟩
def NB (w:x3) (pl:Λ) (v:x1) (w':x3):Prop:=Ext w w'/\ ∃a L,∃bad:Int,v= .tuple #[a,Δ bad]/\iX w' a L/\L.map (·.1)=(lex pl).1/\(0<=bad↔(lex pl).2=false)/\(∀r,leadsTo a r->w.heap.size<=r)/\ ∀r,leadsTo a r-> ∃c,aa w' r cn c
theorem NC {p:x1} (S:aF .u8 w p pl) (aA:Bytes pl) (bb:pl.length<=65536):ai x7 GL [p] w (NB w pl):=by
 refine aw func87 ?_;rw[aX cP.u S];refine pG.range pl.length (λi _ _ A N J=>Ext w J/\ ∃g L,∃ (q:List (Λ)) (B:Λ) (op:Bool),N= .bool op/\bg fJ 2 cn J g A L/\L.map (·.1)=(if op then q++[B] else q)/\(op=true->B.length<=i)/\L.length<=i/\ie (pl.drop i) q B op=lex pl/\ ∀r,leadsTo A r->w.heap.size<=r) S.le
  ⟨Ext.refl _,0,[],[],[],false,rfl,bg.nil _ _ _ _ _,rfl,(λh=>by cases h),o4 _,Jo pl,λr C=>(e7 C).elim⟩ ?_ ?_
 rotate_left
 .rintro aC t3 A N J aD ⟨G,g,L,q,B,op,rfl,E,z,_,_,s,H⟩;refine ca Ω ?_;rw[List.drop_length] at s;have s:(if op then q++[B] else q,true)=lex pl:=s;exact⟨G,A,L,-1,rfl,wE E,by rw[z,<-s],by rw[<-s];simp,H,λr C=>by obtain⟨rfl,c,Y⟩:=ef E C;exact⟨c,Y⟩⟩
 rintro i aC t3 A N J aD hi ⟨G,g,L,q,B,op,rfl,E,z,am,bc,s,H⟩ aG;obtain⟨b,Z⟩:=aE (l:=pl) hi;have bd:=aA b (x5 Z);have an:pl.drop i=b::pl.drop (i+1):=by rw[W5 hi,(x4.1 Z).2]
 rw[an] at s;unfold ie at s;refine bH Ω ?_;refine Aa (λ_ _ A N aa=>Ext w aa/\ ∃g L,∃ (q:List (Λ)) (B:Λ) (op:Bool),N= .bool op/\bg fJ 2 cn aa g A L/\L.map (·.1)=(if op then q++[B] else q)/\(op=true->B.length<=i+1)/\L.length<=i+1/\ie (pl.drop (i+1)) q B op=lex pl/\ ∀r,leadsTo A r->w.heap.size<=r) ?_ ?_
 .rintro bf bh a3 a4 aa aH;rw[aM];exact aG _ _ _ _ _ aH
 intro au ao;rw[be cP.u cC.i Ψ (S.ext G) Z];refine aT (λv O=>J=O/\v= .bool (cw b)) ?_ ?_
 rotate_left
 .intro ab y;unfold cw at y;rw[bi,ah];refine⟨λh=>y _ _ ⟨rfl,by rw[decide_eq_true (.inl h)]⟩,λh1=>?_⟩;rw[bi,ah];refine⟨λh=>y _ _ ⟨rfl,by rw[decide_eq_true (.inr (.inl h))]⟩,λU=>?_⟩;rw[bi,ah];refine⟨λh=>y _ _ ⟨rfl,by rw[decide_eq_true (.inr (.inr (.inl h)))]⟩,λaI=>?_⟩;rw[bi];refine y _ _ ⟨rfl,?_⟩;congr 1;rw[U1,decide_eq_true_eq,decide_eq_true_eq];exact⟨λh=>.inr (.inr (.inr h)),λh=>by rcases h with h|h|h|h;exact absurd h h1;exact absurd h U;exact absurd h aI;exact h⟩
 rintro _ _ ⟨rfl,rfl⟩;cases I:cw b with
 |true=>
  rw[bO];rw[if_pos I] at s;exact ao _ _ _ _ _ ⟨G,g,L,_,[],false,rfl,E,z,(λh=>by cases h),Ω,s,H⟩
 |false=>
  rw[aW];rw[if_neg (by rw[I];simp)] at s;refine aT (λv O=>J=O/\v= .bool (!bM b)) ?_ ?_
  rotate_left
  .intro ab y;unfold bM at y;rw[aQ,ah];refine⟨λh=>y _ _ ⟨rfl,by rw[decide_eq_false Ω];rfl⟩,λh=>?_⟩;rw[bS];refine y _ _ ⟨rfl,?_⟩;by_cases U:126<b
   .rw[decide_eq_true U,decide_eq_false Ω];rfl
   .rw[decide_eq_false U,decide_eq_true Ω];rfl
  rintro _ _ ⟨rfl,rfl⟩;cases hw:bM b with
  |false=>
   rw[V0,bO];rw[if_neg (by rw[hw];simp)] at s;refine aT (λv O=>J=O/\ ∃W,iX J v W/\W.map (·.1)=q/\(∀r,leadsTo v r->w.heap.size<=r)/\ ∀r,leadsTo v r->leadsTo A r) ?_ ?_
   .rintro v _ ⟨rfl,W,ac,aJ,X,aK⟩;exact⟨G,v,W,(i:Int),rfl,ac,by rw[aJ,<-s],by rw[<-s];simp,X,λr C=>by obtain⟨rfl,c,Y⟩:=ef E (aK r C);exact⟨c,Y⟩⟩
   .intro ab y;cases op with
    |false=>
     rw[aW];rw[if_neg Ξ] at z;exact y _ _ ⟨rfl,L,wE E,z,H,λ_ h=>h⟩
    |true=>
     rw[bO];rw[if_pos rfl] at z;have ad:L.length=q.length+1:=by have:=congrArg T7 z;simpa using this
     rw[eA fg.u E,dR,wrap_i64 Ω Ω];refine NA (n:=q.length) Ω E Ω λQ ac X=>y _ _ ⟨rfl,_,ac,?_,λr C=>H r (X r C),X⟩;rw[List.map_take,z,List.take_left]
  |true=>
   rw[Y5,aW];rw[if_pos hw] at s;refine aT (λA ae=>Ext w ae/\ ∃g M,∃x:hg,bg fJ 2 cn ae g A (M++[x])/\M.map (·.1)=q/\x.1=(if op then B else[])/\(M++[x]).length<=i+1/\ ∀r,leadsTo A r->w.heap.size<=r) ?_ ?_
   .rintro bj ae ⟨ap,aL,M,x,aN,aO,af,aR,aq⟩;intro ag aj _ _;have R:=aN.ext aj;have av:(M++[x])[M.length]? =σ x:=Ξ
    have bk:(M++[x]).length=M.length+1:=Ξ
    rw[eA fg.u R,dR,wrap_i64 Ω Ω,db (i:=M.length) Ω fg.u cn.i R Ω,aP cn.p rfl,aB (o:=M.length*2+0) Ψ (R.range av 0 _ rfl),aM,wrap_i64 Ω Ω];obtain⟨bl,ax⟩:∃Q,aF .u8 ag Q [b]/\V x7 (U2 cP p (σ (Δ (i:Int))) (σ (Δ ((i:Int)+1))) ν) ag (λv=>v=Q):=by
     have aS:=S.ext (ap.trans aj);have:=sk (P:=x7) (low:=σ (Δ (i:Int))) (high:=σ (Δ ((i:Int)+1))) (K:=λv=>aF .u8 ag v [b]) cP.u cC.i aS (nr i _ rfl) (ns (i+1) ((i:Int)+1) Ω) Ω Ω λQ ay=>by
      have e:((ints .u8 pl).drop (i*1)).take ((i+1-i)*1)=ints .u8 [b]:=by
       simp only[T5,show i+1-i=1 by omega];rw[ints,<-List.map_drop,<-List.map_take,an];rfl
      rw[e] at ay;exact aF.of (n:=i+1-i) ay
     obtain⟨v,aU,aV⟩:=this;exact⟨v,aV,v,aU,rfl⟩
    refine Nx ax.2 ?_;have bm:x.1.length<=65536:=by
     rw[af];cases op with
     |true=>rw[if_pos rfl];have:=am rfl;omega
     |false=>simp
    rw[vn cP.u cC.u c4.u ax.1,vm Θ,db (i:=M.length) Ω fg.u cn.i R Ω,aP cn.p rfl];refine o0 (f:=fJ) (j:=0) (a:=x) (a':=(x.1++[b],x.2)) c4.i rfl rfl R av rfl Ω λbn aY bo az=>?_;have e:(M++[x]).set M.length (x.1++[b],x.2)=M++[(x.1++[b],x.2)]:=by
     rw[T8 _ _ (o4 _),U7];rfl
    rw[e] at az;refine ao _ _ _ _ _ ⟨(ap.trans aj).then aY (λr C he=>by have:=aq r he;omega),aL,_,q,x.1++[b],true,rfl,az,by rw[j6,aO];rfl,λ_=>?_,by simp at aR ⊢;omega,?_,aq⟩
    .rw[p8,af];cases op with
     |true=>rw[if_pos rfl];have:=am rfl;simp;omega
     |false=>simp
    .rw[<-s,af];cases op with
     |true=>rfl
     |false=>rfl
   .intro ab y;cases op with
    |true=>
     rw[bF,Y5,aW];rw[if_pos rfl] at z;have ad:L.length=q.length+1:=by have:=congrArg T7 z;simpa using this
     obtain⟨M,x,rfl⟩:∃M x,L=M++[x]:=by
      have:L≠[]:=λh=>by rw[h] at ad;simp at ad
      exact⟨L.dropLast,L.getLast this,(List.dropLast_concat_getLast this).symm⟩
     rw[j6] at z;obtain⟨aZ,ak⟩:=List.append_inj' z Ξ;refine y _ _ ⟨G,g,M,x,E,aZ,?_,Ω,H⟩;rw[if_pos rfl];have ak:[x.1]=[B]:=ak;exact (List.cons.inj ak).1
    |false=>
     rw[bF,V0,bO];rw[if_neg Ξ] at z;rw[dq (cs:=#[bR [],Δ (i:Int)]) Ψ];refine h0 (f:=fJ) (a:=(([],(i:Int)):hg)) fg.u cn.i Ω rfl rfl λv9 bp bq br al a1=>?_;have a2:=E.ext al;refine ik (f:=fJ) (a:=(([],(i:Int)):hg)) fg.u cn.i rfl a2 (by simpa using a1.sl) (wD _) Ω Ω λQ a6 bt a7 a8 ba=>?_;have bu:=G.size;have z9:=al.size;refine y _ _ ⟨(G.trans al).then ba (λr C he=>by have:=H r he;omega),a6,L,_,a7,z,rfl,Θ,λr C=>?_⟩;rcases a8 r C with h|h
     .exact H r h
     .omega
structure wF where
 v:x1
 t:Λ
 c:Int
def n2 (y:wF):List x1:=[y.v,Δ y.c]
def ky (w:x3) (g:Nat) (v:x1) (l:List (Λ×Int)):Prop:=∃L:List wF,bg n2 2 cc w g v L/\(∀y∈L,∃gy,ap .i64 ak w gy y.v y.t)/\L.map (λy=>(y.t,y.c))=l
structure iY where
 aD:x1
 szv:x1
 o:Int
 b6:x1
def eT (h:iY):List x1:=[h.aD,h.szv,Δ h.o,h.b6]
def gQ (w:x3) (h:iY) (x:ch):Prop:=(∃g,ap .i64 ak w g h.aD x.scope)/\(∃g,ap .i64 ak w g h.szv x.sizes)/\h.o=x.other/\ ∃g,ky w g h.b6 x.lines
def hh (w:x3) (r:Nat):Prop:=∃e c,aa w r e c/\e≠ak/\e≠cc
theorem eC {g:Nat} (h:ap .i64 ak w g v l) (f:ae S w w') (j:∀r,S r->hh w r\/w.heap.size<=r):ap .i64 ak w' g v l:=bq h f λr a I=>by
 rcases j r I with⟨e,c,p,q,_⟩|s
 .exact cd h p (λhe=>q he.symm) a rfl
 .obtain⟨x,y⟩:=bU h a;omega
theorem wG {α:Type} {f:α->List x1} {g:Nat} {L:List α} (h:bg f k e w g v L) (p:ae S w w') (q:∀r,S r->(∃a c,aa w r a c/\a≠e)\/w.heap.size<=r):bg f k e w' g v L:=h.U p λr j I=>by
 rcases q r I with⟨a,c,s,x⟩|y
 .exact cQ h s (λhe=>x he.symm) j
 .obtain⟨z,A⟩:=h.leads j;omega
theorem ky.dM {g:Nat} {l:List (Λ×Int)} (h:ky w g v l) (a:ae S w w') (f:∀r,S r->hh w r\/w.heap.size<=r):ky w' g v l:=by
 obtain⟨L,h1,j,p⟩:=h;refine⟨L,wG h1 a λr q=>(f r q).imp (λ⟨e,c,s,_,x⟩=>⟨e,c,s,x⟩) id,λy z=>?_,p⟩;obtain⟨gy,hm⟩:=j y z;exact⟨gy,eC hm a f⟩
theorem gQ.dM {h:iY} {x:ch} (ay:gQ w h x) (a:ae S w w') (e:∀r,S r->hh w r\/w.heap.size<=r):gQ w' h x:=by
 obtain⟨⟨g1,h1⟩,⟨f,j⟩,p,q,s⟩:=ay;exact⟨⟨g1,eC h1 a e⟩,⟨f,eC j a e⟩,p,q,s.dM a e⟩
theorem gQ.ext {h:iY} {x:ch} (ay:gQ w h x) (a:Ext w w'):gQ w' h x:=ay.dM (a.U λ_=>False) λ_ h=>h.elim
theorem gQ.one {h:iY} {x:ch} (ay:gQ w h x):∀u∈eT h,u.oneCell'=true:=by
 obtain⟨⟨g1,h1⟩,⟨f,a⟩,j,p,L,e,_⟩:=ay;intro u hu;simp[eT] at hu;rcases hu with rfl|rfl|rfl|rfl
 .exact h1.ls.cells.2
 .exact a.ls.cells.2
 .rfl
 .exact (eL e.sl).2
def l0 (w:x3) (a:x1) (f:List hg) (gs:Nat) (sv:x1) (L:List iY) (e:List ch):Prop:=(iX w a f/\ ∀r,leadsTo a r-> ∃c,aa w r cn c)/\bg eT 4 a1 w gs sv L/\e.length=L.length/\ ∀ (i:Nat) h x,L[i]? =σ h->e[i]? =σ x->gQ w h x
theorem l0.dM {p:x1} {y:List hg} {gs:Nat} {L:List iY} {z:List ch} (h:l0 w p y gs sv L z) (j:ae S w w') (q:∀r,S r->(∃e c,aa w r e c/\e≠ak/\e≠cc/\e≠cn/\¬leadsTo sv r)\/w.heap.size<=r):l0 w' p y gs sv L z:=by
 obtain⟨⟨h1,A⟩,B,E,F⟩:=h;have hw:∀r,leadsTo p r->¬S r:=λr a I=>by
  obtain⟨c,f⟩:=A r a;rcases q r I with⟨e,G,C,_,_,s,_⟩|H
  .exact s (eu C f)
  .have:=f.lt;omega
 refine⟨⟨h1.U j hw,λr a=>?_⟩,B.U j λr a I=>?_,E,λi ay x hi J=>(F i ay x hi J).dM j λr a=>(q r a).imp (λ⟨e,c,f,K,M,_⟩=>⟨e,c,f,K,M⟩) id⟩
 .obtain⟨c,f⟩:=A r a;exact⟨c,f.U j (hw r a)⟩
 .rcases q r I with⟨e,G,C,_,_,_,s⟩|H
  .exact s a
  .obtain⟨N,O⟩:=B.leads a;omega
def gx (a:x1) (e f bad h big j told:Int) (sv:x1):List x1:=[a,Δ e,Δ f,Δ bad,Δ h,Δ big,Δ j,Δ told,sv]
def ND (N:Nat) (so:Option aA) (a:List hg) (e bad big told:Int) (L:List iY) (f:List ch):Prop:=match so with
 |some s=>bad=0/\e≠0/\(big≠0↔s.big=true)/\(s.big=false->told=s.told)/\True/\a.map (·.1)=s.toks/\(∀t∈s.toks,Bytes t/\t.length<=65536)/\f.map (λx=>(x.sizes,x.lines))=s.shared/\L.length+a.length<=100000
 |none=>bad≠0/\L.length<=N
def bL (w:x3) (g B:Nat) (H:af) (N:Nat) (so:Option aA):Prop:=100000<=N/\ ∃w0 a e gs sv L f,∃ (j h bad p big q told:Int),w0.heap.size=B/\ae (λr=>r=g) w0 w/\(∃c,aa w0 g bB c)/\aa w g bB (gx a j h bad p big q told sv)/\l0 w0 a e gs sv L f/\(∀r,leadsTo sv r->H r)/\ND N so e h bad big told L f
theorem l0.g {g:Nat} {e:x1} {f:List hg} {gs:Nat} {L:List iY} {j:List ch} (h:l0 w e f gs sv L j) (q:ae (λr=>r=g) w w') (s:∃c,aa w g bB c):l0 w' e f gs sv L j:=
 h.dM q λr a=>.inl (by
  have a:r=g:=a;subst a;obtain⟨c,p⟩:=s;exact⟨_,c,p,Φ,Φ,Φ,λx=>cQ h.2.1 p Φ x⟩)
theorem bL.new {g:Nat} {H:af} {so:Option aA} (h:bL w g B H N so) (a:ae S w w') (e:∀r,S r->B<=r):bL w' g B H N so:=by
 obtain⟨s,w0,x,y,gs,sv,L,z,A,C,bad,E,big,F,told,h1,f,j,G,J,K,M⟩:=h;have p:g<w0.heap.size:=by obtain⟨c,O⟩:=j;exact O.lt
 exact⟨s,w0,x,y,gs,sv,L,z,A,C,bad,E,big,F,told,h1,⟨X0 f.size a.size,λr o q I p=>a.aV r o (f.aV r o q I p) I λP=>by
  have:=e r P;have:=(j0.1 q).1;omega⟩,j,G.U a λI=>by have:=e g I;omega,J,K,M⟩
theorem bL.ext {g:Nat} {H:af} {so:Option aA} (h:bL w g B H N so) (a:Ext w w'):bL w' g B H N so:=h.new (a.U λ_=>False) λ_ h=>h.elim
theorem bL.base {g:Nat} {H:af} {so:Option aA} (h:bL w g B H N so):bL w g w.heap.size H N so:=by
 obtain⟨e,w0,f,j,gs,sv,L,p,q,r,bad,s,big,x,told,h1,y,z,a,A,C,E⟩:=h;exact⟨e,w,f,j,gs,sv,L,p,q,r,bad,s,big,x,told,rfl,ae.refl _ _,⟨_,a⟩,a,A.g y z,C,E⟩
theorem bL.dM {g:Nat} {H:af} {so:Option aA} (h:bL w g B H N so) (j:ae S w w') (p:∀r,S r->(∃e c,aa w r e c/\e≠ak/\e≠cc/\e≠cn/\e≠bB/\¬H r)\/w.heap.size<=r):bL w' g w'.heap.size H N so:=by
 obtain⟨z,w0,q,s,gs,sv,L,x,A,C,bad,E,big,F,told,h1,G,J,f,K,y,M⟩:=h.base;have O:l0 w q s gs sv L x:=K.g G J;have a:=f.U j λI=>by
  rcases p g I with⟨e,c,a,_,_,_,P,_⟩|Z
  .exact P (eu a f)
  .have:=f.lt;omega
 refine⟨z,w',q,s,gs,sv,L,x,A,C,bad,E,big,F,told,rfl,ae.refl _ _,⟨_,a⟩,a,O.dM j λr Q=>(p r Q).imp (λ⟨e,c,a,R,V,W,_,X⟩=>⟨e,c,a,R,V,W,λY=>X (y r Y)⟩) id,y,M⟩
theorem bL.lt {g:Nat} {H:af} {so:Option aA} (h:bL w g B H N so):g<B/\B<=w.heap.size:=by
 obtain⟨f,w0,j,p,gs,sv,L,q,r,s,bad,x,big,y,told,h1,a,⟨c,e⟩,_⟩:=h;have:=e.lt;have:=a.size;omega
theorem h3 {g:Nat} {H:af} {so:Option aA} (h:bL w g B H N so):∃a,∃ (e f bad j big p told:Int),∃sv,aa w g bB (gx a e f bad j big p told sv)/\(so.isSome=true↔bad=0):=by
 obtain⟨x,w0,a,y,gs,sv,L,z,e,f,bad,j,big,p,told,h1,A,C,r,E,F,q⟩:=h;refine⟨a,e,f,bad,j,big,p,told,sv,r,?_⟩;cases so with
 |none=>exact⟨(λh=>by cases h),λh=>absurd h q.1⟩
 |some s=>exact⟨λ_=>q.1,λ_=>rfl⟩
theorem lk {g:Nat} {H:af} {so:Option aA} (h:bL w g B H N so):V x7 (bN (Γ g)) w (λa=>V x7 (u6 bB a 3) w λt45=>V x7 (u5 ag t45) w λt46=>V x7 (aJ .eql ag false true t46 (Δ 0)) w K)=K (.bool so.isSome):=by
 obtain⟨f,j,q,bad,r,big,s,told,sv,e,hi⟩:=h3 h;rw[aO bB.p 3 e rfl,bi];congr 2;rw[U1,decide_eq_true_eq];exact hi.symm
theorem qP {g:Nat} {H:af} {so:Option aA} (h:bL w g B H N so):V x7 (bN (Γ g)) w (λf=>V x7 (u6 bB f 3) w λt45=>V x7 (u5 ag t45) w λt46=>V x7 (aJ .neq ag false true t46 (Δ 0)) w K)=K (.bool (!so.isSome)):=by
 obtain⟨q,r,s,bad,x,big,y,told,sv,j,hi⟩:=h3 h;rw[aO bB.p 3 j rfl,bE];congr 2;cases e:so.isSome with
 |true=>have a:=hi.1 e;simp[a]
 |false=>
  have a:bad≠0:=λa=>by rw[hi.2 a] at e;cases e
  simp[a]
def pi (w:x3) (g B:Nat) (H:af) (N:Nat) (so:Option aA) (w':x3):Prop:=ae (λr=>r=g) w w'/\bL w' g B H N so
theorem n3 {g:Nat} {H:af} {so:Option aA} {e at_:Int} (h:bL w g B H N so) (he:e≠0):ai x7 nl [Γ g,Δ e,Δ at_] w λ_ w'=>pi w g B H N ν w':=by
 refine aw func92 ?_;rw[lk h];cases so with
 |none=>rw[R4,aW];exact⟨ae.refl _ _,h⟩
 |some s=>
  rw[R3,bO];obtain⟨y,w0,f,z,gs,sv,L,A,j,q,bad,R,big,r,told,h1,C,E,G,I,K,M⟩:=h;rw[bW,aP bB.p rfl];refine bo (g:=g) (o:=3) ag.i rfl rfl G (by simp[gx]) λJ O S P=>?_;rw[bW,aP bB.p rfl];refine bo (g:=g) (o:=4) ag.i rfl rfl P (by simp[gx]) λw2 Q U a=>?_;have a:aa w2 g bB (gx f j q e at_ big r told sv):=a;have x:=O.trans Q;obtain⟨_,_,_,_,_,_,_,_,V⟩:=M;exact⟨x,y,w0,f,z,gs,sv,L,A,j,q,e,at_,big,r,told,h1,C.trans x,E,a,I,K,he,Ω⟩
theorem mJ {g:Nat} {H:af} {so:Option aA} {b:Bool} {at_:Int} (h:bL w g B H N so):ai x7 rQ [Γ g,.bool b,Δ at_] w λ_ w'=>pi w g B H N (so.map (a6 b)) w':=by
 refine aw func89 ?_;obtain⟨I,w0,e,K,gs,sv,L,M,f,j,bad,q,big,W,told,h1,O,P,r,Q,R,x⟩:=id h;refine aT (λv J=>w=J/\v= .bool (b&&decide (big=0)&&so.isSome)) ?_ ?_
 .rintro _ _ ⟨rfl,rfl⟩;rw[b0];refine⟨λS=>?_,λX=>⟨ae.refl _ _,I,w0,e,K,gs,sv,L,M,f,j,bad,q,big,W,told,h1,O,P,r,Q,R,?_⟩⟩
  .rw[T0,T0] at S;obtain⟨⟨Y,aj⟩,Z⟩:=S;rw[bW,aP bB.p rfl];refine bo (g:=g) (o:=5) ag.i rfl rfl r (by simp[gx]) λJ ab ak ac=>?_;rw[bW,aP bB.p rfl];refine bo (g:=g) (o:=6) ag.i rfl rfl ac (by simp[gx]) λw2 ad al y=>?_;have y:aa w2 g bB (gx e f j bad q 5 at_ told sv):=y;have U:=ab.trans ad;refine⟨U,I,w0,e,K,gs,sv,L,M,f,j,bad,q,5,at_,told,h1,O.trans U,P,y,Q,R,?_⟩;cases so with
   |none=>cases Z
   |some s=>
    obtain⟨z,A,V,C,E⟩:=x;exact⟨z,A,⟨λ_=>by show (s.big||b)=true;rw[Y,Bool.or_true],λ_=>Ω⟩,λay=>C (S7.1 ay).1,E⟩
  .cases so with
   |none=>exact x
   |some s=>
    obtain⟨z,A,V,C,E⟩:=x;refine⟨z,A,?_,λay=>C (S7.1 ay).1,E⟩;show big≠0↔(s.big||b)=true;cases b with
    |false=>rw[Bool.or_false];exact V
    |true=>
     have a:big≠0:=by simpa using X
     simp[a]
 .intro au G;cases b with
  |false=>rw[aW];exact G _ _ ⟨rfl,Ξ⟩
  |true=>
   rw[bO,aO bB.p 5 r rfl,bi,ah];refine⟨λa=>?_,λa=>G _ _ ⟨rfl,by rw[decide_eq_false a];simp⟩⟩;rw[lk h];exact G _ _ ⟨rfl,by rw[decide_eq_true a];simp⟩
def jp (so:Option aA):Option (Λ×aA):=so.bind dK
theorem Da {g:Nat} {H:af} {so:Option aA} (h:bL w g B H N so):ai x7 GM [Γ g] w λv w'=>pi w g B H N ((jp so).map (·.2)) w'/\ ∃ (t:Λ) (n:Int),v= .agg #[bR t,Δ n]/\Bytes t/\t.length<=65536/\ ∀q,jp so=σ q->t=q.1:=by
 have aF:=h.lt;refine aw func88 ?_;refine bt cn.i λa J bk y z=>?_;have h1:=h.ext y;have zero:∀ {f:x3},pi J g B H N ν f->aa f a cn [.string ⟨#[]⟩,Δ 0]->jp so=ν->(V x7 (Instr.build cn #[]) f λt9=>
   av x7 (o5 cn (Γ a) t9) f λ(_:Unit) w2=>
   V x7 (do loadVar cn (<-asAddr (Γ a))) w2 λaG=>(λv w'=>pi w g B H N ((jp so).map (·.2)) w'/\ ∃ (t:Λ) (n:Int),v= .agg #[bR t,Δ n]/\Bytes t/\t.length<=65536/\ ∀q,jp so=σ q->t=q.1) aG w2):=by
  intro f j I Q;rw[dq (cs:=#[.string ⟨#[]⟩,Δ 0]) Ψ];refine bT (vs:=[.string ⟨#[]⟩,Δ 0]) cn.i rfl rfl (by intro v Z;simp at Z;rcases Z with rfl|rfl<;>rfl) I λaH ab bl aI=>?_;rw[fB cn.p cn.i rfl aI.range,Q];have aJ:=y.size;have bm:=aF;refine⟨⟨hy ((y.U _).trans j.1) ab λr e he=>?_,j.2.new ab λr e=>?_⟩,[],0,rfl,(λb aK=>by cases aK),Ξ,λq R=>by cases R⟩
  .have he:r=a:=he;omega
  .have e:r=a:=e;omega
 rw[qP h1];cases so with
 |none=>
  rw[R4,V0,bO];exact zero ⟨ae.refl _ _,h1⟩ z rfl
 |some s=>
 rw[R3,Y5,aW];obtain⟨aL,w0,bn,S,gs,sv,L,ac,ad,ag,bad,aj,big,ak,told,aM,al,am,A,K,aN,aQ⟩:=id h1;have aR:=K.g al am;obtain⟨⟨M,bp⟩,_⟩:=id aR;obtain⟨aS,an,aT,aU,aV,ao,ap,aX,aY⟩:=id aQ;rw[aO bB.p 0 A rfl,C8 M,bi,ah];refine⟨λaq=>?_,λaq=>?_⟩
 .have aZ:S=[]:=Z0 Ω;have C:s.toks=[]:=by rw[<-ao,aZ];rfl
  have Q:jp (σ s)=ν:=by show dK s=ν;unfold dK;rw[C]
  intro f O _ _;have I:=A.ext O;rw[aO bB.p 2 I rfl,aO bB.p 1 I rfl];refine (n3 (h1.ext O) an).mono ?_;rintro _ aH _ j;have a1:=z.lt;exact zero ⟨(O.U _).trans j.1,j.2⟩ ((z.ext O).U j.1 λhe=>by have he:a=g:=he;omega) Q
 .obtain⟨x,E,rfl⟩:∃x l,S=x::l:=by
   cases S with
   |nil=>exact absurd rfl aq
   |cons x l=>exact⟨x,l,rfl⟩
  have C:s.toks=x.1::E.map (·.1):=by rw[<-ao];rfl
  have a2:jp (σ s)=σ (x.1,{s with toks:=E.map (·.1)}):=by show dK s=_;unfold dK;rw[C]
  have au:=ap x.1 (by rw[C];exact .head _);rw[aO bB.p 0 A rfl];refine C9 M λb o a6=>?_;rw[bx cn.p cn.i rfl a6];refine bt cn.i λax bq br a7 a8=>?_;refine bT (vs:=fJ x) cn.i rfl rfl (wD x) a8 λba bb bu ay=>?_;have P:Ext J ba:=a7.put bb Ω;have az:=A.ext P;rw[aO bB.p 0 az rfl];refine Nz (M.U (P.U λ_=>False) λ_ _ h=>h) λW aB bc=>?_;have aC:=aB J M;rw[bW,aP bB.p rfl];refine bo (g:=g) (o:=0) fg.i (eL aC).1 (eL aC).2 az (by simp[gx]) λG X bw Y=>?_;have Y:aa G g bB (gx W ad ag bad aj big ak told sv):=Y;have a1:=A.lt;have bz:=ay.lt;have bA:=z.lt;have aJ:=y.size;have bd:aa G ax cn (fJ x):=ay.U X λhe=>by have he:ax=g:=he;omega
  rw[bx cn.p cn.i rfl bd.range];have be:aa G a cn [.string ⟨#[]⟩,Δ 0]:=(aa.ext z P).U X λhe=>by have he:a=g:=he;omega
  refine bT (vs:=fJ x) cn.i rfl rfl (wD x) be λbC aD bD bf=>?_;rw[fB cn.p cn.i rfl bf.range];have aE:ae (λr=>r=g) J G:=(P.U _).trans X;rw[a2];refine⟨⟨hy ((y.U _).trans aE) aD λr e he=>?_,?_⟩,x.1,x.2,rfl,au.1,au.2,λq R=>by cases R;rfl⟩
  .have he:r=a:=he;omega
  .have bg:l0 w0 W E gs sv L ac:=⟨⟨aB w0 K.1.1,λr e=>K.1.2 r (bc r e)⟩,K.2⟩;have bh:bL G g B H N (σ {s with toks:=E.map (·.1)}):=⟨aL,w0,W,E,gs,sv,L,ac,ad,ag,bad,aj,big,ak,told,aM,al.trans aE,am,Y,bg,aN,aS,an,aT,aU,aV,rfl,λt bj=>ap t (by rw[C];exact .tail _ bj),aX,by simp at aY;omega⟩;refine bh.new aD λr e=>?_;have e:r=a:=e;omega
theorem NE {lo hi:Int} {so:Option aA}:bb lo hi so=match jp so with
  |none=>ν
  |some (w,s)=>match gn w with
   |none=>ν
   |some n=>if lo<=n/\n<=hi then σ (n,s) else ν:=by
 cases so with
 |none=>rfl
 |some s=>rfl
theorem kz {g:Nat} {H:af} {so:Option aA} {lo hi:Int} (h:bL w g B H N so):ai x7 lJ [Γ g,Δ lo,Δ hi] w λv w'=>pi w g B H N ((bb lo hi so).map (·.2)) w'/\ ∃n at_:Int,v= .tuple #[Δ n,Δ at_]/\(∀q,bb lo hi so=σ q->n=q.1)/\(bb lo hi so=ν->n=0):=by
 have aB:=h.lt;refine aw func90 ?_;refine (Da h).mono ?_;rintro _ J _ ⟨⟨O,h1⟩,t,at_,rfl,Y,aC,P⟩;have aD:=h1.lt;refine bt cn.i λZ w2 aE aa ab=>?_;refine bT (vs:=[bR t,Δ at_]) cn.i rfl rfl (by intro v Q;simp at Q;rcases Q with rfl|rfl<;>rfl) ab λac ad aF R=>?_;have S:Ext J ac:=aa.put ad Ω;have ag:=h1.ext S;rw[az cn.p 0 R rfl];refine (Nw Y Ω).mono ?_;rintro _ C _ ⟨rfl,E⟩;have G:=ag.ext E;have V:=R.ext E;have aj:=S.trans E;have aG:=O.size;obtain⟨n,e,ak,I,al⟩:∃n e:Int,kq t= .tuple #[Δ n,Δ e]/\(∀m,gn t=σ m->n=m/\e=0)/\(gn t=ν->e≠0):=by
  unfold kq;cases gn t with
  |none=>exact⟨0,4,rfl,(λm hm=>by cases hm),λ_=>Ω⟩
  |some m=>exact⟨m,0,rfl,(λm hm=>by cases hm;exact⟨rfl,rfl⟩),λh=>by cases h⟩
 rw[ak,bu,bw];have a:=NE (lo:=lo) (hi:=hi) (so:=so);have W:ae (λr=>r=g) w C:=O.trans (aj.U _);refine dm (λx=>ae (λr=>r=g) C x/\bL x g B H N ((bb lo hi so).map (·.2))) ?_ ?_
 .rintro x ⟨y,s⟩;rw[qP s];cases z:bb lo hi so with
  |none=>
   rw[z] at s;rw[Option.map_none,R4,V0,bO];exact⟨⟨W.trans y,s⟩,0,0,rfl,(λq z=>by cases z),λ_=>rfl⟩
  |some q=>
   rw[z] at s a;rw[Z6,R3,Y5,aW];intro aH K _ _;have am:=(V.U y λhe=>by have he:Z=g:=he;omega).ext K;rw[az cn.p 1 am rfl];refine⟨⟨(W.trans y).trans (K.U _),s.ext K⟩,n,at_,rfl,λaI an=>?_,λh=>by cases h⟩;cases an;cases j:jp so with
   |none=>rw[j] at a;cases a
   |some p=>
    obtain⟨bp,L⟩:=p;have M:=P (bp,L) j;subst M;rw[j] at a;simp only at a;cases f:gn t with
    |none=>rw[f] at a;cases a
    |some m=>
     rw[f] at a;simp only at a;split at a
     .cases a;exact (I m f).1
     .cases a
 .intro au X;refine aT (λv x=>C=x/\ ∃c:Bool,v= .bool c/\(c=true->bb lo hi so=ν)/\(c=false->(bb lo hi so).map (·.2)=(jp so).map (·.2))) ?_ ?_
  .rintro _ _ ⟨rfl,c,rfl,ao,ap⟩;rw[b0];refine⟨λh=>?_,λh=>X _ ⟨ae.refl _ _,by rw[ap h];exact G⟩⟩;rw[az cn.p 1 V rfl];refine (n3 G Ω).mono ?_;rintro _ x _ ⟨y,s⟩;exact X _ ⟨y,by rw[ao h];exact s⟩
  .intro aJ A;rw[lk G];cases j:jp so with
   |none=>
    rw[j] at a;simp only at a;rw[Option.map_none,R4,aW];exact A _ _ ⟨rfl,false,rfl,(λh=>by cases h),λ_=>by rw[a,j];rfl⟩
   |some p=>
    obtain⟨bp,L⟩:=p;have M:=P (bp,L) j;subst M;rw[j] at a;simp only at a;rw[Z6,R3,bO,bE,ah];refine⟨λhe=>?_,λhe=>?_⟩
    .refine A _ _ ⟨rfl,true,rfl,λ_=>?_,λh=>by cases h⟩;cases f:gn t with
     |none=>rw[a,f]
     |some m=>exact absurd (I m f).2 he
    .have aq:e=0:=Y7.1 he;cases f:gn t with
     |none=>exact absurd aq (al f)
     |some m=>
      rw[f] at a;simp only at a;have av:=(I m f).1;subst av;rw[aQ,ah];refine⟨λax=>A _ _ ⟨rfl,true,rfl,λ_=>by rw[a,if_neg Ω],λh=>by cases h⟩,λax=>?_⟩;rw[bS];refine A _ _ ⟨rfl,_,rfl,λay=>?_,λay=>?_⟩
      .rw[a,if_neg (by have:=of_decide_eq_true ay;omega)]
      .rw[a,if_pos (by have:=of_decide_eq_false ay;omega),j];rfl
theorem wH {bf bv:x1} {a b:Λ} (e:aF .i64 w bf a) (s:aF .i64 w bv b):ai x7 rS [bf,bv] w λv w'=>v= .bool (decide (a=b))/\Ext w w':=by
 refine aw func149 ?_;rw[aX an.u e,aX an.u s,bE,ah];refine⟨λh=>⟨by rw[decide_eq_false];intro he;rw[he] at h;exact h rfl,Ext.refl _⟩,λh=>?_⟩;have z:a.length=b.length:=by have:=Y7.1 h;omega
 rw[aX an.u e];refine bY.range a.length (λi _ J=>Ext w J/\a.take i=b.take i) e.le ⟨Ext.refl _,rfl⟩ ?_ ?_
 .rintro i _ J k hi ⟨q,f⟩ hk;obtain⟨x,j⟩:=aE (l:=a) hi;obtain⟨y,r⟩:=aE (l:=b) (i:=i) Ω;refine bH Ω ?_;intro w2 A _ _;have p:=q.trans A;rw[be an.u ak.i Ψ (e.ext p) j,be an.u ak.i Ψ (s.ext p) r,bE,ah];refine⟨λB=>⟨by rw[decide_eq_false];intro he;rw[he,r] at j;exact B (c7 j).symm,p⟩,λhe=>?_⟩;rw[aM];refine hk _ _ ⟨p,?_⟩;rw[u9,u9,f,j,r,Y7.1 he]
 .rintro _ J k ⟨q,f⟩;rw[aQ,ah];refine⟨λh=>Ω,λ_=>⟨?_,q⟩⟩;rw[o7,z,o7] at f;rw[decide_eq_true f]
def hj (w:x3) (B a:Nat) (x:ch):Prop:=∃aD szv b6 g1 e f,aa w a a1 [aD,szv,Δ x.other,b6]/\ap .i64 ak w g1 aD x.scope/\ap .i64 ak w e szv x.sizes/\ky w f b6 x.lines/\(∀r,leads aD r\/leads szv r->B<=r)/\(∀r,leads aD r->¬leads szv r)/\B<=a
def Db (w:x3) (r:Nat):Prop:=(∃e c,aa w r e c/\e≠ak/\e≠cc/\e≠a1)\/w.heap.size<=r
theorem hj.dM {f:Nat} {x:ch} (h:hj w B f x) (a:ae S w w') (q:∀r,S r->Db w r):hj w' B f x:=by
 obtain⟨aD,szv,b6,g1,s,y,h1,z,A,C,E,F,G⟩:=h;have j:∀r,S r->hh w r\/w.heap.size<=r:=λr H=>(q r H).imp (λ⟨e,c,p,J,K,_⟩=>⟨e,c,p,J,K⟩) id;refine⟨aD,szv,b6,g1,s,y,h1.U a λI=>?_,eC z a j,eC A a j,C.dM a j,E,F,G⟩;rcases q f I with⟨e,c,p,_,_,L⟩|M
 .exact L (eu p h1)
 .have:=h1.lt;omega
theorem hj.ext {x:ch} (h:hj w B a x) (e:Ext w w'):hj w' B a x:=h.dM (e.U λ_=>False) λ_ h=>h.elim
theorem kA {g:Nat} {H:af} {so:Option aA} (h:bL w g B H N so):∀r,r=g->Db w r:=λr a=>by
 subst a;obtain⟨f,j,p,bad,q,big,s,told,sv,e,_⟩:=h3 h;exact .inl ⟨_,_,e,Φ,Φ,Φ⟩
def gR (g B:Nat):af:=λr=>r=g\/B<=r
theorem NF {n:Int} {acc:Λ} {s:aA}:cK (λacc s=>match bc 0 (n-1) s with
 |none=>ν
 |some (v,s)=>if v∈acc then ν else σ (v,s)) (k+1) acc s=match bc 0 (n-1) s with
  |none=>ν
  |some (v,s')=>if v∈acc then ν else cK (λacc s=>match bc 0 (n-1) s with
 |none=>ν
 |some (v,s)=>if v∈acc then ν else σ (v,s)) k (acc++[v]) s':=by
 rw[cK];cases bc 0 (n-1) s with
 |none=>rfl
 |some q=>
  obtain⟨v,s'⟩:=q;simp only;by_cases a:v∈acc
  .rw[if_pos a,if_pos a]
  .rw[if_neg a,if_neg a]
def Dc (n:Int) (k:Nat) (acc:Λ) (s:aA):Option (Λ×aA):=cK (λacc s=>match bc 0 (n-1) s with
 |none=>ν
 |some (v,s)=>if v∈acc then ν else σ (v,s)) k acc s
theorem Dd {g f ar:Nat} {H:af} {s:aA} {so:Option aA} {ad:x1} {aR aS:x3->Prop} (ay:bL w g B H N so) (b3:so=σ s\/(so=ν/\ar=0)) (b5:hj w B f ⟨[],[],0,[]⟩) (b7:∀c,aa w f a1 c->c[3]? =σ (.slice ν 0 0)) (bF:ap .i64 ak w gz ad all) (b8:∀r,leads ad r->r<B) (dr:all.length<=100001) (ds:ar<=4611686018427387904) (aU:so=σ s->s.toks.length<=100000)
  (ax:so=σ s-> ∀w' x,ae (gR g B) w w'->eR all.length ar s=ν->bL w' g B H N ν->hj w' B f x->aR w')
  (ca:so=ν->aS w)
  (aV:so=σ s-> ∀w' scope s',ae (gR g B) w w'->eR all.length ar s=σ (scope,s')->bL w' g B H N (σ s')->hj w' B f ⟨scope,scope.map λv=>all.getD v.toNat 0,0,[]⟩->(∀c,aa w' f a1 c->c[3]? =σ (.slice ν 0 0))->aS w'):
  ci (Δ 0) w λi z k=>
   cr (α:=x1->x3->Prop) (λ(cb:x1) (O:x3)=>
    Split cb (V x7 (V3 #[an] ag #[ad]) O λt53=>
   V x7 (aJ .sub ak false true t53 (Δ 1)) O λcc=>
   ai x7 lJ [Γ g,(Δ 0),cc] O λt55 A=>
   V x7 (Z8 t55 0) A λaY=>
   V x7 (Z8 t55 1) A λce=>
   V x7 (bN (Γ g)) A λcg=>
   V x7 (u6 bB cg 3) A λch=>
   V x7 (u5 ag ch) A λcj=>
   V x7 (aJ .neq ag false true cj (Δ 0)) A λck=>
   Split ck (aR A)
    (V x7 (u6 a1 (Γ f) 0) A λcl=>
   V x7 (u5 an cl) A λbG=>
   V x7 (V3 #[an] ag #[bG]) A λt66=>
   ci (Δ 0) A λaZ E cm=>
    V x7 (aJ .lss ag false false aZ t66) E λcn=>
    Split cn (V x7 (c8 an bG aZ) E λcp=>
    V x7 (u5 ak cp) E λt70=>
    V x7 (aJ .eql ak false false t70 aY) E λcq=>
    Split cq (ai x7 nl [Γ g,(Δ 4),ce] E λt76 a2=>aR a2)
     (V x7 (aJ .add ag false true aZ (Δ 1)) E λct=>
    cm ct E))
     (V x7 (u6 a1 (Γ f) 0) E λcu=>
   V x7 (u5 an cu) E λcw=>
   av x7 (Y4 an 1 #[(0,aY)]) E λcz aj=>
   av x7 (b9 #[an,an] an #[cw,cz]) aj λcA a6=>
   V x7 (u6 a1 (Γ f) 0) a6 λcB=>
   av x7 (o5 an cB cA) a6 λ(_:Unit) R=>
   ei R λW=>
   V x7 (u6 a1 (Γ f) 1) W λa7=>
   V x7 (u5 an a7) W λbI=>
   V x7 (c8 an ad aY) W λcC=>
   V x7 (u5 ak cC) W λcD=>
   av x7 (Y4 an 1 #[(0,cD)]) W λcE ac=>
    (Ext W ac\/b4 x7 (u5 an a7) bI ac/\b4 x7 (u6 a1 (Γ f) 1) a7 ac/\True)/\
   av x7 (b9 #[an,an] an #[bI,cE]) ac λcF a8=>
    V x7 (u6 a1 (Γ f) 1) a8 λcG=>
    av x7 (o5 an cG cF) a8 λ(_:Unit) X=>
     V x7 (aJ .add ak false true i (Δ 1)) X λcH=>
   k cH X)))
     (aS O)) λbJ=>
   V x7 (aJ .lss ak false false i (Δ (ar:Int))) z λcI=>
   Split cI (V x7 (bN (Γ g)) z λcJ=>
   V x7 (u6 bB cJ 3) z λcK=>
   V x7 (u5 ag cK) z λt45=>
   V x7 (aJ .eql ag false true t45 (Δ 0)) z λt46=>
   bJ t46 z)
    (bJ (.bool false) z):=by
 have dt:=ay.lt;rcases b3 with rfl|⟨rfl,rfl⟩
 rotate_left
 .refine ci.range 0 (λ_ J=>w=J) Ω rfl (λi J k hi=>Ω) ?_;rintro _ k rfl;refine aT (λv O=>w=O/\v= .bool false) ?_ ?_
  .rintro _ _ ⟨rfl,rfl⟩;rw[aW];exact ca rfl
  .intro au al;rw[aQ,ah];exact⟨λh=>Ω,λ_=>al _ _ ⟨rfl,rfl⟩⟩
 have h:=ay;have aU:=aU rfl;have ax:=ax rfl;have aV:=aV rfl;refine ci.range ar (λi z=>∃scope P,ae (gR g B) w z/\bL z g B H N (σ P)/\hj z B f ⟨scope,scope.map λv=>all.getD v.toNat 0,0,[]⟩/\scope.length=i/\scope.length+P.toks.length<=100000/\eR all.length ar s=Dc all.length (ar-i) scope P/\ ∀c,aa z f a1 c->c[3]? =σ (.slice ν 0 0)) Ω ⟨[],s,ae.refl _ _,h,b5,rfl,by simpa using aU,rfl,b7⟩ ?_ ?_
 rotate_left
 .rintro z k ⟨scope,P,aB,S,aC,bK,cL,C,ba⟩;refine aT (λv O=>z=O/\v= .bool false) ?_ ?_
  .rintro _ _ ⟨rfl,rfl⟩;rw[aW];rw[U7] at C;exact aV z scope P aB C S aC ba
  .intro au al;rw[aQ,ah];exact⟨λh=>Ω,λ_=>al _ _ ⟨rfl,rfl⟩⟩
 rintro i z k hi ⟨scope,P,aB,S,aC,bK,cL,C,ba⟩ hk;refine aT (λv O=>z=O/\v= .bool true) ?_ ?_
 rotate_left
 .intro au al;refine bH Ω ?_;rw[lk S];exact al _ _ ⟨rfl,rfl⟩
 rintro _ _ ⟨rfl,rfl⟩;rw[bO];have bM:∀ {w':x3},ae (gR g B) w w'->ap .i64 ak w' gz ad all:=λcM=>bq bF cM λr e I=>by
  rcases I with rfl|I
  .obtain⟨cN,G,am,bad,cO,big,cP,told,sv,K,_⟩:=h3 h;exact cd bF K Φ e rfl
  .have:=b8 r e;omega
 rw[aX an.u (bM aB).ls,dR,wrap_i64 Ω Ω];refine (kz S).mono ?_;rintro _ A _ ⟨⟨bd,M⟩,n,at_,rfl,bf,cR⟩;rw[bu,bw,qP M];have bg:=aC.dM bd (kA S);have bh:ae (gR g B) w A:=aB.trans (bd.mono λr _ h=>.inl h);have cS:=NF (n:=(all.length:Int)) (k:=ar-(i+1)) (acc:=scope) (s:=P);have cT:ar-i=(ar-(i+1))+1:=Ω
 rw[cT] at C;unfold Dc at C;rw[cS] at C;have cU:bb 0 ((all.length:Int)-1) (σ P)=bc 0 ((all.length:Int)-1) P:=rfl;rw[cU] at M bf cR ⊢;cases aF:bc 0 ((all.length:Int)-1) P with
 |none=>
  rw[aF] at M C;rw[Option.map_none,R4,V0,bO];exact ax A _ bh C M bg
 |some q=>
  obtain⟨v,bj⟩:=q;rw[aF] at M C bf;have cV:n=v:=bf _ rfl;subst cV;have du:=(hX aF).1;have dv:=(de aF).1;simp only at C;rw[Z6,R3,Y5,aW];have M:bL A g B H N (σ bj):=M;obtain⟨aD,szv,b6,g1,cW,bk,f1,f2,f3,f4,f5,f6,f7⟩:=id bg;rw[az a1.p 0 f1 rfl,aX an.u f2.ls];have dw:scope.length<=100000:=Ω
  refine ci.range scope.length (λj E=>A=E/\n∉scope.take j) Ω ⟨rfl,Ξ⟩ ?_ ?_
  .rintro j _ cX cY ⟨rfl,aG⟩ cZ;obtain⟨u,hu⟩:=aE (l:=scope) cY;rw[aQ,ah];refine⟨λ_=>?_,λh=>by simp only at h;omega⟩;rw[be an.u ak.i Ψ f2.ls hu,bi,ah];refine⟨λhe=>?_,λc0=>?_⟩
   .refine (n3 M Ω).mono ?_;rintro _ a2 _ ⟨bP,c3⟩;rw[if_pos (by rw[<-he];exact x5 hu)] at C;exact ax a2 _ (bh.trans (bP.mono λr _ h=>.inl h)) C c3 (bg.dM bP (kA M))
   .rw[aM];refine cZ _ ⟨rfl,?_⟩;rw[u9,hu];intro hm;rcases l9.1 hm with hm|hm
    .exact aG hm
    .simp at hm;exact c0 hm.symm
  .rintro _ cX ⟨rfl,aG⟩;rw[o7] at aG;rw[aQ,ah];refine⟨λh=>by simp only at h;omega,λ_=>?_⟩;rw[if_neg aG] at C;rw[az a1.p 0 f1 rfl];refine ej an.u ak.i rfl λdx dy aj dz Q c4=>?_;have dA:=M.lt;refine gP an.u ak.i rfl (f2.ext Q) c4.ls Θ Θ λY bl a6 aH c5 bQ=>?_;have aI:=f1.ext Q;have f113:=aI.U bQ λhe=>cd (f2.ext Q) aI Φ he rfl;rw[aP a1.p rfl];refine bo (g:=f) (o:=0) an.i aH.ls.cells.1 aH.ls.cells.2 f113 Ξ λR bR dC aK=>?_;have aK:aa R f a1 [Y,szv,Δ 0,b6]:=aK;intro W bm _ _;have ao:ae (λr=>leads aD r\/r=f) aj R:=(bQ.mono λr _ h=>.inl h).trans (bR.mono λr _ h=>.inr h);have bS:∀r,(leads aD r\/r=f)->gR g B r:=λr e=>.inr (e.elim (λe=>f5 r (.inl e)) λe=>e▸f7);have bT:ae (gR g B) w R:=(bh.trans (Q.U _)).trans (ao.mono λr _ e=>bS r e);have c6:ae (gR g B) w W:=bT.trans (bm.U _);have c9:ap .i64 ak R cW szv _:=bq (f3.ext Q) ao λr e I=>by
    rcases I with I|rfl
    .exact f6 r I e
    .exact cd (f3.ext Q) aI Φ e rfl
   have da:ap .i64 ak R bl Y (scope++[n]):=bq aH bR λr e he=>by
    have he:r=f:=he;subst he;exact cd aH f113 Φ e rfl
   have db:∀r,(leads aD r\/r=f)->(∃c,aa aj r ak c)\/ ∃c,aa aj r a1 c:=λr e=>by
    rcases e with e|rfl
    .obtain⟨G,_⟩:=bU f2 e;obtain⟨_,⟨aq,_⟩|⟨_,cs,aq,K,_⟩⟩:=f2.ext Q
     .rw[aq] at e;obtain⟨a,dc,c,G,am⟩:=e;cases G
     .exact .inl ⟨cs,G▸K⟩
    .exact .inr ⟨_,aI⟩
   have dd:ky R bk b6 []:=by
    obtain⟨L,Z,df,bn⟩:=f4.dM (Q.U λ_=>False) λ_ h=>h.elim;have bp:L=[]:=List.map_eq_nil_iff.1 bn;subst bp;refine⟨[],Z.U ao λr e I=>?_,λy br=>(by cases br),rfl⟩;rcases db r I with⟨c,K⟩|⟨c,K⟩
    .exact cQ Z K Φ e
    .exact cQ Z K Φ e
   have dg:bL R g B H N (σ bj):=(M.ext Q).new ao λr e=>by
    rcases bS r e with rfl|h
    .rcases e with e|e
     .exact f5 _ (.inl e)
     .exact e▸f7
    .exact h
   rw[az a1.p 1 (aK.ext bm) rfl];have dh:all[n.toNat]? =σ (all.getD n.toNat 0):=by rw[u4,x6 Ω];rfl
   rw[fA (y:=n) (i:=n.toNat) Ω an.u ak.i Ψ (bM c6).ls dh];refine ej an.u ak.i rfl λdD dE ac dF bV di=>?_;refine⟨.inl bV,?_⟩;have ab:=bm.trans bV;have f316:=c9.ext ab;have bW:(scope.map λv=>all.getD v.toNat 0).length=scope.length:=u7 _;refine gP an.u ak.i rfl f316 di.ls (by simp at bW ⊢;omega) (by simp at bW ⊢;omega) λbt dj a8 aL bX bY=>?_;have aN:=aK.ext ab;have bZ:=aN.U bY λhe=>cd f316 aN Φ he rfl;rw[aP a1.p rfl];refine bo (g:=f) (o:=1) an.i aL.ls.cells.1 aL.ls.cells.2 bZ Ξ λX b0 dG aw=>?_;have aw:aa X f a1 [Y,bt,Δ 0,b6]:=aw;rw[aM];have aO:ae (λr=>leads szv r\/r=f) ac X:=(bY.mono λr _ h=>.inl h).trans (b0.mono λr _ h=>.inr h);have b1:∀r,(leads szv r\/r=f)->B<=r:=λr e=>e.elim (λe=>f5 r (.inr e)) λe=>e▸f7;have bx:=da.ext ab;have dH:=Q.size;have dI:=ao.size;have bz:∀r,leads Y r->B<=r/\¬leads szv r:=λr e=>by
    rcases c5 r e with h|h
    .exact⟨f5 r (.inl h),f6 r h⟩
    .exact⟨Ω,λbA=>by obtain⟨G,am⟩:=bU f3 bA;omega⟩
   have dk:ap .i64 ak X bl Y (scope++[n]):=bq bx aO λr e I=>by
    rcases I with I|rfl
    .exact (bz r e).2 I
    .exact cd bx aN Φ e rfl
   have dl:=bq aL b0 λr e he=>by
    have he:r=f:=he;subst he;exact cd aL bZ Φ e rfl
   have dm:ky X bk b6 []:=by
    obtain⟨L,Z,df,bn⟩:=dd.dM (ab.U λ_=>False) λ_ h=>h.elim;have bp:L=[]:=List.map_eq_nil_iff.1 bn;subst bp;refine⟨[],Z.U aO λr e I=>?_,λy br=>(by cases br),rfl⟩;rcases I with I|rfl
    .obtain⟨G,_⟩:=bU f316 I;obtain⟨_,⟨aq,_⟩|⟨_,cs,aq,K,_⟩⟩:=f316
     .rw[aq] at I;obtain⟨a,dc,c,G,am⟩:=I;cases G
     .exact cQ Z (G▸K) Φ e
    .exact cQ Z aN Φ e
   refine hk _ ⟨scope++[n],bj,((bT.trans (ab.U _)).trans (aO.mono λr _ e=>.inr (b1 r e))),(dg.ext ab).new aO b1,⟨Y,bt,b6,bl,dj,bk,aw,dk,by rw[j6];exact dl,dm,λr e=>?_,λr e bA=>?_,f7⟩,by rw[p8,bK];rfl,by rw[p8];simp;omega,C,λc bC=>?_⟩
   .rcases e with e|e
    .exact (bz r e).1
    .rcases bX r e with h|h
     .exact f5 r (.inr h)
     .have:=ab.size;omega
   .rcases bX r bA with h|h
    .exact (bz r e).2 h
    .obtain⟨G,am⟩:=bU bx e;omega
   .have dn:c=[Y,bt,Δ 0,b6]:=by
     unfold aa at bC aw;rw[aw] at bC;have:=(Obj.cells.inj (c7 bC)).1;exact (Array.toList_inj.2 this).symm
    have dp:b6= .slice ν 0 0:=by
     obtain⟨dJ,dK,dL,_,_,_,bD,_⟩:=aC;have b2:=ba _ bD;have bE:=bD.U bd λhe=>by
      have he:f=g:=he;obtain⟨cN,G,am,bad,cO,big,cP,told,sv,K,_⟩:=h3 S;subst he;exact absurd (eu K bD) Φ
     unfold aa at bE f1;rw[f1] at bE;have dq:=Array.toList_inj.2 (Obj.cells.inj (c7 bE)).1;have S:=congrArg (λl=>l[3]?) dq;simp at S;simp at b2;rw[S,b2]
    rw[dn,dp];rfl
theorem NG {x:x1->x3->Prop} (h:aF .i64 w sv l) (h1:∀z∈l,1<=z) (I:∀c:Int,(4096<c↔dr l=true)->x (Δ c) w):
  bY (Δ 1) (Δ 0) w λy q a K=>
   V x7 (aJ .lss ag false false q (Δ (l.length:Int))) a λL=>
   Split L (cr (α:=x1->x3->Prop) (λ(M:x1) (A:x3)=>
    V x7 (aJ .add ag false true q (Δ 1)) A λN=>
    K M N A) λB=>
   V x7 (c8 an sv q) a λO=>
   V x7 (u5 ak O) a λC=>
   cr (α:=x1->x3->Prop) (λ(P:x1) (f:x3)=>
    V x7 (aJ .mul ak false false y P) f λE=>
    V x7 (aJ .gtr ak false true E (Δ 4096)) f λQ=>
    Split Q (B (Δ 4097) f)
     (B E f)) λF=>
   V x7 (aJ .gtr ak false true C (Δ 4096)) a λR=>
   Split R (F (Δ 4097) a)
    (F C a))
    (x y a):=by
 refine bY.range l.length (λi c J=>w=J/\ ∃p:Int,p=aK ((l.take i).map λk=>min k 4097)/\1<=p/\c=Δ (if 4096<p then 4097 else p)) h.le ⟨rfl,1,by simp[aK],Ω,by rw[if_neg Ω]⟩ ?_ ?_
 .rintro i _ _ S hi ⟨rfl,p,j,U,rfl⟩ W;obtain⟨z,r⟩:=aE (l:=l) hi;have Y:=h1 z (x5 r);have e:aK ((l.take (i+1)).map λk=>min k 4097)=p*min z 4097:=by
   rw[j,u9,r,o8,j6,V7,List.map_nil,A8]
  have Z:p*1<=p*min z 4097:=Int.mul_le_mul_of_nonneg_left Ω Ω;refine bH Ω ?_;refine aT (λv w2=>w=w2/\v=Δ (if 4096<p*min z 4097 then 4097 else p*min z 4097)) ?_ ?_
  .rintro _ _ ⟨rfl,rfl⟩;rw[aM];exact W _ _ ⟨rfl,_,e.symm,Ω,rfl⟩
  intro au s;rw[be an.u ak.i Ψ h r];refine aT (λv w2=>w=w2/\v=Δ (min z 4097)) ?_ ?_
  .rintro _ _ ⟨rfl,rfl⟩;rw[hQ];by_cases G:4096<p
   .rw[if_pos G];have X:(4097:Int)*1<=4097*min z 4097:=Int.mul_le_mul_of_nonneg_left Ω Ω;rw[wrap_i64 Ω Ω,bS,ah];refine⟨λ_=>s _ _ ⟨rfl,by rw[if_pos Ω]⟩,λaa=>Ω⟩
   .rw[if_neg G];have X:p*min z 4097<=4096*4097:=by
     have ab:=Int.mul_le_mul_of_nonneg_right (show p<=4096 by omega) (show 0<=min z 4097 by omega);have ac:=Int.mul_le_mul_of_nonneg_left (show min z 4097<=4097 by omega) (show (0:Int)<=4096 by omega);omega
    rw[wrap_i64 Ω Ω,bS,ah];exact⟨λay=>s _ _ ⟨rfl,by rw[if_pos ay]⟩,λay=>s _ _ ⟨rfl,by rw[if_neg ay]⟩⟩
  .intro ad H;rw[bS,ah];exact⟨λay=>H _ _ ⟨rfl,by congr 1;omega⟩,λay=>H _ _ ⟨rfl,by congr 1;omega⟩⟩
 .rintro _ _ S ⟨rfl,p,j,U,rfl⟩;rw[o7] at j;rw[aQ,ah];refine⟨λh=>Ω,λ_=>I _ ?_⟩;unfold dr;rw[<-j,decide_eq_true_eq];split
  .exact⟨λ_=>Ω,λ_=>Ω⟩
  .exact Iff.rfl
theorem NH {g am:Nat} {H:af} {so:Option aA} {szv:x1} {ac:x3->Prop} (h:bL w g B H N so) (E:ap .i64 ak w gz szv sizes) (aH:∀z∈sizes,1<=z/\z<=ao) (bn:sizes.length<=100001)
  (W:aa w am cc [.slice ν 0 0,Δ 0]) (aI:B<=am)
  (ad:∀t w' aL gt,t.length=sizes.length->ae (λr=>r=g\/r=am\/w.heap.size<=r) w w'->aa w' am cc [aL,Δ 0]->ap .i64 ak w' gt aL t->(∀r,leads aL r->w.heap.size<=r)->bL w' g B H N ((eY sizes [] so).map (·.2))->(∀q,eY sizes [] so=σ q->t=q.1)->ac w'):
  ci (Δ 0) w λX x aK=>
      V x7 (aJ .lss ag false false X (Δ (sizes.length:Int))) x λaN=>
      Split aN (V x7 (c8 an szv X) x λaO=>
      V x7 (u5 ak aO) x λaQ=>
      V x7 (aJ .sub ak false true aQ (Δ 1)) x λaR=>
      ai x7 lJ [Γ g,(Δ 0),aR] x λah G=>
      V x7 (Z8 ah 0) G λaS=>
      V x7 (Z8 ah 1) G λbp=>
      V x7 (u6 cc (Γ am) 0) G λaT=>
      V x7 (u5 an aT) G λaU=>
      av x7 (Y4 an 1 #[(0,aS)]) G λaV aW=>
      av x7 (b9 #[an,an] an #[aU,aV]) aW λaX aj=>
      V x7 (u6 cc (Γ am) 0) aj λaY=>
      av x7 (o5 an aY aX) aj λ(_:Unit) al=>
      V x7 (aJ .add ag false true X (Δ 1)) al λaZ=>
      aK aZ al)
       (ac x):=by
 have br:=W.lt;have bt:=h.lt;refine ci.range sizes.length (λj J=>∃t aL gt f,t.length=j/\ae (λr=>r=g\/r=am\/w.heap.size<=r) w J/\aa J am cc [aL,Δ 0]/\ap .i64 ak J gt aL t/\(∀r,leads aL r->w.heap.size<=r)/\bL J g B H N f/\eY sizes [] so=eY (sizes.drop j) t f) E.ls.le
  ⟨[],_,0,so,rfl,ae.refl _ _,W,ap.nil _ _ _ _,(λr e=>by obtain⟨a,n,c,O,Y⟩:=e;cases O),h,rfl⟩ ?_ ?_
 rotate_left
 .rintro J a1 ⟨t,aL,gt,f,P,y,Q,K,A,L,he⟩;refine ca Ω ?_;rw[List.drop_length] at he;cases f with
  |none=>
   have he:eY sizes [] so=ν:=he;exact ad t J aL gt P y Q K A (by rw[he];exact L) (λq s=>by rw[he] at s;cases s)
  |some f=>
   have he:eY sizes [] so=σ (t,f):=he;exact ad t J aL gt P y Q K A (by rw[he];exact L) (λq s=>by rw[he] at s;cases s;rfl)
 rintro j J a1 aq ⟨t,aL,gt,f,P,y,Q,K,A,L,he⟩ a2;obtain⟨z,Z⟩:=aE (l:=sizes) aq;have a6:=aH z (x5 Z);have bx:z<=4611686018427387904:=a6.2;have a7:ap .i64 ak J gz szv sizes:=bq E y λr e I=>by
  rcases I with rfl|rfl|I
  .obtain⟨a8,O,Y,bad,ba,big,bc,told,sv,M,_⟩:=h3 h;exact cd E M Φ e rfl
  .exact cd E W Φ e rfl
  .obtain⟨O,Y⟩:=bU E e;omega
 refine bH Ω ?_;rw[be an.u ak.i Ψ a7.ls Z,dR,wrap_i64 Ω Ω];refine (kz L).mono ?_;rintro _ w2 _ ⟨⟨R,bd⟩,n,at_,rfl,bf,bz⟩;rw[bu,bw];have bg:am≠g:=Ω
 have au:=Q.U R λhe=>bg he;have bh:∃c,aa J g bB c:=by obtain⟨a8,O,Y,bad,ba,big,bc,told,sv,M,_⟩:=h3 L;exact⟨_,M⟩
 have aw:ap .i64 ak w2 gt aL t:=bq K R λr e he=>by
  have he:r=g:=he;obtain⟨c,M⟩:=bh;exact cd K M Φ e he
 rw[az cc.p 0 au rfl];refine ej an.u ak.i rfl λa3 bA bi bC C bj=>?_;refine gP an.u ak.i rfl (aw.ext C) bj.ls Θ Θ λax bk bD S bl ay=>?_;have aB:=au.ext C;have aC:=aB.U ay λhe=>cd (aw.ext C) aB Φ he rfl;rw[aP cc.p rfl];refine bo (g:=am) (o:=0) an.i S.ls.cells.1 S.ls.cells.2 aC Ξ λaD aF bE ab=>?_;have ab:aa aD am cc [ax,Δ 0]:=ab;rw[aM];have aG:ae (λr=>leads aL r\/r=am) bi aD:=(ay.mono λr _ h=>.inl h).trans (aF.mono λr _ h=>.inr h);have bF:=y.size;have bG:=R.size;have z3:=C.size;refine a2 _ ⟨t++[n],ax,bk,(bb 0 (z-1) f).map (·.2),by simp[P],?_,ab,bq S aF λr e he=>?_,λr e=>?_,?_,?_⟩
 .refine (y.trans (R.mono λr _ h=>.inl h)).trans ((C.U _).trans (aG.mono λr _ h=>?_));exact h.elim (λh=>.inr (.inr (A r h))) λh=>.inr (.inl h)
 .have he:r=am:=he;subst he;exact cd S aC Φ e rfl
 .rcases bl r e with h|h
  .exact A r h
  .omega
 .refine (bd.ext C).new aG λr e=>?_;rcases e with e|rfl
  .have:=A r e;omega
  .exact aI
 .rw[he];have bm:sizes.drop j=z::sizes.drop (j+1):=by rw[W5 aq,(x4.1 Z).2]
  rw[bm,BL];cases s:bb 0 (z-1) f with
  |none=>rfl
  |some q=>
   obtain⟨v,bI⟩:=q;have:=bf _ s;subst this;rfl
theorem wI {g:Nat} {t:Λ} {c:Int} (h:ap .i64 ak w g v t):∀u∈n2 ⟨v,t,c⟩,u.oneCell'=true:=by
 intro u hu;simp[n2] at hu;rcases hu with rfl|rfl
 .exact h.ls.cells.2
 .rfl
def NI (sizes:Λ) (cnt i:Nat) (s0:aA) (A:List (Λ×Int)) (so:Option aA):Prop:=(∃s,so=σ s/\cK (dT sizes) cnt [] s0=cK (dT sizes) (cnt-i) A s/\A.length+s.toks.length<=100000)\/(so=ν/\cK (dT sizes) cnt [] s0=ν)
theorem NJ {g K g1 a7 Y:Nat} {H:af} {s0:aA} {aD szv b6:x1} {scope:Λ} {o n:Int} {aG:List (Λ×Int)} {bZ:x3->Prop} (h:bL w g B H N (σ s0)) (f1:aa w K a1 [aD,szv,Δ o,b6]) (f2:ap .i64 ak w g1 aD scope) (f3:ap .i64 ak w a7 szv sizes) (f4:ky w Y b6 aG)
  (f5:∀r,leads aD r\/leads szv r->B<=r) (f6:∀r,leads aD r->¬leads szv r) (f7:B<=K) (cW:∀z∈sizes,1<=z/\z<=ao) (cX:sizes.length<=100001) (e0:n<=4611686018427387904) (bn:0<n->aG=[]/\ ∀r,¬leadsTo b6 r) (cY:s0.toks.length<=100000)
  (b0:∀w' A br,ae (gR g B) w w'->hj w' B K ⟨scope,sizes,o,A⟩->bL w' g B H N br->(n<=0->A=aG/\br=σ s0)->(0<n->br=(cK (dT sizes) n.toNat [] s0).map (·.2)/\ ∀q,cK (dT sizes) n.toNat [] s0=σ q->A=q.1)->bZ w'):
  ci (Δ 0) w λb1 ad cZ=>
     cr (α:=x1->x3->Prop) (λ(c0:x1) (b2:x3)=>
      Split c0 (av x7 (S0 cc true (.tuple #[])) b2 λx Z=>
     V x7 (u6 a1 (Γ K) 1) Z λc3=>
     V x7 (u5 an c3) Z λb3=>
     V x7 (V3 #[an] ag #[b3]) Z λc4=>
     ci (Δ 0) Z λbz aj c5=>
      V x7 (aJ .lss ag false false bz c4) aj λc6=>
      Split c6 (V x7 (c8 an b3 bz) aj λc7=>
      V x7 (u5 ak c7) aj λc9=>
      V x7 (aJ .sub ak false true c9 (Δ 1)) aj λda=>
      ai x7 lJ [Γ g,(Δ 0),da] aj λb4 aH=>
      V x7 (Z8 b4 0) aH λdc=>
      V x7 (Z8 b4 1) aH λe1=>
      V x7 (u6 cc x 0) aH λdd=>
      V x7 (u5 an dd) aH λdf=>
      av x7 (Y4 an 1 #[(0,dc)]) aH λdg dh=>
      av x7 (b9 #[an,an] an #[df,dg]) dh λdi b5=>
      V x7 (u6 cc x 0) b5 λdj=>
      av x7 (o5 an dj di) b5 λ(_:Unit) b7=>
      V x7 (aJ .add ag false true bz (Δ 1)) b7 λdk=>
      c5 dk b7)
       (ai x7 lJ [Γ g,(Δ 0),(Δ 4611686018427387904)] aj λb8 E=>
     V x7 (Z8 b8 0) E λdl=>
     V x7 (Z8 b8 1) E λdn=>
     V x7 (u6 a1 (Γ K) 3) E λdp=>
     V x7 (u5 eb dp) E λcb=>
     V x7 (V3 #[eb] ag #[cb]) E λdq=>
     ci (Δ 0) E λbA M dr=>
      V x7 (aJ .lss ag false false bA dq) M λds=>
      Split ds (cr (α:=x3->Prop) (λ(ay:x3)=>
       V x7 (aJ .add ag false true bA (Δ 1)) ay λdt=>
       dr dt ay) λce=>
      V x7 (c8 eb cb bA) M λdu=>
      V x7 (u5 cc du) M λdv=>
      av x7 (S0 cc true (.tuple #[])) M λy cg=>
      av x7 (o5 cc y dv) cg λ(_:Unit) O=>
      cr (α:=x1->x3->Prop) (λ(dw:x1) (aI:x3)=>
       Split dw (ai x7 nl [Γ g,(Δ 4),dn] aI λe2 ch=>
        ce ch)
        (ce aI)) λcj=>
      V x7 (bN (Γ g)) O λdx=>
      V x7 (u6 bB dx 3) O λdy=>
      V x7 (u5 ag dy) O λdz=>
      V x7 (aJ .eql ag false true dz (Δ 0)) O λdA=>
      Split dA (V x7 (u6 cc x 0) O λdC=>
       V x7 (u5 an dC) O λdD=>
      V x7 (u6 cc y 0) O λdE=>
      V x7 (u5 an dE) O λdF=>
      ai x7 rS [dD,dF] O λdG ck=>
      cj dG ck)
       (cj (.bool false) O))
       (V x7 (u6 cc x 1) M λdH=>
     av x7 (o5 ak dH dl) M λ(_:Unit) ab=>
     V x7 (u6 a1 (Γ K) 3) ab λdI=>
     V x7 (u5 eb dI) ab λdJ=>
     V x7 (u5 cc x) ab λdK=>
     av x7 (Y4 eb 1 #[(0,dK)]) ab λdL a8=>
     av x7 (b9 #[eb,eb] eb #[dJ,dL]) a8 λdN bC=>
     V x7 (u6 a1 (Γ K) 3) bC λdO=>
     av x7 (o5 eb dO dN) bC λ(_:Unit) ac=>
     V x7 (aJ .add ak false true b1 (Δ 1)) ac λdP=>
     cZ dP ac)))
       (bZ b2)) λcl=>
     V x7 (aJ .lss ak false false b1 (Δ n)) ad λdQ=>
     Split dQ (V x7 (bN (Γ g)) ad λdR=>
     V x7 (u6 bB dR 3) ad λdS=>
     V x7 (u5 ag dS) ad λdU=>
     V x7 (aJ .eql ag false true dU (Δ 0)) ad λdV=>
     cl dV ad)
      (cl (.bool false) ad):=by
 have dW:=h.lt;refine ci.range n.toNat (λi J=>∃A so b6 Y,ae (gR g B) w J/\aa J K a1 [aD,szv,Δ o,b6]/\ap .i64 ak J g1 aD scope/\ap .i64 ak J a7 szv sizes/\ky J Y b6 A/\(0<n-> ∀r,leadsTo b6 r->B<=r)/\bL J g B H N so/\(n<=0->A=aG/\so=σ s0)/\(0<n->NI sizes n.toNat i s0 A so)) Ω
  ⟨aG,σ s0,b6,Y,ae.refl _ _,f1,f2,f3,f4,λW r C=>absurd C ((bn W).2 r),h,λ_=>⟨rfl,rfl⟩,λW=>.inl ⟨s0,rfl,by rw[(bn W).1];rfl,by rw[(bn W).1];simpa using cY⟩⟩ ?_ ?_
 rotate_left
 .rintro J k ⟨A,so,b6,Y,aK,aC,ba,aN,aO,bD,al,cm,G⟩;refine aT (λv w2=>J=w2/\v= .bool false) ?_ ?_
  .rintro _ _ ⟨rfl,rfl⟩;rw[aW];refine b0 J A so aK ⟨aD,szv,b6,g1,a7,Y,aC,ba,aN,aO,f5,f6,f7⟩ al cm λW=>?_;rcases G W with⟨s,rfl,he,_⟩|⟨rfl,he⟩
   .rw[U7] at he;rw[he];exact⟨rfl,λq P=>by cases P;rfl⟩
   .rw[he];exact⟨rfl,λq P=>by cases P⟩
  .intro au bE;rw[aQ,ah];exact⟨λh=>Ω,λ_=>bE _ _ ⟨rfl,rfl⟩⟩
 rintro i J k hi ⟨A,so,b6,Y,aK,aC,ba,aN,aO,bD,al,cm,G⟩ hk;have W:0<n:=Ω
 refine aT (λv w2=>J=w2/\v= .bool so.isSome) ?_ ?_
 rotate_left
 .intro au bE;refine bH Ω ?_;rw[lk al];exact bE _ _ ⟨rfl,rfl⟩
 rintro _ _ ⟨rfl,rfl⟩;rcases G W with⟨eO,rfl,he,e3⟩|⟨rfl,he⟩
 rotate_left
 .rw[R4,aW];refine b0 J A ν aK ⟨aD,szv,b6,g1,a7,Y,aC,ba,aN,aO,f5,f6,f7⟩ al (λh=>Ω) λ_=>?_;rw[he];exact⟨rfl,λq P=>by cases P⟩
 rw[R3,bO];have e4:=al.lt;refine bt cc.i λam Z e5 aR bF=>?_;have bF:aa Z am cc [.slice ν 0 0,Δ 0]:=bF;have dX:=aC.ext aR;have cn:=aN.ext aR;have e6:=aR.size;have e7:=aC.lt;rw[aP a1.p rfl,aB Ψ (dX.cell (o:=0+1) rfl),aX an.u cn.ls];refine NH (al.ext aR) cn cW cX bF Ω λt aj aL gt e8 dY dZ ea ec ed ee=>?_;refine (kz ed).mono ?_;rintro _ E _ ⟨⟨bG,bd⟩,c,at_,rfl,eg,e9⟩;rw[bu,bw];have bI:am≠g:=Ω
 have cp:K≠g:=by have:=h.lt;omega
 have eh:ae (λr=>r=g\/r=am\/Z.heap.size<=r) Z E:=dY.trans (bG.mono λr _ h=>.inl h);have cq:∀ {S:Nat->Prop},(∀r,S r->r=g\/J.heap.size<=r)-> ∀r,S r->hh J r\/J.heap.size<=r:=λei r C=>(ei r C).imp (λhe=>by
  subst he;obtain⟨ct,aS,aU,bad,cu,big,cw,told,sv,G,_⟩:=h3 al;exact⟨_,_,G,Φ,Φ⟩) id
 have be:ae (λr=>r=g\/J.heap.size<=r) J E:=(aR.U _).trans (eh.mono λr _ h=>h.elim .inl λh=>h.elim (λh=>.inr Ω) λh=>.inr Ω);have cz:aa E K a1 [aD,szv,Δ o,b6]:=aC.U be λh=>h.elim cp λh=>Ω
 obtain⟨L,bf,cA,bJ⟩:=aO.dM be (cq λr C=>C);have cB:aa E am cc [aL,Δ 0]:=dZ.U bG λhe=>bI he;have cC:ap .i64 ak E gt aL t:=bq ea bG λr C he=>by
  have he:r=g:=he;have:=ec r C;omega
 have fa:L.length=A.length:=by rw[<-bJ,u7]
 rw[az a1.p 3 cz rfl,eA eb.u bf];generalize cD:(bb 0 4611686018427387904 (U6 (λx=>x.snd) (eY sizes [] (σ eO)))).map (·.2)=aq at bd;have fb:=be.size;refine ci.range L.length (λj M=>ae (λr=>r=g) E M/\bL M g B H N (if t∈(L.take j).map (·.t) then ν else aq)) bf.le ⟨ae.refl _ _,by simpa using bd⟩ ?_ ?_
 .rintro j M ej cE ⟨Q,aV⟩ ek;obtain⟨y,R⟩:=aE (l:=L) cE;have bK:∃c,aa E g bB c:=by obtain⟨ct,aS,aU,bad,cu,big,cw,told,sv,G,_⟩:=h3 bd;exact⟨_,G⟩
  have aw:∀r,r=g->hh E r\/E.heap.size<=r:=λr C=>by
   subst C;obtain⟨c,G⟩:=bK;exact .inl ⟨_,c,G,Φ,Φ⟩
  have bg:=wG bf Q λr C=>(aw r C).imp (λ⟨e,c,G,_,aY⟩=>⟨e,c,G,aY⟩) id;obtain⟨fc,em⟩:=cA y (x5 R);have cF:=eC em Q aw;have bM:=eC cC Q aw;have bh:=cB.U Q λhe=>bI he;refine bH Ω ?_;have bP:t∈(L.take (j+1)).map (·.t)↔t∈(L.take j).map (·.t)\/t=y.t:=by
   rw[u9,R,o8,j6,l9];simp
  refine dm (λay=>ae (λr=>r=g) E ay/\bL ay g B H N (if t∈(L.take (j+1)).map (·.t) then ν else aq)) ?_ ?_
  .rintro ay en;rw[aM];exact ek _ en
  intro fd cG;rw[db rfl eb.u cc.i bg cE,bx cc.p cc.i rfl (bg.range R)];refine bt cc.i λgy cg fe eo ep=>?_;refine bT (vs:=n2 y) cc.i rfl rfl (wI cF) ep λO er ff es=>?_;have aZ:Ext M O:=eo.put er Ω;have cH:=aV.ext aZ;have cI:ae (λr=>r=g) E O:=Q.trans (aZ.U _);refine aT (λv aI=>∃b:Bool,v= .bool b/\Ext O aI/\(b=true->t=y.t)/\(b=false->t≠y.t\/(if t∈(L.take j).map (·.t) then ν else aq)=ν)) ?_ ?_
  .rintro _ aI ⟨b,rfl,bQ,et,eu⟩;have ax:=cH.ext bQ;cases b with
   |true=>
    rw[bO];refine (n3 ax Ω).mono ?_;rintro _ ch _ ⟨ev,ew⟩;refine cG _ ⟨(cI.trans (bQ.U _)).trans ev,?_⟩;rw[if_pos (bP.2 (.inr (et rfl)))];exact ew
   |false=>
    rw[aW];refine cG _ ⟨cI.trans (bQ.U _),?_⟩;by_cases hm:t∈(L.take j).map (·.t)
    .rw[if_pos (bP.2 (.inl hm))];rw[if_pos hm] at ax;exact ax
    .rw[if_neg hm] at ax;rcases eu rfl with aY|cJ
     .rw[if_neg (λh=>(bP.1 h).elim hm aY)];exact ax
     .rw[if_neg hm] at cJ;rw[cJ] at ax ⊢;split<;>exact ax
  .intro fg cL;rw[lk cH];cases a2:(if t∈(L.take j).map (·.t) then ν else aq) with
   |none=>
    rw[R4,aW];exact cL _ _ ⟨false,rfl,Ext.refl _,(λh=>by cases h),λ_=>.inr a2⟩
   |some fh=>
    rw[R3,bO];have ey:=bh.ext aZ;rw[az cc.p 0 ey rfl,az cc.p 0 es rfl];refine (wH (bM.ls.ext aZ) (cF.ls.ext aZ)).mono ?_;rintro _ ck _ ⟨rfl,ez⟩;exact cL _ _ ⟨_,rfl,ez,λh=>of_decide_eq_true h,λh=>.inl (of_decide_eq_false h)⟩
 .rintro M ej ⟨Q,aV⟩;rw[o7] at aV;have eB:L.map (·.t)=A.map (·.1):=by rw[<-bJ,R6];rfl
  rw[eB] at aV;have bK:∃c,aa E g bB c:=by obtain⟨ct,aS,aU,bad,cu,big,cw,told,sv,G,_⟩:=h3 bd;exact⟨_,G⟩
  have aw:∀r,r=g->hh E r\/E.heap.size<=r:=λr C=>by
   subst C;obtain⟨c,G⟩:=bK;exact .inl ⟨_,c,G,Φ,Φ⟩
  have cM:∀r,(r=g\/J.heap.size<=r)->hh J r\/J.heap.size<=r:=cq λr C=>C;have bi:ae (λr=>r=g\/J.heap.size<=r) J M:=be.trans (Q.mono λr _ h=>.inl h);have eD:=cz.U Q λhe=>cp he;have eE:=eC ba bi cM;have eF:=eC aN bi cM;have bg:=wG bf Q λr C=>(aw r C).imp (λ⟨e,c,G,_,aY⟩=>⟨e,c,G,aY⟩) id;have eH:∀y∈L,∃gy,ap .i64 ak M gy y.v y.t:=λy R=>by
   obtain⟨gy,hm⟩:=cA y R;exact⟨gy,eC hm Q aw⟩
  have bM:=eC cC Q aw;have bh:=cB.U Q λhe=>bI he;refine ca Ω ?_;rw[aP cc.p rfl];refine bo (g:=am) (o:=1) ak.i rfl rfl bh Ξ λab aF fj bR=>?_;have bR:aa ab am cc [aL,Δ c]:=bR;have eI:K≠am:=Ω
  have cN:=eD.U aF λhe=>eI he;have fk:J.heap.size<=am:=Ω
  have eJ:∀r,leadsTo b6 r->r≠am:=λr C=>by obtain⟨aS,aU⟩:=aO.choose_spec.1.leads C;omega
  have eK:=bg.U aF λr C he=>eJ r C he;rw[az a1.p 3 cN rfl,bx cc.p cc.i rfl bR.range];let a:wF:=⟨aL,t,c⟩;have bj:∀ {v:x1} {a6:Nat} {l:Λ},ap .i64 ak M a6 v l->ap .i64 ak ab a6 v l:=λhm=>bq hm aF λr C he=>by
   have he:r=am:=he;exact cd hm bh Φ C he
  have cO:=bj bM;refine h0 (f:=n2) (a:=a) eb.u cc.i Ω rfl rfl λv45 fm a8 fo X eM=>?_;have bS:=eK.ext X;refine ik (f:=n2) (a:=a) eb.u cc.i rfl bS (by simpa using eM.sl) (wI (cO.ext X)) Ω Ω λbU cP bC bk eN cR=>?_;have bV:=cN.ext X;have cS:=bV.U cR λhe=>cQ bS bV Φ he;rw[aP a1.p rfl];refine bo (g:=K) (o:=3) eb.i (eL bk.sl).1 (eL bk.sl).2 cS Ξ λac cT fp bW=>?_;have bW:aa ac K a1 [aD,szv,Δ o,bU]:=bW;rw[aM];have bX:ae (λr=>leadsTo b6 r\/r=K) a8 ac:=(cR.mono λr _ h=>.inl h).trans (cT.mono λr _ h=>.inr h);have bl:∀ {v:x1} {a6:Nat} {l:Λ},ap .i64 ak a8 a6 v l->ap .i64 ak ac a6 v l:=λhm=>bq hm bX λr C I=>by
   rcases I with I|rfl
   .obtain⟨rfl,fq,G⟩:=ef bS I;exact cd hm G Φ C rfl
   .exact cd hm bV Φ C rfl
  have cU:∀r,(leadsTo b6 r\/r=K)->B<=r:=λr C=>C.elim (λC=>bD W r C) λC=>C▸f7;have eP:bL ab g B H N (if t∈A.map (·.1) then ν else aq):=aV.new aF λr C=>by
   have C:r=am:=C;omega
  have eQ:=(eP.ext X).new bX cU;have eR:ae (gR g B) J ac:=((bi.mono λr _ h=>h.elim .inl λh=>.inr Ω).trans (aF.mono λr _ h=>.inr (by have h:r=am:=h;omega))).trans ((X.U _).trans (bX.mono λr _ h=>.inr (cU r h)));have eS:ky ac cP bU (A++[(t,c)]):=⟨L++[a],bk.U cT λr C he=>by
   have he:r=K:=he;subst he;exact cQ bk cS Φ C,λy R=>by
   rcases l9.1 R with R|R
   .obtain⟨gy,hm⟩:=eH y R;exact⟨gy,bl ((bj hm).ext X)⟩
   .rw[n9.1 R];exact⟨gt,bl (cO.ext X)⟩,by rw[j6,bJ];rfl⟩
  refine hk _ ⟨A++[(t,c)],_,bU,cP,aK.trans eR,bW,bl ((bj eE).ext X),bl ((bj eF).ext X),eS,λ_ r C=>?_,eQ,λh=>Ω,λ_=>?_⟩
  .rcases eN r C with h|h
   .exact bD W r h
   .have:=aK.size;have:=bi.size;have:=aF.size;have:=X.size;have:=dW.2;omega
  .have eU:n.toNat-i=(n.toNat-(i+1))+1:=Ω
   rw[eU] at he;obtain⟨eV,eW⟩:=BP (sizes:=sizes) (acc:=A) (st:=eO) (t:=t) (c:=c) ee eg;cases P:bb 0 ao ((eY sizes [] (σ eO)).map (·.2)) with
   |none=>
    have a2:aq=ν:=by rw[<-cD];show (bb 0 ao _).map _=ν;rw[P];rfl
    rw[oV (eV P)] at he;refine .inr ⟨?_,he⟩;rw[a2];split<;>rfl
   |some q=>
    have a2:aq=σ q.2:=by rw[<-cD];show (bb 0 ao _).map _=_;rw[P];rfl
    have bm:=eW q P;by_cases hm:t∈A.map (·.1)
    .rw[if_pos hm] at bm;rw[oV bm] at he;exact .inr ⟨by rw[if_pos hm],he⟩
    .rw[if_neg hm] at bm;rw[sF bm] at he;refine .inl ⟨q.2,by rw[if_neg hm,a2],he,?_⟩;cases bY:eY sizes [] (σ eO) with
     |none=>rw[bY] at P;cases P
     |some p=>
      rw[bY] at P;obtain⟨bp,cV⟩:=p;have aS:iI sizes [] eO=σ (bp,cV):=bY;obtain⟨u,_,_,eX⟩:=vC aS;have aU:bc 0 ao cV=σ q:=P;obtain⟨fs,ft⟩:=q;have eZ:=de aU;have:=eX.1;have:=eZ.1;rw[p8];simp only[U3];omega
def jU (s:aA):Prop:=s.big=false->0<=s.told/\s.told<=16384
def jV (neg:Bool) (ar:Nat) (scope sizes:Λ) (e:Option aA):Option (ch×aA):=match bb 0 ao (e.map (a6 (decide (6<ar)||dr sizes))) with
 |none=>ν
 |some (other,f)=>match dB sizes f with
  |none=>ν
  |some (lines,a)=>σ (⟨scope,sizes,other,lines⟩,if neg=true then {a with shared:=a.shared++[(sizes,lines)]} else a)
theorem De {s s':aA} {l:List (Λ×Int)} (h:dB sizes s=σ (l,s')):s'.toks.length+1<=s.toks.length/\s'.shared=s.shared:=by
 unfold dB at h;cases j:bc (-ao) ao s with
 |none=>rw[j] at h;cases h
 |some q=>
  obtain⟨n,e⟩:=q;have r:=de j;have A:=r.1;have w:=r.eqs.2.2;rw[j] at h;simp only at h;split at h
  .split at h
   .cases h
   .split at h
    .cases h;exact⟨Ω,w⟩
    .cases h
  .have h':cK (dT sizes) n.toNat [] (a6 (decide (16384<min (e.told+n) ao)) {e with told:=min (e.told+n) ao})=σ (l,s'):=h;have:=iN (f:=dT sizes) (λ_ t=>t.toks.length<=e.toks.length/\t.shared=e.shared) (λacc t a bp x z=>by
    obtain⟨_,_,_,y⟩:=nN z;have h1:=y.1;have p:=y.eqs.2.2;exact⟨by have:=x.1;omega,p.trans x.2⟩) n.toNat [] (a6 (decide (16384<min (e.told+n) ao)) {e with told:=min (e.told+n) ao}) l s' ⟨o4 _,rfl⟩ h'
   obtain⟨⟨h1,p⟩,_⟩:=this;exact⟨Ω,p.trans w⟩
theorem tr {g:Nat} {H:af} {s:aA} (h:bL w g B H N (σ s)):s.toks.length<=100000/\s.shared.length+s.toks.length<=100000:=by
 obtain⟨j,w0,p,q,gs,sv,L,r,x,y,bad,z,big,A,told,h1,C,E,F,e,G,I,J,K,M,O,a,P,f,Q⟩:=h;have R:=e.2.2.1;refine⟨by rw[<-a,u7];omega,by rw[<-a,<-f,u7,u7];omega⟩
def Df (w:x3) (g h B:Nat) (H:af) (e:Option (ch×aA)) (v:x1) (w':x3):Prop:=∃f x a,ae (λr=>r=g\/H r\/r=h\/B<=r) w w'/\v= .agg (eT f).toArray/\gQ w' f x/\bL w' g w'.heap.size a 100001 (e.map (·.2))/\(∀q,e=σ q->x=q.1)/\(∀r,H r->a r)/\(∀r,a r->H r\/B<=r)/\ ∀r,a r->r<w'.heap.size
theorem Dg {g E ar:Nat} {H:af} {R:Option aA} {neg:Bool} {dF:Int} {scope:Λ} {Q:x1->x3->Prop}
  (h:bL w g B H 100000 R) (dG:hj w B E ⟨scope,sizes,0,[]⟩) (fs:∀c,aa w E a1 c->c[3]? =σ (.slice ν 0 0)) (dH:∀z∈sizes,1<=z/\z<=ao) (ft:sizes.length<=100001) (dI:aa w N a1 [.slice ν 0 0,.slice ν 0 0,Δ 0,.slice ν 0 0]) (jA:N<B) (cG:¬H N) (cH:∀r,H r->r<B) (fu:∀aw,R=σ aw->jU aw)
  (fv:∀v w',Df w g N B H (jV neg ar scope sizes R) v w'->Q v w'):
  V x7 (u6 a1 (Γ E) 1) w λfw=>
  V x7 (u5 an fw) w λdJ=>
  V x7 (V3 #[an] ag #[dJ]) w λfx=>
  bY (Δ 1) (Δ 0) w λdK cZ aH fy=>
   V x7 (aJ .lss ag false false cZ fx) aH λfz=>
   Split fz (cr (α:=x1->x3->Prop) (λ(fA:x1) (dL:x3)=>
    V x7 (aJ .add ag false true cZ (Δ 1)) dL λfD=>
    fy fA fD dL) λdN=>
   V x7 (c8 an dJ cZ) aH λfE=>
   V x7 (u5 ak fE) aH λdO=>
   cr (α:=x1->x3->Prop) (λ(fF:x1) (cI:x3)=>
    V x7 (aJ .mul ak false false dK fF) cI λdP=>
    V x7 (aJ .gtr ak false true dP (Δ 4096)) cI λfG=>
    Split fG (dN (Δ 4097) cI)
     (dN dP cI)) λdQ=>
   V x7 (aJ .gtr ak false true dO (Δ 4096)) aH λfH=>
   Split fH (dQ (Δ 4097) aH)
    (dQ dO aH))
    (cr (α:=x3->Prop) (λ(bX:x3)=>
   ai x7 lJ [(Γ g),(Δ 0),(Δ 4611686018427387904)] bX λdS bC=>
   V x7 (Z8 dS 0) bC λfI=>
   V x7 (Z8 dS 1) bC λjB=>
   V x7 (u6 a1 (Γ E) 2) bC λfJ=>
   av x7 (o5 ak fJ fI) bC λ(_:Unit) bf=>
   ai x7 lJ [(Γ g),(Δ (-4611686018427387904)),(Δ 4611686018427387904)] bf λdU O=>
   V x7 (Z8 dU 0) O λbD=>
   V x7 (Z8 dU 1) O λdV=>
   V x7 (bN (Γ g)) O λfK=>
   V x7 (u6 bB fK 3) O λfL=>
   V x7 (u5 ag fL) O λfM=>
   V x7 (aJ .neq ag false true fM (Δ 0)) O λfN=>
   Split fN (V x7 (u5 a1 (Γ E)) O λbZ=>
    av x7 (o5 a1 (Γ N) bZ) O λ(_:Unit) bg=>
    V x7 (do loadVar a1 (<-asAddr (Γ N))) bg λb0=>
 Q b0 bg)
    (cr (α:=x3->Prop) (λ(aU:x3)=>
    ci (Δ 0) aU λdW bm fO=>
     cr (α:=x1->x3->Prop) (λ(fP:x1) (b1:x3)=>
      Split fP (av x7 (S0 cc true (.tuple #[])) b1 λx cJ=>
     V x7 (u6 a1 (Γ E) 1) cJ λfQ=>
     V x7 (u5 an fQ) cJ λdX=>
     V x7 (V3 #[an] ag #[dX]) cJ λfR=>
     ci (Δ 0) cJ λc0 bE fS=>
      V x7 (aJ .lss ag false false c0 fR) bE λfU=>
      Split fU (V x7 (c8 an dX c0) bE λfV=>
      V x7 (u5 ak fV) bE λfW=>
      V x7 (aJ .sub ak false true fW (Δ 1)) bE λfX=>
      ai x7 lJ [(Γ g),(Δ 0),fX] bE λdY b2=>
      V x7 (Z8 dY 0) b2 λfY=>
      V x7 (Z8 dY 1) b2 λjC=>
      V x7 (u6 cc x 0) b2 λfZ=>
      V x7 (u5 an fZ) b2 λgb=>
      av x7 (Y4 an 1 #[(0,fY)]) b2 λgc gd=>
      av x7 (b9 #[an,an] an #[gb,gc]) gd λgf dZ=>
      V x7 (u6 cc x 0) dZ λgg=>
      av x7 (o5 an gg gf) dZ λ(_:Unit) ea=>
      V x7 (aJ .add ag false true c0 (Δ 1)) ea λgh=>
      fS gh ea)
       (ai x7 lJ [(Γ g),(Δ 0),(Δ 4611686018427387904)] bE λec bG=>
     V x7 (Z8 ec 0) bG λgi=>
     V x7 (Z8 ec 1) bG λgj=>
     V x7 (u6 a1 (Γ E) 3) bG λgk=>
     V x7 (u5 eb gk) bG λed=>
     V x7 (V3 #[eb] ag #[ed]) bG λgl=>
     ci (Δ 0) bG λc3 bH gm=>
      V x7 (aJ .lss ag false false c3 gl) bH λgn=>
      Split gn (cr (α:=x3->Prop) (λ(ee:x3)=>
       V x7 (aJ .add ag false true c3 (Δ 1)) ee λgp=>
       gm gp ee) λeg=>
      V x7 (c8 eb ed c3) bH λgq=>
      V x7 (u5 cc gq) bH λgu=>
      av x7 (S0 cc true (.tuple #[])) bH λy gv=>
      av x7 (o5 cc y gu) gv λ(_:Unit) aI=>
      cr (α:=x1->x3->Prop) (λ(gw:x1) (eh:x3)=>
       Split gw (ai x7 nl [(Γ g),(Δ 4),gj] eh λjD gA=>
        eg gA)
        (eg eh)) λej=>
      V x7 (bN (Γ g)) aI λgB=>
      V x7 (u6 bB gB 3) aI λgC=>
      V x7 (u5 ag gC) aI λgD=>
      V x7 (aJ .eql ag false true gD (Δ 0)) aI λgE=>
      Split gE (V x7 (u6 cc x 0) aI λgF=>
       V x7 (u5 an gF) aI λgH=>
      V x7 (u6 cc y 0) aI λgI=>
      V x7 (u5 an gI) aI λgJ=>
      ai x7 rS [gH,gJ] aI λgK gL=>
      ej gK gL)
       (ej (.bool false) aI))
       (V x7 (u6 cc x 1) bH λgM=>
     av x7 (o5 ak gM gi) bH λ(_:Unit) cL=>
     V x7 (u6 a1 (Γ E) 3) cL λgN=>
     V x7 (u5 eb gN) cL λgO=>
     V x7 (u5 cc x) cL λgP=>
     av x7 (Y4 eb 1 #[(0,gP)]) cL λgS gT=>
     av x7 (b9 #[eb,eb] eb #[gO,gS]) gT λgU ek=>
     V x7 (u6 a1 (Γ E) 3) ek λgV=>
     av x7 (o5 eb gV gU) ek λ(_:Unit) em=>
     V x7 (aJ .add ak false true dW (Δ 1)) em λgW=>
     fO gW em)))
       (cr (α:=x3->Prop) (λ(aj:x3)=>
     V x7 (u5 a1 (Γ E)) aj λgX=>
     av x7 (o5 a1 (Γ N) gX) aj λ(_:Unit) en=>
     V x7 (do loadVar a1 (<-asAddr (Γ N))) en λgY=>
 Q gY en) λeo=>
    Split (.bool neg) (ei b1 λax=>
     V x7 (bN (Γ g)) ax λc4=>
     V x7 (u6 bB c4 8) ax λc5=>
     V x7 (u5 dA c5) ax λep=>
     V x7 (u5 a1 (Γ E)) ax λgZ=>
     av x7 (Y4 dA 1 #[(0,gZ)]) ax λg0 aV=>
     (Ext ax aV\/b4 x7 (u5 dA c5) ep aV/\b4 x7 (u6 bB c4 8) c5 aV/\b4 x7 (bN (Γ g)) c4 aV/\True)/\
     av x7 (b9 #[dA,dA] dA #[ep,g0]) aV λg2 cM=>
      V x7 (bN (Γ g)) cM λg3=>
      V x7 (u6 bB g3 8) cM λg4=>
      av x7 (o5 dA g4 g2) cM λ(_:Unit) bn=>
      eo bn)
     (eo b1))) λer=>
     V x7 (aJ .lss ak false false dW bD) bm λg5=>
     Split g5 (V x7 (bN (Γ g)) bm λg6=>
     V x7 (u6 bB g6 3) bm λg7=>
     V x7 (u5 ag g7) bm λg8=>
     V x7 (aJ .eql ag false true g8 (Δ 0)) bm λg9=>
     er g9 bm)
      (er (.bool false) bm)) λes=>
   V x7 (aJ .lss ak false true bD (Δ 0)) O λha=>
   Split ha (cr (α:=x1->x3->Prop) (λ(hb:x1) (Y:x3)=>
     Split hb (ai x7 nl [(Γ g),(Δ 4),dV] Y λjE c6=>
     V x7 (u5 a1 (Γ E)) c6 λhc=>
     av x7 (o5 a1 (Γ N) hc) c6 λ(_:Unit) et=>
     V x7 (do loadVar a1 (<-asAddr (Γ N))) et λhd=>
 Q hd et)
     (V x7 (bN (Γ g)) Y λhf=>
    V x7 (u6 bB hf 8) Y λhg=>
    V x7 (u5 dA hg) Y λhl=>
    V x7 (Op.unary .neg bD) Y λhn=>
    V x7 (aJ .sub ak false true hn (Δ 1)) Y λho=>
    V x7 (c8 dA hl ho) Y λhp=>
    V x7 (u6 a1 hp 3) Y λhq=>
    V x7 (u5 eb hq) Y λhr=>
    V x7 (u6 a1 (Γ E) 3) Y λhs=>
    av x7 (o5 eb hs hr) Y λ(_:Unit) ev=>
    es ev)) λew=>
    ei O λP=>
    V x7 (Op.unary .neg bD) P λht=>
    V x7 (bN (Γ g)) P λhv=>
    V x7 (u6 bB hv 8) P λhx=>
    V x7 (u5 dA hx) P λhy=>
    V x7 (V3 #[dA] ag #[hy]) P λhz=>
    V x7 (aJ .gtr ak false false ht hz) P λhA=>
    Split hA (ew (.bool true) P)
    (V x7 (bN (Γ g)) P λhB=>
    V x7 (u6 bB hB 8) P λhC=>
    V x7 (u5 dA hC) P λhD=>
    V x7 (Op.unary .neg bD) P λhE=>
    V x7 (aJ .sub ak false true hE (Δ 1)) P λhF=>
    V x7 (c8 dA hD hF) P λhG=>
    V x7 (u6 a1 hG 1) P λhH=>
    V x7 (u5 an hH) P λhI=>
    V x7 (u6 a1 (Γ E) 1) P λhJ=>
    V x7 (u5 an hJ) P λhK=>
    ai x7 rS [hI,hK] P λhL c9=>
    V x7 (Op.unary .not hL) c9 λhM=>
    ew hM c9))
    (V x7 (bN (Γ g)) O λhN=>
    V x7 (u6 bB hN 7) O λhO=>
    V x7 (u5 ak hO) O λhP=>
    V x7 (aJ .add ak false false hP bD) O λhQ=>
    V x7 (bN (Γ g)) O λhR=>
    V x7 (u6 bB hR 7) O λhS=>
    av x7 (o5 ak hS hQ) O λ(_:Unit) aK=>
    cr (α:=x3->Prop) (λ(aL:x3)=>
     V x7 (bN (Γ g)) aL λhT=>
     V x7 (u6 bB hT 7) aL λhU=>
     V x7 (u5 ak hU) aL λhV=>
     V x7 (aJ .gtr ak false true hV (Δ 16384)) aL λhW=>
     ai x7 rQ [(Γ g),hW,dV] aL λjF da=>
     es da) λey=>
    V x7 (bN (Γ g)) aK λhY=>
    V x7 (u6 bB hY 7) aK λhZ=>
    V x7 (u5 ak hZ) aK λh2=>
    V x7 (aJ .gtr ak false true h2 (Δ 4611686018427387904)) aK λh4=>
    Split h4 (V x7 (bN (Γ g)) aK λh5=>
    V x7 (u6 bB h5 7) aK λh6=>
    av x7 (o5 ak h6 (Δ 4611686018427387904)) aK λ(_:Unit) ez=>
    ey ez)
    (ey aK)))) λeB=>
  V x7 (aJ .gtr ak false true (Δ (ar:Int)) (Δ 6)) aH λh7=>
  Split h7 (ai x7 rQ [(Γ g),(.bool true),(Δ dF)] aH λjG h8=>
  eB h8)
   (V x7 (aJ .gtr ak false true dK (Δ 4096)) aH λh9=>
  ai x7 rQ [(Γ g),h9,(Δ dF)] aH λjH ia=>
  eB ia)):=by
 have ib:=h.lt;have eD:N≠g:=λhe=>by
  obtain⟨ay,ab,ac,bad,aC,big,aF,told,sv,C,_⟩:=h3 h;subst he;exact absurd (eu C dI) Φ
 obtain⟨aD,szv,b6,g1,cN,cO,f1,f2,f3,f4,f5,f6,f7⟩:=id dG;have b3:E≠g:=Ω
 have ret:∀ {G:x3} {x:ch} {S:af},hj G B E x->aa G N a1 [.slice ν 0 0,.slice ν 0 0,Δ 0,.slice ν 0 0]->ae (λr=>r=g\/H r\/B<=r) w G->bL G g G.heap.size S 100001 ((jV neg ar scope sizes R).map (·.2))->(∀q,jV neg ar scope sizes R=σ q->x=q.1)->¬S N->(∀r,H r->S r)->(∀r,S r->H r\/B<=r)->(∀r,S r->r<G.heap.size)->
   (V x7 (u5 a1 (Γ E)) G λbZ=>
    av x7 (o5 a1 (Γ N) bZ) G λ(_:Unit) bg=>
    V x7 (do loadVar a1 (<-asAddr (Γ N))) bg λb0=>Q b0 bg):=by
  intro G x S dc dd ic ie ig ih df ii ij;obtain⟨aD,szv,b6,g1,cN,cO,dg,dh,di,dj,dk,eE,eF⟩:=dc;let ad:iY:=⟨aD,szv,x.other,b6⟩;have b5:gQ G ad x:=⟨⟨g1,dh⟩,⟨cN,di⟩,rfl,cO,dj⟩;rw[bx a1.p a1.i rfl (show G.rangeAt E 0 (eT ad) from dg.range)];refine bT (vs:=eT ad) a1.i rfl rfl b5.one dd λjI dl il im=>?_;rw[fB a1.p a1.i rfl im.range];have io:∀r,r=N->hh G r\/G.heap.size<=r:=λr j=>by subst j;exact .inl ⟨_,_,dd,Φ,Φ⟩
  refine fv _ _ ⟨ad,x,S,(ic.mono λr _ h=>?_).trans (dl.mono λr _ h=>.inr (.inr (.inl h))),rfl,b5.dM dl io,ie.dM dl λr j=>.inl ?_,ig,df,ii,λr j=>by rw[il];exact ij r j⟩
  .exact h.elim .inl λh=>h.elim (λh=>.inr (.inl h)) λh=>.inr (.inr (.inr h))
  .have j:r=N:=j;subst j;exact⟨_,_,dd,Φ,Φ,Φ,Φ,ih⟩
 have dn:∀ {G:x3},ae (gR g B) w G->aa G N a1 [.slice ν 0 0,.slice ν 0 0,Δ 0,.slice ν 0 0]:=λaY=>dI.U aY λI=>I.elim eD λh=>Ω
 have dp:∀ {G:x3},ae (gR g B) w G->ae (λr=>r=g\/H r\/B<=r) w G:=λaY=>aY.mono λr _ h=>h.elim .inl λh=>.inr (.inr h);have eH:∀ {G:x3} {eI:Nat} {S:af} {so:Option aA},bL G g eI S 100000 so->bL G g eI S 100001 so:=λj=>by
  obtain⟨b7,w0,ay,bh,gs,sv,L,aG,ab,ac,bad,aC,big,aF,told,h1,ip,iq,ir,it,dq,ds⟩:=j;refine⟨Ω,w0,ay,bh,gs,sv,L,aG,ab,ac,bad,aC,big,aF,told,h1,ip,iq,ir,it,dq,?_⟩;rename_i so;cases so with
  |none=>exact⟨ds.1,by have:=ds.2;omega⟩
  |some s=>exact ds
 have eJ:∀ {G:x3} {x:ch},hj G B E x->ae (gR g B) w G->bL G g B H 100000 ν->jV neg ar scope sizes R=ν->(V x7 (u5 a1 (Γ E)) G λbZ=>
    av x7 (o5 a1 (Γ N) bZ) G λ(_:Unit) bg=>
    V x7 (do loadVar a1 (<-asAddr (Γ N))) bg λb0=>Q b0 bg):=λdc aY j eK=>
  ret dc (dn aY) (dp aY) (by rw[eK];exact eH j.base) (λq W=>by rw[eK] at W;cases W) cG (λ_ h=>h) (λ_ h=>.inl h) λr j=>by have:=cH r j;have:=aY.size;omega
 rw[az a1.p 1 f1 rfl,aX an.u f3.ls];refine NG f3.ls (λz iu=>(dH z iu).1) λc aY=>?_;refine dm (λbX=>ae (λr=>r=g) w bX/\bL bX g B H 100000 (R.map (a6 (decide (6<ar)||dr sizes)))) ?_ ?_
 rotate_left
 .intro au aZ;rw[bS,ah];refine⟨λdq=>?_,λdq=>?_⟩
  .refine (mJ h).mono ?_;rintro _ J _ a2;refine aZ _ ⟨a2.1,?_⟩;rw[decide_eq_true (show 6<ar by omega),Bool.true_or];exact a2.2
  .rw[bS];refine (mJ h).mono ?_;rintro _ J _ a2;refine aZ _ ⟨a2.1,?_⟩;have e:dr sizes=decide (4096<c):=by rw[U1,decide_eq_true_eq];exact aY.symm
   rw[decide_eq_false (show ¬6<ar by omega),Bool.false_or,e];exact a2.2
 rintro bX ⟨iv,iw⟩;refine (kz iw).mono ?_;rintro _ bC _ ⟨⟨ix,iy⟩,o,jJ,rfl,iz,jK⟩;rw[bu,bw];have bI:ae (λr=>r=g) w bC:=iv.trans ix;have jL:=dG.dM bI (kA h);have f123:=f1.U bI λhe=>b3 he;rw[aP a1.p rfl];refine bo (g:=E) (o:=2) ak.i rfl rfl f123 Ξ λbf b8 jM bJ=>?_;have bJ:aa bf E a1 [aD,szv,Δ o,b6]:=bJ;have dt:∀r,r=g->hh w r\/w.heap.size<=r:=λr j=>(kA h r j).imp (λ⟨e,c,C,a7,a8,_⟩=>⟨e,c,C,a7,a8⟩) id;have bK:∀ {G:x3} {c:List x1},aa G E a1 c-> ∀r,r=E->hh G r\/G.heap.size<=r:=λC r j=>by subst j;exact .inl ⟨_,_,C,Φ,Φ⟩
 have f224:=eC (eC f2 bI dt) b8 (bK f123);have cP:=eC (eC f3 bI dt) b8 (bK f123);have eM:=(f4.dM bI dt).dM b8 (bK f123);have bM:=iy.new b8 λr j=>by have j:r=E:=j;omega
 have eN:ae (gR g B) w bf:=(bI.mono λr _ h=>.inl h).trans (b8.mono λr _ h=>.inr (by have h:r=E:=h;omega));refine (kz bM).mono ?_;rintro _ O _ ⟨⟨bi,ba⟩,n,jN,rfl,iA,eO⟩;rw[bu,bw,qP ba];have eP:ae (gR g B) w O:=eN.trans (bi.mono λr _ h=>.inl h);have iB:hj bf B E ⟨scope,sizes,o,[]⟩:=⟨aD,szv,b6,g1,cN,cO,bJ,f224,cP,eM,f5,f6,f7⟩;have eQ:=iB.dM bi (kA bM);cases bd:bb (-4611686018427387904) 4611686018427387904 (U6 (λx=>x.snd) (bb 0 4611686018427387904 (R.map (a6 (decide (6<ar)||dr sizes))))) with
 |none=>
  rw[bd] at ba;rw[Option.map_none,R4,V0,bO];refine eJ eQ eP ba ?_;unfold jV;cases X:bb 0 ao (R.map (a6 (decide (6<ar)||dr sizes))) with
  |none=>rfl
  |some p=>
   obtain⟨o',M⟩:=p;have iC:bb 0 4611686018427387904 (R.map (a6 (decide (6<ar)||dr sizes)))=σ (o',M):=X;rw[iC] at bd;have e:bc (-ao) ao M=ν:=bd;simp only;unfold dB;rw[e]
 |some q=>
 obtain⟨jO,K⟩:=q;have iD:=iA _ bd;subst iD;rw[bd] at ba;have ba:bL O g B H 100000 (σ K):=ba;rw[Z6,R3,Y5,aW];obtain⟨M,X,du⟩:∃M,bb 0 ao (R.map (a6 (decide (6<ar)||dr sizes)))=σ (o,M)/\bc (-ao) ao M=σ (n,K):=by
  cases X:bb 0 4611686018427387904 (R.map (a6 (decide (6<ar)||dr sizes))) with
  |none=>rw[X] at bd;cases bd
  |some p=>
   obtain⟨o',M⟩:=p;have:=iz _ X;subst this;rw[X] at bd;exact⟨M,X,bd⟩
 have ca:jV neg ar scope sizes R=match dB sizes M with
   |none=>ν
   |some (lines,K)=>σ (⟨scope,sizes,o,lines⟩,if neg=true then {K with shared:=K.shared++[(sizes,lines)]} else K):=by
  unfold jV;rw[X]
 have iE:=(hX du).1;have iF: -4611686018427387904<=n/\n<=4611686018427387904:=iE;have eR:dB sizes M=(if n<0 then match K.shared[(-n-1).toNat]? with
   |none=>ν
   |some (z,l)=>if z=sizes then σ (l,K) else ν
  else cK (dT sizes) n.toNat [] (a6 (decide (16384<min (K.told+n) ao)) {K with told:=min (K.told+n) ao})):=by
  unfold dB;rw[du];rfl
 have iG:jU K:=by
  cases bP:R with
  |none=>rw[bP] at X;cases X
  |some aw=>
   rw[bP] at X;have dv:bc 0 ao (a6 (decide (6<ar)||dr sizes) aw)=σ (o,M):=X;have cR:=(de dv).eqs;have cb:=(de du).eqs;intro C;rw[cb.2.1,cR.2.1] at C;rw[cb.1,cR.1];exact fu aw bP (S7.1 C).1
 refine dm (λaU=>ae (gR g B) w aU/\ ∃bp cd cS bj,aa aU E a1 [aD,szv,Δ o,bp]/\ap .i64 ak aU g1 aD scope/\ap .i64 ak aU cN szv sizes/\ky aU cd bp cS/\bL aU g B H 100000 (σ bj)/\(0<n->cS=[]/\ ∀r,¬leadsTo bp r)/\dB sizes M=(if n<=0 then σ (cS,bj) else cK (dT sizes) n.toNat [] bj)) ?_ ?_
 .rintro aU ⟨iH,bp,cd,cS,bj,dg,dh,di,dj,dk,eE,eF⟩;refine NJ dk dg dh di dj f5 f6 f7 dH ft iF.2 eE (tr dk).1 λb1 A dw iI eS eU iJ ce=>?_;have bQ:=iH.trans iI;have bq:dw=(dB sizes M).map (·.2)/\ ∀q,dB sizes M=σ q->A=q.1:=by
   rw[eF];by_cases dx:n<=0
   .obtain⟨ab,ac⟩:=iJ dx;rw[if_pos dx];exact⟨ac,λq W=>by cases W;exact ab⟩
   .rw[if_neg dx];exact ce Ω
  obtain⟨bq,a2⟩:=bq;cases neg with
  |false=>
   refine dm (λaj=>b1=aj) ?_ ?_
   .rintro _ rfl;refine ret eS (dn bQ) (dp bQ) ?_ ?_ cG (λ_ h=>h) (λ_ h=>.inl h) λr j=>by have:=cH r j;have:=bQ.size;omega
    .have:(jV false ar scope sizes R).map (·.2)=dw:=by
      rw[ca,bq];cases dB sizes M with
      |none=>rfl
      |some p=>rfl
     rw[this];exact eH eU.base
    .intro q W;rw[ca] at W;cases al:dB sizes M with
     |none=>rw[al] at W;cases W
     |some p=>
      rw[al] at W;have:=a2 p al;cases W;rw[this]
   .intro au aZ;rw[aW];exact aZ _ rfl
  |true=>
   refine dm (λaj=>∃S,ae (λr=>r=g\/H r\/B<=r) w aj/\hj aj B E ⟨scope,sizes,o,A⟩/\aa aj N a1 [.slice ν 0 0,.slice ν 0 0,Δ 0,.slice ν 0 0]/\bL aj g aj.heap.size S 100001 ((jV true ar scope sizes R).map (·.2))/\¬S N/\(∀r,H r->S r)/\(∀r,S r->H r\/B<=r)/\ ∀r,S r->r<aj.heap.size) ?_ ?_
   .rintro aj ⟨S,iK,iL,a3,a4,a5,iM,iN,iO⟩;refine ret iL a3 iK a4 ?_ a5 iM iN iO;intro q W;rw[ca] at W;cases al:dB sizes M with
    |none=>rw[al] at W;cases W
    |some p=>
     rw[al] at W;have:=a2 p al;cases W;rw[this]
   .intro au aZ;rw[bO];intro ax cg _ _;have iP:=eU.ext cg;have iQ:=eS.ext cg;have iR:=(dn bQ).ext cg;obtain⟨b7,w0,ay,bh,gs,sv,L,aG,ab,ac,bad,aC,big,aF,told,cT,br,bt,am,bz,bk,bA⟩:=id iP;have iS:=bz.g br bt;obtain⟨⟨iT,eV⟩,aN,cj,ck⟩:=id iS;have iU:∀r,leadsTo sv r->r<B:=λr j=>cH r (bk r j);rw[aO bB.p 8 am rfl];obtain⟨eW,eX,bp,eY,eZ,cd,e0,e1,e2,e3,iV,iW,iX⟩:=id iQ;let ad:iY:=⟨eW,eX,o,bp⟩;let x:ch:=⟨scope,sizes,o,A⟩;have b5:gQ ax ad x:=⟨⟨eY,e1⟩,⟨eZ,e2⟩,rfl,cd,e3⟩;rw[bx a1.p a1.i rfl (show ax.rangeAt E 0 (eT ad) from e0.range)];refine h0 (f:=eT) (a:=ad) dA.u a1.i Ω rfl rfl λjP jQ aV jR Z iZ=>?_;refine⟨.inl Z,?_⟩;have jS:L.length<=100000:=by
     cases dw with
     |none=>exact bA.2
     |some s=>have:=bA.2.2.2.2.2.2.2.2;omega
    have dy:=aN.ext Z;refine ik (f:=eT) (a:=ad) dA.u a1.i rfl dy (by simpa using iZ.sl) (b5.ext Z).one Ω Ω λe4 i0 cM cl i1 e5=>?_;have dz:=am.ext Z;have e6:=dz.U e5 λhe=>cQ dy dz Φ he;rw[bW,aP bB.p rfl];refine bo (g:=g) (o:=8) dA.i (eL cl.sl).1 (eL cl.sl).2 e6 (by simp[gx]) λbn dC jT cU=>?_;have cU:aa bn g bB (gx ay ab ac bad aC big aF told e4):=cU;have aR:ae (λr=>leadsTo sv r\/r=g) aV bn:=(e5.mono λr _ h=>.inl h).trans (dC.mono λr _ h=>.inr h);have cV:∀r,(leadsTo sv r\/r=g)->hh aV r\/aV.heap.size<=r:=λr j=>by
     rcases j with j|rfl
     .obtain⟨rfl,c,C⟩:=ef dy j;exact .inl ⟨_,c,C,Φ,Φ⟩
     .exact .inl ⟨_,_,dz,Φ,Φ⟩
    have e8:∀ {ad x},gQ ax ad x->gQ bn ad x:=λhe=>(he.ext Z).dM aR cV;have z50:=cg.size;have jW:=Z.size;have z53:=aR.size;have jX:=bQ.size;have jY:=ib.2;refine aZ _ ⟨λr=>H r\/(ax.heap.size<=r/\r<bn.heap.size),?_,?_,?_,?_,?_,λr j=>.inl j,λr j=>j.imp id λj=>Ω,λr j=>?_⟩
    .refine (((dp bQ).trans (cg.U _)).trans (Z.U _)).trans (aR.mono λr _ j=>?_);exact j.elim (λj=>.inr (.inl (bk r j))) .inl
    .have i2:=e0.ext Z;refine⟨eW,eX,bp,eY,eZ,cd,i2.U aR λj=>?_,eC (e1.ext Z) aR cV,eC (e2.ext Z) aR cV,(e3.dM (Z.U λ_=>False) λ_ h=>h.elim).dM aR cV,iV,iW,iX⟩;rcases j with j|j
     .have:=iU _ j;omega
     .exact b3 j
    .exact (iR.ext Z).U aR λj=>j.elim (λj=>cG (bk _ j)) eD
    .refine⟨Ω,bn,ay,bh,i0,e4,L++[ad],aG++[x],ab,ac,bad,aC,big,aF,told,rfl,ae.refl _ _,⟨_,cU⟩,cU,⟨⟨?_,λr j=>?_⟩,cl.U dC λr j he=>?_,by rw[p8,p8,cj];rfl,λi i3 i4 hi cm=>?_⟩,λr j=>?_,?_⟩
     .refine (iT.U (Z.U λ_=>False) λ_ _ h=>h).U aR λr j I=>?_;obtain⟨c,C⟩:=eV r j;rcases I with I|rfl
      .obtain⟨rfl,i5,dD⟩:=ef aN I;exact absurd (eu C dD) Φ
      .exact absurd (eu C am) Φ
     .obtain⟨c,C⟩:=eV r j;refine⟨c,(C.ext Z).U aR λI=>?_⟩;rcases I with I|rfl
      .obtain⟨rfl,i5,dD⟩:=ef aN I;exact absurd (eu C dD) Φ
      .exact absurd (eu C am) Φ
     .have he:r=g:=he;subst he;exact cQ cl e6 Φ j
     .by_cases i6:i<L.length
      .rw[Y8 i6] at hi;rw[Y8 Ω] at cm;exact e8 (ck i i3 i4 hi cm)
      .rw[X1 Ω] at hi;rw[X1 Ω] at cm;have i7:i-L.length=0:=by have:=(x4.1 hi).1;simp at this;omega
       have df:i-aG.length=0:=Ω
       rw[i7] at hi;rw[df] at cm;cases hi;cases cm;exact e8 b5
     .rcases i1 r j with h|h
      .exact .inl (bk r h)
      .have:=(cl.leads j);have:=dC.size;exact .inr ⟨Ω,Ω⟩
     .rw[ca];cases al:dB sizes M with
      |none=>
       rw[al] at bq;rw[bq] at bA;exact⟨bA.1,by rw[p8];simp;have:=bA.2;omega⟩
      |some p=>
       obtain⟨lines,bj⟩:=p;rw[al] at bq;rw[bq] at bA;have i8:=a2 _ al;obtain⟨cn,cp,cq,ct,cu,bR,cw,aS,cW⟩:=id bA;have e9:=De al;refine⟨cn,cp,cq,ct,cu,bR,cw,?_,?_⟩
       .show (aG++[x]).map _=bj.shared++[(sizes,lines)];rw[j6,aS];simp only[x,V7,List.map_nil];rw[i8]
       .have jZ:M.shared.length+M.toks.length<=100000:=by
         cases bP:R with
         |none=>rw[bP] at X;cases X
         |some aw=>
          rw[bP] at X h;have dv:bc 0 ao (a6 (decide (6<ar)||dr sizes) aw)=σ (o,M):=X;have t9:=de dv;have cR:=t9.1;have cb:=t9.eqs.2.2;have t3:=(tr h).2;have fa:(a6 (decide (6<ar)||dr sizes) aw).toks=aw.toks:=rfl;have fb:(a6 (decide (6<ar)||dr sizes) aw).shared=aw.shared:=rfl;rw[fa] at cR;rw[fb] at cb;rw[cb];omega
        have fc:L.length=bj.shared.length:=by rw[<-aS,u7,cj]
        have i9:bh.length=bj.toks.length:=by rw[<-bR,u7]
        rw[e9.2] at fc;rw[p8,fc,i9];simp only[U3];have:=e9.1;omega
    .rintro (j|j)
     .exact cG j
     .omega
    .rcases j with j|j
     .have:=cH r j;omega
     .exact j.2
 .intro au aZ;rw[aQ,ah];refine⟨λja=>?_,λjb=>?_⟩
  .
   refine aT (λv Y=>Ext O Y/\ ∃b:Bool,v= .bool b/\(b=true->dB sizes M=ν)/\(b=false-> ∃lines,dB sizes M=σ (lines,K)/\K.shared[(-n-1).toNat]? =σ (sizes,lines))) ?_ ?_
   .rintro _ Y ⟨bU,b,rfl,jc,jd⟩;have cX:=ba.ext bU;have je:=eQ.ext bU;have fd:=eP.trans (bU.U _);cases b with
    |true=>
     rw[bO];refine (n3 cX Ω).mono ?_;rintro _ c6 _ ⟨fe,jf⟩;exact eJ (je.dM fe (kA cX)) (fd.trans (fe.mono λr _ h=>.inl h)) jf (by rw[ca,jc rfl])
    |false=>
     rw[aW];obtain⟨lines,jg,bV⟩:=jd rfl;obtain⟨b7,w0,ay,bh,gs,sv,L,aG,ab,ac,bad,aC,big,aF,told,cT,br,bt,am,bz,bk,cn,cp,cq,ct,cu,bR,cw,aS,cW⟩:=id cX;obtain⟨_,aN,cj,ck⟩:=bz.g br bt;have cz:(-n-1).toNat<L.length:=by
      have h1:=(x4.1 bV).1;rw[<-aS,u7] at h1;omega
     obtain⟨hk,cA⟩:∃h,L[(-n-1).toNat]? =σ h:=⟨_,x6 cz⟩;obtain⟨be,cB⟩:=aE (l:=aG) (i:=(-n-1).toNat) Ω;obtain⟨_,_,_,jh,aq⟩:=ck _ hk be cA cB;have ji:be.lines=lines:=by
      rw[<-aS,x8,cB] at bV;have:=c7 bV;exact (R5.inj this).2
     rw[aO bB.p 8 am rfl,lO,wrap_i64 Ω Ω,dR,wrap_i64 Ω Ω,db (i:=(-n-1).toNat) Ω dA.u a1.i aN cz,aP a1.p rfl,aB Ψ (aN.range cA 3 _ rfl)];obtain⟨j0,ff,j1,j2⟩:=id aq;have cY:aa Y E a1 [aD,szv,Δ o,b6]:=(bJ.U bi λhe=>b3 he).ext bU;have jj:=(eC f224 bi λr j=>(kA bM r j).imp (λ⟨e,c,C,a7,a8,_⟩=>⟨e,c,C,a7,a8⟩) id).ext bU;have jk:=(eC cP bi λr j=>(kA bM r j).imp (λ⟨e,c,C,a7,a8,_⟩=>⟨e,c,C,a7,a8⟩) id).ext bU;rw[aP a1.p rfl];refine bo (g:=E) (o:=3) eb.i (eL ff.sl).1 (eL ff.sl).2 cY Ξ λev cC j3 jl=>?_;refine aZ _ ⟨fd.trans (cC.mono λr _ h=>.inr (by have h:r=E:=h;omega)),hk.b6,jh,lines,K,jl,eC jj cC (bK cY),eC jk cC (bK cY),?_,cX.new cC λr j=>by have j:r=E:=j;omega,λh=>Ω,by rw[jg,if_pos Ω]⟩;rw[<-ji];exact aq.dM cC (bK cY)
   .intro j5 fg;intro P cD _ _;have jm:=ba.ext cD;obtain⟨b7,w0,ay,bh,gs,sv,L,aG,ab,ac,bad,aC,big,aF,told,cT,br,bt,am,bz,bk,cn,cp,cq,ct,cu,bR,cw,aS,cW⟩:=id jm;obtain⟨_,aN,cj,ck⟩:=bz.g br bt;have j7:K.shared.length=L.length:=by rw[<-aS,u7,cj]
    have aq:=eR;rw[if_pos ja] at aq;rw[lO,wrap_i64 Ω Ω,aO bB.p 8 am rfl,eA dA.u aN,bS,ah];refine⟨λce=>fg _ _ ⟨cD,true,rfl,λ_=>?_,λh=>by cases h⟩,λce=>?_⟩
    .rw[aq,Z4 Ω]
    have cz:(-n-1).toNat<L.length:=Ω
    obtain⟨hk,cA⟩:∃h,L[(-n-1).toNat]? =σ h:=⟨_,x6 cz⟩;obtain⟨be,cB⟩:=aE (l:=aG) (i:=(-n-1).toNat) Ω;obtain⟨_,⟨gz,jn⟩,_,_⟩:=ck _ hk be cA cB;have bV:K.shared[(-n-1).toNat]? =σ (be.sizes,be.lines):=by rw[<-aS,x8,cB];rfl
    rw[bV] at aq;simp only at aq;rw[aO bB.p 8 am rfl,lO,wrap_i64 Ω Ω,dR,wrap_i64 Ω Ω,db (i:=(-n-1).toNat) Ω dA.u a1.i aN cz,aP a1.p rfl,aB Ψ (aN.range cA 1 _ rfl)];have jo:aa P E a1 [aD,szv,Δ o,b6]:=(bJ.U bi λhe=>b3 he).ext cD;have jp:=(eC cP bi λr j=>(kA bM r j).imp (λ⟨e,c,C,a7,a8,_⟩=>⟨e,c,C,a7,a8⟩) id).ext cD;rw[az a1.p 1 jo rfl];refine (wH jn.ls jp.ls).mono ?_;rintro _ c9 _ ⟨rfl,jq⟩;rw[bF];refine fg _ _ ⟨cD.trans jq,_,rfl,λC=>?_,λC=>?_⟩
    .have jr:be.sizes≠sizes:=by simpa using C
     rw[aq,if_neg jr]
    .have fh:be.sizes=sizes:=by simpa using C
     exact⟨be.lines,by rw[aq,if_pos fh],by rw[bV,fh]⟩
  .
   have aq:=eR;rw[if_neg jb] at aq;obtain⟨b7,w0,ay,bh,gs,sv,L,aG,ab,ac,bad,aC,big,aF,told,cT,br,bt,am,bz,bk,cn,cp,cq,ct,cu,bR,cw,aS,cW⟩:=id ba;rw[aO bB.p 7 am rfl,aM];generalize js:X7.wrap (told+n)=bl;have fj:K.big=false->bl=K.told+n/\0<=bl:=λC=>by
    obtain⟨fa,fb⟩:=iG C;have jt:=ct C;rw[<-js,jt,wrap_i64 Ω Ω];exact⟨rfl,Ω⟩
   rw[bW,aP bB.p rfl];refine bo (g:=g) (o:=7) ak.i rfl rfl am (by simp[gx]) λaK fk j8 cE=>?_;have cE:aa aK g bB (gx ay ab ac bad aC big aF bl sv):=cE;refine dm (λaL=>ae (λr=>r=g) O aL/\aa aL g bB (gx ay ab ac bad aC big aF (min bl ao) sv)) ?_ ?_
   rotate_left
   .intro j9 fm;rw[aO bB.p 7 cE rfl,bS,ah];refine⟨λce=>?_,λce=>fm _ ⟨fk,?_⟩⟩
    .rw[bW,aP bB.p rfl];refine bo (g:=g) (o:=7) ak.i rfl rfl cE (by simp[gx]) λez ju ka jv=>?_;refine fm _ ⟨fk.trans ju,?_⟩;have e:min bl ao=4611686018427387904:=by unfold ao;omega
     rw[e];exact jv
    .have e:min bl ao=bl:=by unfold ao;omega
     rw[e];exact cE
   rintro aL ⟨fo,fp⟩;have jw:bL aL g B H 100000 (σ {K with told:=min (K.told+n) ao}):=⟨b7,w0,ay,bh,gs,sv,L,aG,ab,ac,bad,aC,big,aF,_,cT,br.trans fo,bt,fp,bz,bk,cn,cp,cq,λC=>by
    have C:K.big=false:=C;rw[(fj C).1],cu,bR,cw,aS,cW⟩
   rw[aO bB.p 7 fp rfl,bS];refine (mJ jw).mono ?_;rintro _ da _ ⟨jx,fq⟩;have jy:(σ {K with told:=min (K.told+n) ao}).map (a6 (decide (16384<min bl ao)))=σ (a6 (decide (16384<min (K.told+n) ao)) {K with told:=min (K.told+n) ao}):=by
    show σ (a6 _ _)=_;congr 1;unfold a6;cases C:K.big with
    |true=>simp
    |false=>rw[(fj C).1]
   rw[jy] at fq;have cF:ae (λr=>r=g) bf da:=(bi.trans fo).trans jx;have dE:∀r,r=g->hh bf r\/bf.heap.size<=r:=λr j=>(kA bM r j).imp (λ⟨e,c,C,a7,a8,_⟩=>⟨e,c,C,a7,a8⟩) id;have jz:b6= .slice ν 0 0:=by
    have:=fs _ f1;simpa using this
   refine aZ _ ⟨eN.trans (cF.mono λr _ h=>.inl h),b6,cO,[],_,bJ.U cF λhe=>b3 he,eC f224 cF dE,eC cP cF dE,eM.dM cF dE,fq,λ_=>⟨rfl,λr j=>by rw[jz] at j;exact e7 j⟩,?_⟩;rw[aq];by_cases eO:n<=0
   .have:n=0:=Ω
    subst this;rw[if_pos (Int.le_refl _)];rfl
   .rw[if_neg eO]
theorem Dh {s:aA}:cY all s=match bc (-ao) ao s with
  |none=>ν
  |some (a,f)=>match eR all.length a.natAbs f with
   |none=>ν
   |some (scope,e)=>jV (decide (a<0)) a.natAbs scope (scope.map λv=>all.getD v.toNat 0) (σ e):=by
 unfold cY;cases bc (-ao) ao s with
 |none=>rfl
 |some q=>
  obtain⟨a,f⟩:=q;simp only;cases eR all.length a.natAbs f with
  |none=>rfl
  |some p=>
   obtain⟨scope,e⟩:=p;simp only;unfold jV;show _=match bc 0 ao (a6 (decide (6<a.natAbs)||dr (scope.map λv=>all.getD v.toNat 0)) e) with
    |none=>ν
    |some (other,h)=>_
   cases bc 0 ao (a6 (decide (6<a.natAbs)||dr (scope.map λv=>all.getD v.toNat 0)) e) with
   |none=>rfl
   |some r=>
    obtain⟨o,h⟩:=r;simp only;cases dB (scope.map λv=>all.getD v.toNat 0) h with
    |none=>rfl
    |some w=>
     obtain⟨ls,x⟩:=w;by_cases j:a<0
     .simp[j]
     .simp[j]
def wJ (w:x3) (g:Nat) (H:af) (e:Option (ch×aA)) (v:x1) (w':x3):Prop:=∃f x a,ae (λr=>r=g\/H r) w w'/\v= .agg (eT f).toArray/\gQ w' f x/\bL w' g w'.heap.size a 100001 (e.map (·.2))/\(∀q,e=σ q->x=q.1)/\(∀r,H r->a r)/\(∀r,a r->H r\/w.heap.size<=r)/\ ∀r,a r->r<w'.heap.size
theorem Di {n:Int} {s s':aA} (h:eR n k s=σ (l,s')):s'.toks.length+l.length<=s.toks.length/\s'.told=s.told/\s'.big=s.big/\s'.shared=s.shared/\ ∀v∈l,0<=v/\v<n:=by
 have:=iN (f:=kr n) (λ(acc:Λ) t=>t.toks.length+acc.length<=s.toks.length/\t.told=s.told/\t.big=s.big/\t.shared=s.shared/\ ∀v∈acc,0<=v/\v<n) (λacc t a bp j e=>by
  unfold kr at e;cases r:bc 0 (n-1) t with
  |none=>rw[r] at e;cases e
  |some q=>
   obtain⟨v,C⟩:=q;rw[r] at e;simp only at e;split at e
   .cases e
   .cases e;have w:=de r;have E:=(hX r).1;obtain⟨x,z,A⟩:=w.eqs;have t0:=w.1;refine⟨by have:=j.1;rw[p8];simp only[U3];omega,x.trans j.2.1,z.trans j.2.2.1,A.trans j.2.2.2.1,λy p=>?_⟩;rcases l9.1 p with p|p
    .exact j.2.2.2.2 y p
    .rw[n9.1 p];omega) k [] s l s' ⟨Ξ,rfl,rfl,rfl,λv B=>by cases B⟩ h
 exact this.1
theorem NK {g B0:Nat} {H:af} {s:aA} {P:x1} (h:bL w g B0 H 100000 (σ s)) (ac:ap .i64 ak w gz P all) (ad:∀z∈all,1<=z/\z<=ao) (aP:all.length<=100001) (Q:∀r,H r->r<w.heap.size) (bj:jU s):
  ai x7 y4 [Γ g,P] w (wJ w g H (cY all s)):=by
 have bX:=h.lt;refine aw func91 ?_;refine bt a1.i λG J bY R S=>?_;have S:aa J G a1 [.slice ν 0 0,.slice ν 0 0,Δ 0,.slice ν 0 0]:=S;refine bt a1.i λM w2 bZ W X=>?_;have X:aa w2 M a1 [.slice ν 0 0,.slice ν 0 0,Δ 0,.slice ν 0 0]:=X;have h1:=(h.ext R).base;have ag:=h1.ext W;have b0:=R.size;have aR:=S.lt;have b1:=X.lt;refine (kz ag).mono ?_;rintro _ E _ ⟨⟨Y,j⟩,a,b2,rfl,aj,al⟩;rw[bu,bw,aQ];have bk:M≠g:=Ω
 have am:G≠g:=Ω
 have an:=X.U Y λhe=>bk he;have aq:=(S.ext W).U Y λhe=>am he;have aS:ap .i64 ak E gz P all:=bq ((ac.ext R).ext W) Y λr e he=>by
  have he:r=g:=he;obtain⟨aU,B,K,bad,aV,big,aW,told,sv,Z,_⟩:=h3 h;subst he;exact cd ac Z Φ e rfl
 have aX:∀r,leads P r->r<J.heap.size:=λr e=>by obtain⟨B,K⟩:=bU ac e;omega
 have ax:hj E J.heap.size M ⟨[],[],0,[]⟩:=⟨_,_,_,0,0,0,an,ap.nil _ _ _ _,ap.nil _ _ _ _,⟨[],bg.nil _ _ _ _ _,λy bl=>(by cases bl),rfl⟩,(λr e=>by rcases e with⟨a,n,c,B,K⟩|⟨a,n,c,B,K⟩<;>cases B),(λr e=>by obtain⟨a,n,c,B,K⟩:=e;cases B),Ω⟩;have az:∀c,aa E M a1 c->c[3]? =σ (.slice ν 0 0):=λc aB=>by
  unfold aa at aB an;rw[an] at aB;have:=Array.toList_inj.2 (Obj.cells.inj (c7 aB)).1;simp at this;rw[<-this];rfl
 have aY:ae (λr=>r=g) J E:=(W.U _).trans Y;have b3:J.heap.size<=E.heap.size:=aY.size;have aC:∀ {f:x3} {aE:Option (ch×aA)} {v:x1} {w':x3},ae (gR g J.heap.size) E f->aE=cY all s->Df f g G J.heap.size H aE v w'->wJ w g H (cY all s) v w':=by
  rintro f aE v w' C rfl ⟨O,x,bm,aF,aG,aH,aI,aZ,a2,a6,bn⟩;refine⟨O,x,bm,?_,aG,aH,aI,aZ,a2,λr e=>(a6 r e).imp id λh=>Ω,bn⟩;refine hy (hy ((R.U _).trans (aY.mono λr _ h=>.inl h)) C λr e he=>?_) aF λr e he=>?_
  .exact he.elim .inl λhe=>Ω
  .rcases he with he|he|he|he
   .exact .inl he
   .exact .inr he
   .omega
   .omega
 have bo:∀ {f:x3} {x:ch},ae (gR g J.heap.size) E f->cY all s=ν->bL f g J.heap.size H 100000 ν->hj f J.heap.size M x->
   (V x7 (u5 a1 (Γ M)) f λbp=>
    av x7 (o5 a1 (Γ G) bp) f λ(_:Unit) a7=>
    V x7 (do loadVar a1 (<-asAddr (Γ G))) a7 λbr=>wJ w g H (cY all s) br a7):=by
  intro f x C a8 aJ bz;obtain⟨aD,szv,b6,g1,bA,bB,aF,aG,aH,aI,aZ,a2,a6⟩:=bz;let O:iY:=⟨aD,szv,x.other,b6⟩;have ba:gQ f O x:=⟨⟨g1,aG⟩,⟨bA,aH⟩,rfl,bB,aI⟩;have aK:=aq.U C λI=>I.elim am λh=>Ω
  rw[bx a1.p a1.i rfl (show f.rangeAt M 0 (eT O) from aF.range)];refine bT (vs:=eT O) a1.i rfl rfl ba.one aK λb4 aL b5 bC=>?_;rw[fB a1.p a1.i rfl bC.range];have bD:∀r,r=G->hh f r\/f.heap.size<=r:=λr e=>by subst e;exact .inl ⟨_,_,aK,Φ,Φ⟩
  have b7:=C.size;refine aC C rfl ⟨O,x,H,aL.mono λr _ h=>.inr (.inr (.inl h)),rfl,ba.dM aL bD,?_,(λq A=>by rw[a8] at A;cases A),λ_ h=>h,λ_ h=>.inl h,λr e=>by have:=Q r e;omega⟩;rw[a8];have bE:bL f g J.heap.size H 100001 ν:=by
   obtain⟨b8,w0,aU,bF,gs,sv,L,bG,B,K,bad,aV,big,aW,told,h1,ag,j,bH,bI,aM,bd⟩:=aJ;exact⟨Ω,w0,aU,bF,gs,sv,L,bG,B,K,bad,aV,big,aW,told,h1,ag,j,bH,bI,aM,bd.1,by have:=bd.2;omega⟩
  refine bE.dM aL λr e=>.inl ?_;have e:r=G:=e;subst e;exact⟨_,_,aK,Φ,Φ,Φ,Φ,λay=>by have:=Q _ ay;omega⟩
 have N:=Dh (all:=all) (s:=s);have bJ:bb (-4611686018427387904) 4611686018427387904 (σ s)=bc (-ao) ao s:=rfl;rw[bJ] at j aj al;have b9: -4611686018427387904<=a/\a<=4611686018427387904:=by
  cases A:bc (-ao) ao s with
  |none=>have:=al A;omega
  |some q=>have:=aj q A;rw[this];exact (hX (n:=q.1) (s':=q.2) A).1
 refine aT (λv bK=>E=bK/\v=Δ (a.natAbs:Int)) ?_ ?_
 rotate_left
 .intro au be;rw[ah];refine⟨λca=>?_,λcb=>be _ _ ⟨rfl,by congr 1;omega⟩⟩;rw[lO,wrap_i64 Ω Ω];exact be _ _ ⟨rfl,by congr 1;omega⟩
 rintro _ _ ⟨rfl,rfl⟩;have bf:∀r,H r->r<J.heap.size:=λr e=>by have:=Q r e;omega
 have bh:¬H G:=λay=>by have:=Q _ ay;omega
 have bM:∀ {scope:Λ},(∀v∈scope,0<=v/\v<(all.length:Int))-> ∀z∈scope.map (λv=>all.getD v.toNat 0),1<=z/\z<=ao:=λbN z bO=>by
  obtain⟨v,bP,rfl⟩:=l7.1 bO;have:=bN v bP;refine ad _ ?_;rw[u4,x6 Ω];exact Q4 _
 cases A:bc (-ao) ao s with
 |none=>
  rw[A] at j N;have bQ:=al A;subst bQ;refine Dd (s:=s) (ar:=(0:Int).natAbs) j (.inr ⟨rfl,rfl⟩) ax az aS aX aP Φ (λh=>by cases h) ?_ ?_ ?_
  .intro h;cases h
  .intro _;exact Dg (neg:=decide ((0:Int)<0)) j ax az (λz ad=>by cases ad) Ξ aq aR bh bf (λbR I=>by cases I) λv w' aN=>aC (ae.refl _ _) (by rw[N];rfl) aN
  .intro h;cases h
 |some q=>
  obtain⟨a',bi⟩:=q;rw[A] at j N;have:=aj _ A;subst this;simp only at N;have j:bL E g J.heap.size H 100000 (σ bi):=j;have bS:=de A;refine Dd (s:=bi) (ar:=a.natAbs) j (.inl rfl) ax az aS aX aP Ω (λ_=>(tr j).1) ?_ ?_ ?_
  .intro _ f x C ab aJ aO;exact bo C (by rw[N,ab]) aJ aO
  .intro h;cases h
  .intro _ f scope s' C ab aM aO bV;obtain⟨cc,bW,t3,t4,t5⟩:=Di ab;rw[ab] at N;obtain⟨B,K,ce⟩:=bS.eqs;refine Dg (neg:=decide (a<0)) aM aO bV (bM t5) ?_ (aq.U C λI=>I.elim am λh=>Ω) aR bh bf (λbR I=>?_) λv w' aN=>aC C N.symm aN
   .rw[u7];have:=(tr j).1;omega
   .cases I;intro Z;rw[t3,K] at Z;rw[bW,B];exact bj Z
theorem NL {s s':aA} {l:List (Λ×Int)} (h:dB sizes s=σ (l,s')) (w:jU s):jU s':=by
 unfold dB at h;cases p:bc (-ao) ao s with
 |none=>rw[p] at h;cases h
 |some q=>
  obtain⟨n,e⟩:=q;obtain⟨x,y,t3⟩:=(de p).eqs;have r:jU e:=λj=>by rw[x];exact w (by rw[<-y];exact j)
  rw[p] at h;simp only at h;split at h
  .split at h
   .cases h
   .split at h
    .cases h;exact r
    .cases h
  .rename_i H;have h':cK (dT sizes) n.toNat [] (a6 (decide (16384<min (e.told+n) ao)) {e with told:=min (e.told+n) ao})=σ (l,s'):=h;have:=iN (f:=dT sizes) (λ_ t=>jU t) (λacc t a bp z A=>by
    obtain⟨_,_,_,B⟩:=nN A;obtain⟨C,E,I⟩:=B.eqs;intro j;rw[C];exact z (by rw[<-E];exact j)) n.toNat [] (a6 (decide (16384<min (e.told+n) ao)) {e with told:=min (e.told+n) ao}) l s' (λj=>by
     obtain⟨F,G⟩:=S7.1 j;have J:=r F;have K:=of_decide_eq_false G;show 0<=min (e.told+n) ao/\min (e.told+n) ao<=16384;unfold ao at*;omega) h'
   exact this.1
theorem NM {s s':aA} {x:ch} (h:cY all s=σ (x,s')):s'.toks.length+1<=s.toks.length/\(jU s->jU s'):=by
 rw[Dh] at h;cases r:bc (-ao) ao s with
 |none=>rw[r] at h;cases h
 |some q=>
  obtain⟨a,F⟩:=q;rw[r] at h;simp only at h;have A:=de r;cases I:eR all.length a.natAbs F with
  |none=>rw[I] at h;cases h
  |some p=>
   obtain⟨scope,f⟩:=p;rw[I] at h;simp only at h;obtain⟨U,G,t3,_⟩:=Di I;unfold jV at h;have e:bb 0 ao ((σ f).map (a6 (decide (6<a.natAbs)||dr (scope.map λv=>all.getD v.toNat 0))))=bc 0 ao (a6 (decide (6<a.natAbs)||dr (scope.map λv=>all.getD v.toNat 0)) f):=rfl;rw[e] at h;cases w:bc 0 ao (a6 (decide (6<a.natAbs)||dr (scope.map λv=>all.getD v.toNat 0)) f) with
   |none=>rw[w] at h;cases h
   |some H=>
    obtain⟨o,B⟩:=H;rw[w] at h;simp only at h;have C:=de w;cases j:dB (scope.map λv=>all.getD v.toNat 0) B with
    |none=>rw[j] at h;cases h
    |some J=>
     obtain⟨ls,y⟩:=J;rw[j] at h;simp only[Y3,T2] at h;obtain⟨_,K⟩:=h;have V:=De j;have L:(a6 (decide (6<a.natAbs)||dr (scope.map λv=>all.getD v.toNat 0)) f).toks=f.toks:=rfl;have M:=C.1;rw[L] at M;have W:=A.1;obtain⟨N,O,_⟩:=A.eqs;obtain⟨f1,f2,_⟩:=C.eqs;have z:s'.toks=y.toks/\s'.told=y.told/\s'.big=y.big:=by
      rw[<-K];split<;>exact⟨rfl,rfl,rfl⟩
     refine⟨by rw[z.1];omega,λP=>?_⟩;have Q:jU B:=λE=>by
      rw[f2] at E;rw[f1];have R:f.big=false:=(S7.1 E).1;show 0<=f.told/\f.told<=16384;rw[G,N];exact P (by rw[<-O,<-t3];exact R)
     have S:=NL j Q;intro T;rw[z.2.1];exact S (by rw[<-z.2.2];exact T)
theorem bL.shrink {g:Nat} {H:af} {so:Option aA} (h:bL w g B H N so):∃a,bL w g B a N so/\(∀r,a r->H r)/\ ∀r,a r-> ∃c,aa w r a1 c:=by
 obtain⟨s,w0,x,y,gs,sv,L,z,A,C,bad,E,big,F,told,h1,f,j,G,p,I,J⟩:=h;refine⟨λr=>leadsTo sv r,⟨s,w0,x,y,gs,sv,L,z,A,C,bad,E,big,F,told,h1,f,j,G,p,λr e=>e,J⟩,I,λr e=>?_⟩;obtain⟨rfl,c,q⟩:=ef p.2.1 e;refine⟨c,q.U f λhe=>?_⟩;obtain⟨M,K⟩:=j;subst he;exact absurd (eu q K) Φ
theorem bL.low {g:Nat} {H:af} {s:aA} (h:bL w g B H N (σ s)):bL w g B H 100000 (σ s):=by
 obtain⟨F,w0,a,e,gs,sv,L,f,j,p,bad,q,big,r,told,h1,x,y,z,A,C,E⟩:=h;exact⟨o4 _,w0,a,e,gs,sv,L,f,j,p,bad,q,big,r,told,h1,x,y,z,A,C,E⟩
theorem bL.up {g M:Nat} {H:af} {so:Option aA} (h:bL w g B H N so) (F:N<=M):bL w g B H M so:=by
 obtain⟨G,w0,e,f,gs,sv,L,j,p,q,bad,r,big,x,told,h1,y,z,A,C,E,a⟩:=h;refine⟨Ω,w0,e,f,gs,sv,L,j,p,q,bad,r,big,x,told,h1,y,z,A,C,E,?_⟩;cases so with
 |none=>exact⟨a.1,by have:=a.2;omega⟩
 |some s=>exact a
def ll {α:Type} (f:List α->aA->Option (α×aA)) (cnt i:Nat) (a:Option aA) (A:List α) (so:Option aA):Prop:=a.bind (cK f cnt [])=(match so with
 |none=>ν
 |some s=>cK f (cnt-i) A s)
theorem ll.step {α:Type} {f:List α->aA->Option (α×aA)} {cnt i:Nat} {j:Option aA} {A:List α} {s:aA} {a:α} {p:Option aA} (h:ll f cnt i j A (σ s)) (hi:i<cnt) (h1:p=(f A s).map (·.2)) (r:∀q,f A s=σ q->a=q.1):ll f cnt (i+1) j (A++[a]) p:=by
 unfold ll at*;rw[h,show cnt-i=(cnt-(i+1))+1 by omega];simp only;cases e:f A s with
 |none=>rw[oV e,h1,e];rfl
 |some q=>
  obtain⟨a',s'⟩:=q;have:=r _ e;subst this;rw[sF e,h1,e];rfl
theorem NN {s0:aA} {t acc:Λ} {n most p k:Int} {G:List ch} {x y z A H so6 e:Option aA} (h1:x=((dK s0).map (·.2)).map (a6 (decide (64<t.length)))) (Q:∀q,dK s0=σ q->t=q.1)
  (r:y=((bb 1 ao x).map (·.2)).map (a6 (decide (64<n)))) (N:∀q,bb 1 ao x=σ q->n=q.1) (h:z=(bb 1 ao y).map (·.2)) (hm:∀q,bb 1 ao y=σ q->most=q.1)
  (f:A=((bb 0 ao z).map (·.2)).map (a6 (decide (256<p)))) (O:∀q,bb 0 ao z=σ q->p=q.1) (a:H=((bb 1 ao A).map (·.2)).map (a6 (decide (2147483648<k)))) (hk:∀q,bb 1 ao A=σ q->k=q.1)
  (w:H.bind (cK (e5 most) n.toNat [])=so6.map λs=>(acc,s)) (j:so6.bind (cK (λ_ s=>cY acc s) p.toNat [])=e.map λs=>(G,s)):gY s0=e.map λs=>(⟨t,k,acc,G⟩,s):=by
 unfold gY;cases I:dK s0 with
 |none=>
  rw[I] at h1;subst h1;subst r;subst h;subst f;subst a;have:so6=ν:=by cases so6 with|none=>rfl|some s=>cases w
  subst this;cases e with|none=>rfl|some s=>cases j
 |some R=>
 obtain⟨bp,B⟩:=R;have:=Q _ I;subst this;rw[I] at h1;have h1:x=σ (a6 (decide (64<t.length)) B):=h1;subst h1;simp only;have S:bb 1 ao (σ (a6 (decide (64<t.length)) B))=bc 1 ao (a6 (decide (64<t.length)) B):=rfl;rw[S] at r N;cases J:bc 1 ao (a6 (decide (64<t.length)) B) with
 |none=>
  rw[J] at r;subst r;subst h;subst f;subst a;have:so6=ν:=by cases so6 with|none=>rfl|some s=>cases w
  subst this;cases e with|none=>rfl|some s=>cases j
 |some T=>
 obtain⟨ab,C⟩:=T;have:=N _ J;subst this;rw[J] at r;have r:y=σ (a6 (decide (64<n)) C):=r;subst r;simp only;have U:bb 1 ao (σ (a6 (decide (64<n)) C))=bc 1 ao (a6 (decide (64<n)) C):=rfl;rw[U] at h hm;cases K:bc 1 ao (a6 (decide (64<n)) C) with
 |none=>
  rw[K] at h;subst h;subst f;subst a;have:so6=ν:=by cases so6 with|none=>rfl|some s=>cases w
  subst this;cases e with|none=>rfl|some s=>cases j
 |some V=>
 obtain⟨cm,E⟩:=V;have:=hm _ K;subst this;rw[K] at h;have h:z=σ E:=h;subst h;simp only;have W:bb 0 ao (σ E)=bc 0 ao E:=rfl;rw[W] at f O;cases L:bc 0 ao E with
 |none=>
  rw[L] at f;subst f;subst a;have:so6=ν:=by cases so6 with|none=>rfl|some s=>cases w
  subst this;cases e with|none=>rfl|some s=>cases j
 |some X=>
 obtain⟨ac,F⟩:=X;have:=O _ L;subst this;rw[L] at f;have f:A=σ (a6 (decide (256<p)) F):=f;subst f;simp only;have Y:bb 1 ao (σ (a6 (decide (256<p)) F))=bc 1 ao (a6 (decide (256<p)) F):=rfl;rw[Y] at a hk;cases M:bc 1 ao (a6 (decide (256<p)) F) with
 |none=>
  rw[M] at a;subst a;have:so6=ν:=by cases so6 with|none=>rfl|some s=>cases w
  subst this;cases e with|none=>rfl|some s=>cases j
 |some Z=>
 obtain⟨ad,P⟩:=Z;have:=hk _ M;subst this;rw[M] at a;have a:H=σ (a6 (decide (2147483648<k)) P):=a;subst a;simp only;have w:cK (e5 most) n.toNat [] (a6 (decide (2147483648<k)) P)=so6.map λs=>(acc,s):=w;rw[w];cases so6 with
 |none=>cases e with|none=>rfl|some s=>cases j
 |some aa=>
  simp only[Z6];have j:cK (λ_ s=>cY acc s) p.toNat [] aa=e.map λs=>(G,s):=j;rw[j];cases e<;>rfl
def pj (w:x3) (gr:Nat) (e:x1) (a:List ch):Prop:=∃L,bg eT 4 a1 w gr e L/\a.length=L.length/\ ∀ (i:Nat) h x,L[i]? =σ h->a[i]? =σ x->gQ w h x
def n4 (w:x3) (e:Nat) (f:bZ):Prop:=∃szv gz a gr,aa w e dF [bR f.name,Δ f.k,szv,a]/\ap .i64 ak w gz szv f.sizes/\pj w gr a f.funs
theorem pj.ext {gr:Nat} {a:x1} {e:List ch} (h:pj w gr a e) (f:Ext w w'):pj w' gr a e:=by
 obtain⟨L,h1,j,p⟩:=h;exact⟨L,h1.ext f,j,λi ay x hi q=>(p i ay x hi q).ext f⟩
theorem n4.ext {e:Nat} {f:bZ} (h:n4 w e f) (a:Ext w w'):n4 w' e f:=by
 obtain⟨szv,gz,j,gr,h1,p,q⟩:=h;exact⟨szv,gz,j,gr,h1.ext a,p.ext a,q.ext a⟩
def NO (w:x3) (pl:Λ) (v:x1) (w':x3):Prop:=Ext w w'/\ ∃n e:Int,(fh pl=ν->v= .tuple #[.pointer ν,Δ n,Δ e])/\ ∀f,fh pl=σ f-> ∃a,v= .tuple #[Γ a,Δ n,Δ e]/\n4 w' a f
theorem NP {w0:x3} {g A:Nat} {so6:Option aA} {t acc:Λ} {k R bad:Int} {szv p:x1} {Q:x1->x3->Prop} (de:ae (λr=>w0.heap.size<=r) w0 w) (bZ:aa w A dF [bR t,Δ k,szv,.slice ν 0 0]) (df:ap .i64 ak w gz szv acc)
  (h:bL w g B bC 100000 so6) (dg:∀s,so6=σ s->jU s/\s.toks.length<=100000/\(∀z∈acc,1<=z/\z<=ao)/\acc.length<=100001) (ff:w0.heap.size<=g) (fh:w0.heap.size<=A) (dh:aF .u8 w0 p pl) (fj:0<=R/\R<=4611686018427387904)
  (bj:∀v w' M bk,Ext w0 w'->so6.bind (cK (λ_ s=>cY acc s) R.toNat [])=bk.map (λs=>(M,s))->
   (∀s,bk=σ s->s.toks=[]/\¬0<=bad/\s.big=false->v= .tuple #[Γ A,Δ (pl.length:Int),Δ 0]/\n4 w' A ⟨t,k,acc,M⟩)->
   ((∀s,bk=σ s->¬(s.toks=[]/\¬0<=bad/\s.big=false))-> ∃n e:Int,v= .tuple #[.pointer ν,Δ n,Δ e])->Q v w'):
  ci (Δ 0) w λb0 E di=>
   cr (α:=x1->x3->Prop) (λ(dj:x1) (N:x3)=>
    Split dj (ei N λJ=>
   V x7 (bN (Γ A)) J λaH=>
   V x7 (u6 dF aH 3) J λaI=>
   V x7 (u5 dA aI) J λbl=>
   V x7 (bN (Γ A)) J λdk=>
   V x7 (u6 dF dk 2) J λdl=>
   V x7 (u5 an dl) J λdn=>
   ai x7 y4 [(Γ g),dn] J λdp al=>
    (Ext J al\/b4 x7 (u5 dA aI) bl al/\b4 x7 (u6 dF aH 3) aI al/\b4 x7 (bN (Γ A)) aH al/\True)/\
   av x7 (Y4 dA 1 #[(0,dp)]) al λdq S=>
    (Ext J S\/b4 x7 (u5 dA aI) bl S/\b4 x7 (u6 dF aH 3) aI S/\b4 x7 (bN (Γ A)) aH S/\True)/\
    av x7 (b9 #[dA,dA] dA #[bl,dq]) S λdr aZ=>
     V x7 (bN (Γ A)) aZ λds=>
     V x7 (u6 dF ds 3) aZ λdt=>
     av x7 (o5 dA dt dr) aZ λ(_:Unit) aK=>
     V x7 (aJ .add ak false true b0 (Δ 1)) aK λdu=>
   di du aK)
     (cr (α:=x3->Prop) (λ(P:x3)=>
   cr (α:=x3->Prop) (λ(G:x3)=>
    V x7 (bN (Γ g)) G λdv=>
    V x7 (u6 bB dv 3) G λdw=>
    V x7 (u5 ag dw) G λdx=>
    V x7 (aJ .neq ag false true dx (Δ 0)) G λdy=>
    Split dy (ei G λab=>
     V x7 (bN (Γ g)) ab λdz=>
     V x7 (u6 bB dz 4) ab λdC=>
     V x7 (u5 ag dC) ab λdD=>
     V x7 (bN (Γ g)) ab λdE=>
     V x7 (u6 bB dE 3) ab λdG=>
     V x7 (u5 ag dG) ab λdH=>
     Q (.tuple #[(.pointer ν),dD,dH]) ab)
     (V x7 (bN (Γ g)) G λdI=>
    V x7 (u6 bB dI 5) G λdJ=>
    V x7 (u5 ag dJ) G λdK=>
    V x7 (aJ .neq ag false true dK (Δ 0)) G λdL=>
    Split dL (ei G λac=>
     V x7 (bN (Γ g)) ac λdN=>
     V x7 (u6 bB dN 6) ac λdO=>
     V x7 (u5 ag dO) ac λdP=>
     V x7 (bN (Γ g)) ac λdQ=>
     V x7 (u6 bB dQ 5) ac λdR=>
     V x7 (u5 ag dR) ac λdS=>
     Q (.tuple #[(.pointer ν),dP,dS]) ac)
     (V x7 (V3 #[cP] ag #[p]) G λdT=>
    Q (.tuple #[(Γ A),dT,(Δ 0)]) G))) λb2=>
   cr (α:=x1->x3->Prop) (λ(dU:x1) (a2:x3)=>
    Split dU (ai x7 nl [(Γ g),(Δ 11),(Δ bad)] a2 λfk b3=>
     b2 b3)
     (b2 a2)) λb5=>
   V x7 (bN (Γ g)) P λdV=>
   V x7 (u6 bB dV 3) P λdW=>
   V x7 (u5 ag dW) P λdX=>
   V x7 (aJ .eql ag false true dX (Δ 0)) P λdY=>
   Split dY (V x7 (aJ .geq ag false true (Δ bad) (Δ 0)) P λdZ=>
   b5 dZ P)
    (b5 (.bool false) P)) λb6=>
  cr (α:=x1->x3->Prop) (λ(ea:x1) (W:x3)=>
   Split ea (V x7 (bN (Γ g)) W λeb=>
    V x7 (u6 bB eb 0) W λec=>
    V x7 (u5 fg ec) W λed=>
    V x7 (c8 fg ed (Δ 0)) W λee=>
    V x7 (u6 cn ee 1) W λeg=>
    V x7 (u5 ag eg) W λeh=>
    ai x7 nl [(Γ g),(Δ 4),eh] W λfm bm=>
    b6 bm)
    (b6 W)) λb7=>
  V x7 (bN (Γ g)) N λej=>
  V x7 (u6 bB ej 3) N λek=>
  V x7 (u5 ag ek) N λem=>
  V x7 (aJ .eql ag false true em (Δ 0)) N λen=>
  Split en (V x7 (bN (Γ g)) N λeo=>
  V x7 (u6 bB eo 0) N λep=>
  V x7 (u5 fg ep) N λer=>
  V x7 (V3 #[fg] ag #[er]) N λes=>
  V x7 (aJ .gtr ag false true es (Δ 0)) N λet=>
  b7 et N)
   (b7 (.bool false) N))) λb8=>
   V x7 (aJ .lss ak false false b0 (Δ R)) E λev=>
   Split ev (V x7 (bN (Γ g)) E λew=>
   V x7 (u6 bB ew 3) E λey=>
   V x7 (u5 ag ey) E λez=>
   V x7 (aJ .eql ag false true ez (Δ 0)) E λeA=>
   b8 eA E)
    (b8 (.bool false) E):=by
 have ca:A≠g:=λhe=>by
  obtain⟨am,ad,aj,bad,aq,big,aw,told,sv,C,_⟩:=h3 h;subst he;exact absurd (eu C bZ) Φ
 refine⟨λbn E=>∃i:Nat,bn=Δ (i:Int)/\i<=R.toNat/\ae (λr=>w0.heap.size<=r) w0 E/\ ∃O gr M so,∃H:af,aa E A dF [bR t,Δ k,szv,O]/\ap .i64 ak E gz szv acc/\pj E gr O M/\(∀r,leadsTo O r->w0.heap.size<=r/\¬H r)/\¬H A/\(∀r,leads szv r->¬H r)/\(∀r,H r->w0.heap.size<=r)/\bL E g E.heap.size H 100001 so/\ll (λ_ s=>cY acc s) R.toNat i so6 M so/\
   ∀s,so=σ s->jU s/\M.length+s.toks.length<=100000/\(∀z∈acc,1<=z/\z<=ao)/\acc.length<=100001,λbn _=>R.toNat-(b1 bn).toNat,
  ⟨0,rfl,X8 _,de,_,0,[],so6,bC,bZ,df,⟨[],bg.nil _ _ _ _ _,rfl,λi h x hi=>by simp at hi⟩,λr y=>(e7 y).elim,id,λr _ h=>h,λr h=>h.elim,h.base.up Ω,?_,λs I=>?_⟩,?_⟩
 .unfold ll;cases so6<;>rfl
 .obtain⟨eB,eD,a3,a4⟩:=dg s I;exact⟨eB,by simpa using eD,a3,a4⟩
 rintro _ E ⟨i,rfl,hi,a6,O,gr,M,so,H,cb,cd,ce,aL,bp,eE,cg,Z,bq,eF⟩;refine aT (λv N=>E=N/\((v= .bool true/\i<R.toNat/\ ∃s,so=σ s)\/(v= .bool false/\(so=ν\/i=R.toNat)))) ?_ ?_
 rotate_left
 .intro au br;rw[aQ,ah];refine⟨λch=>?_,λfo=>br _ _ ⟨rfl,.inr ⟨rfl,.inr Ω⟩⟩⟩;rw[lk Z];cases so with
  |none=>exact br _ _ ⟨rfl,.inr ⟨rfl,.inl rfl⟩⟩
  |some s=>exact br _ _ ⟨rfl,.inl ⟨rfl,Ω,s,rfl⟩⟩
 rintro _ _ ⟨rfl,⟨rfl,ch,s,rfl⟩|⟨rfl,eH⟩⟩
 .
  rw[bO];intro J ax _ _;obtain⟨cj,fp,ck,cl⟩:=eF s rfl;have aN:=cb.ext ax;obtain⟨eI,cm,aR,cp⟩:=(Z.ext ax).low.shrink;have bt:=cd.ext ax;have eJ:=ce.ext ax;rw[aO dF.p 3 aN rfl,aO dF.p 2 aN rfl];refine (NK cm bt ck cl (λr y=>by obtain⟨c,C⟩:=cp r y;exact C.lt) cj).mono ?_;rintro _ al _ ⟨bu,x,cq,az,rfl,ct,eK,eM,fq,cu,eN⟩;have cw:∃c,aa J g bB c:=by obtain⟨am,ad,aj,bad,aq,big,aw,told,sv,C,_⟩:=h3 cm;exact⟨_,C⟩
  have cz:∀r,(r=g\/eI r)->hh J r\/J.heap.size<=r:=λr y=>by
   rcases y with rfl|y
   .obtain⟨c,C⟩:=cw;exact .inl ⟨_,c,C,Φ,Φ⟩
   .obtain⟨c,C⟩:=cp r y;exact .inl ⟨_,c,C,Φ,Φ⟩
  have bw:=aN.U az λy=>y.elim (λhe=>ca he) λy=>bp (aR _ y);have st:∀ {w':x3},aa w' A dF [bR t,Δ k,szv,O]->b4 x7 (u5 dA (.pointer (σ ⟨A,0+3,ν⟩))) O w'/\b4 x7 (u6 dF (Γ A) 3) (.pointer (σ ⟨A,0+3,ν⟩)) w'/\b4 x7 (bN (Γ A)) (Γ A) w'/\True:=λC=>
   ⟨nE Ψ (C.cell (o:=0+3) rfl),k7 (by rw[aP dF.p rfl]),k7 (by rw[bW]),trivial⟩
  refine⟨.inr (st bw),?_⟩;refine h0 (f:=eT) (a:=bu) dA.u a1.i Ω rfl rfl λfs ft S fu X eO=>?_;refine⟨.inr (st (bw.ext X)),?_⟩;obtain⟨L,aC,bx,bz⟩:=id eJ;have eP:bg eT 4 a1 al gr O L:=aC.U az λr y I=>I.elim (λhe=>by
   obtain⟨c,C⟩:=cw;subst he;exact cQ aC C Φ y) λI=>(aL r y).2 (aR r I)
  have bA:=eP.ext X;refine ik (f:=eT) (a:=bu) dA.u a1.i rfl bA (by simpa using eO.sl) (ct.ext X).one Ω Ω λcA eQ aZ a7 eR cB=>?_;have bD:=bw.ext X;have cC:=bD.U cB λhe=>cQ bA bD Φ he;rw[bW,aP dF.p rfl];refine bo (g:=A) (o:=3) dA.i (eL a7.sl).1 (eL a7.sl).2 cC Ξ λaK cD fv bF=>?_;have bF:aa aK A dF [bR t,Δ k,szv,cA]:=bF;have fw:i<=4611686018427387904:=Ω
  rw[aM,wrap_i64 Ω Ω];have aD:ae (λr=>leadsTo O r\/r=A) S aK:=(cB.mono λr _ h=>.inl h).trans (cD.mono λr _ h=>.inr h);have cE:∀r,(leadsTo O r\/r=A)-> ∃e c,aa S r e c/\e≠ak/\e≠cc/\e≠cn/\e≠bB:=λr y=>by
   rcases y with y|rfl
   .obtain⟨rfl,c,C⟩:=ef bA y;exact⟨_,c,C,Φ,Φ,Φ,Φ⟩
   .exact⟨_,_,bD,Φ,Φ,Φ,Φ⟩
  have bG:∀r,(leadsTo O r\/r=A)->hh S r\/S.heap.size<=r:=λr y=>by
   obtain⟨e,c,C,bH,bI,_⟩:=cE r y;exact .inl ⟨e,c,C,bH,bI⟩
  have fx:=ax.size;have fy:=az.size;have fz:=X.size;have fA:=aD.size;have cF:∀r,leadsTo O r->r<J.heap.size:=λr y=>by obtain⟨ad,aj⟩:=aC.leads y;omega
  have aS:∀r,r<J.heap.size->¬H r->¬cq r:=λr y eS bJ=>(cu r bJ).elim (λh=>eS (aR r h)) λh=>Ω
  have eU:∀r,leads szv r->r<J.heap.size:=λr y=>by obtain⟨ad,aj⟩:=bU bt y;omega
  refine⟨⟨i+1,rfl,Ω,?_,cA,eQ,M++[x],_,cq,bF,eC ((eC bt az cz).ext X) aD bG,⟨L++[bu],a7.U cD λr y he=>?_,by rw[p8,p8,bx];rfl,λj cG eV aE aU=>?_⟩,λr y=>?_,aS A aN.lt bp,λr y=>aS r (eU r y) (eE r y),λr y=>?_,?_,bq.step ch rfl λq K=>eM q K,λs' Y=>?_⟩,by simp only[b1];omega⟩
  .refine (((a6.trans (ax.U _)).trans (az.mono λr _ h=>?_)).trans (X.U _)).trans (aD.mono λr _ h=>?_)
   .exact h.elim (λh=>Ω) λh=>cg r (aR r h)
   .exact h.elim (λh=>(aL r h).1) λh=>Ω
  .have he:r=A:=he;subst he;exact cQ a7 cC Φ y
  .by_cases eW:j<L.length
   .rw[Y8 eW] at aE;rw[Y8 Ω] at aU;exact (((bz j cG eV aE aU).dM az cz).ext X).dM aD bG
   .rw[X1 Ω] at aE;rw[X1 Ω] at aU;have eX:j-L.length=0:=by have:=(x4.1 aE).1;simp at this;omega
    have eY:j-M.length=0:=Ω
    rw[eX] at aE;rw[eY] at aU;cases aE;cases aU;exact (ct.ext X).dM aD bG
  .rcases eR r y with h|h
   .exact⟨(aL r h).1,aS r (cF r h) (aL r h).2⟩
   .exact⟨by have:=a6.size;omega,λbJ=>by have:=eN r bJ;omega⟩
  .rcases cu r y with h|h
   .exact cg r (aR r h)
   .have:=a6.size;omega
  .refine (eK.ext X).dM aD λr y=>.inl ?_;obtain⟨e,c,C,bH,bI,eZ,e0⟩:=cE r y;refine⟨e,c,C,bH,bI,eZ,e0,?_⟩;rcases y with y|rfl
   .exact aS r (cF r y) (aL r y).2
   .exact aS _ aN.lt bp
  .cases bK:cY acc s with
   |none=>rw[bK] at Y;cases Y
   |some q=>
    obtain⟨fB,cH⟩:=q;rw[bK] at Y;cases Y;obtain⟨fD,e1⟩:=NM bK;refine⟨e1 cj,?_,ck,cl⟩;rw[p8];simp only[U3];omega
 .
  rw[aW];have bM:so6.bind (cK (λ_ s=>cY acc s) R.toNat [])=so.map λs=>(M,s):=by
   unfold ll at bq;rw[bq];cases so with
   |none=>rfl
   |some s=>
    rcases eH with h|rfl
    .cases h
    .simp only[U7];rfl
  have row:∀ {w':x3},ae (λr=>r=g) E w'->pj w' gr O M/\aa w' A dF [bR t,Δ k,szv,O]/\ap .i64 ak w' gz szv acc:=λa8=>by
   obtain⟨am,ad,aj,bad,aq,big,aw,told,sv,C,_⟩:=h3 Z;have cI:∀r,r=g->hh E r\/E.heap.size<=r:=λr y=>by subst y;exact .inl ⟨_,_,C,Φ,Φ⟩
   obtain⟨L,aC,bx,bz⟩:=id ce;refine⟨⟨L,aC.U a8 λr y he=>?_,bx,λi h x hi e2=>(bz i h x hi e2).dM a8 cI⟩,cb.U a8 λhe=>ca he,eC cd a8 cI⟩;have he:r=g:=he;subst he;exact cQ aC C Φ y
  refine dm (λP=>ae (λr=>r=g) E P/\bL P g E.heap.size H 100001 (so.bind λs=>if s.toks=[] then σ s else ν)) ?_ ?_
  rotate_left
  .intro fE cJ;refine aT (λv W=>E=W/\ ∃b:Bool,v= .bool b/\(b=true-> ∃s,so=σ s/\s.toks≠[])/\(b=false-> ∀s,so=σ s->s.toks=[])) ?_ ?_
   .rintro _ _ ⟨rfl,b,rfl,bP,bQ⟩;cases b with
    |true=>
     obtain⟨s,rfl,ba⟩:=bP rfl;rw[bO];obtain⟨cL,cM,am,aV,gs,sv,L,cN,ad,aj,bT,aq,big,aw,told,cO,bb,bc,aG,bd,cR,cS,cT,be,cV,cW,bf,cX,cZ,c0⟩:=id Z;obtain⟨⟨bV,e3⟩,_⟩:=bd.g bb bc;obtain⟨x,fF,rfl⟩:∃x l,aV=x::l:=by
      cases aV with
      |nil=>exact absurd bf.symm (by simpa using ba)
      |cons x l=>exact⟨x,l,rfl⟩
     rw[aO bB.p 0 aG rfl];refine C9 bV λb o e4=>?_;rw[aP cn.p rfl,aB Ψ (e4 1 _ rfl)];refine (n3 Z Ω).mono ?_;rintro _ bm _ ⟨e5,e6⟩;refine cJ _ ⟨e5,?_⟩;show bL bm g _ H 100001 (if s.toks=[] then σ s else ν);rw[if_neg ba];exact e6
    |false=>
     rw[aW];refine cJ _ ⟨ae.refl _ _,?_⟩;cases so with
     |none=>exact Z
     |some s=>
      show bL _ g _ H 100001 (if s.toks=[] then σ s else ν);rw[if_pos (bQ rfl s rfl)];exact Z
   .intro fG c3;rw[lk Z];cases so with
    |none=>
     rw[R4,aW];exact c3 _ _ ⟨rfl,false,rfl,(λh=>by cases h),λ_ s I=>by cases I⟩
    |some s=>
     rw[R3,bO];obtain⟨cL,cM,am,aV,gs,sv,L,cN,ad,aj,bT,aq,big,aw,told,cO,bb,bc,aG,bd,cR,cS,cT,be,cV,cW,bf,cX,cZ,c0⟩:=id Z;obtain⟨⟨bV,e3⟩,_⟩:=bd.g bb bc;rw[aO bB.p 0 aG rfl,C8 bV,bS];have fH:aV.length=s.toks.length:=by rw[<-bf,u7]
     refine c3 _ _ ⟨rfl,_,rfl,λh=>⟨s,rfl,λaY=>?_⟩,λh s' Y=>?_⟩
     .have:=of_decide_eq_true h;have cG:s.toks.length=0:=by rw[aY];rfl
      omega
     .cases Y;have:=of_decide_eq_false h;exact Z0 Ω
  rintro P ⟨c4,bX⟩;refine dm (λG=>ae (λr=>r=g) E G/\bL G g E.heap.size H 100001 (so.bind λs=>if s.toks=[]/\¬0<=bad then σ s else ν)) ?_ ?_
  rotate_left
  .intro fI c5;refine aT (λv a2=>P=a2/\ ∃b:Bool,v= .bool b/\(b=true->(so.bind λs=>if s.toks=[]/\¬0<=bad then σ s else ν)=ν)/\(b=false->(so.bind λs=>if s.toks=[]/\¬0<=bad then σ s else ν)=so.bind λs=>if s.toks=[] then σ s else ν)) ?_ ?_
   .rintro _ _ ⟨rfl,b,rfl,bP,bQ⟩;cases b with
    |true=>
     rw[bO];refine (n3 bX Ω).mono ?_;rintro _ b3 _ ⟨e8,e9⟩;exact c5 _ ⟨c4.trans e8,by rw[bP rfl];exact e9⟩
    |false=>
     rw[aW];exact c5 _ ⟨c4,by rw[bQ rfl];exact bX⟩
   .intro fJ c6;rw[lk bX];cases K:(so.bind λs=>if s.toks=[] then σ s else ν) with
    |none=>
     rw[R4,aW];refine c6 _ _ ⟨rfl,false,rfl,(λh=>by cases h),λ_=>?_⟩;cases so with
     |none=>rfl
     |some s=>
      have K:(if s.toks=[] then σ s else ν)=ν:=K;show (if s.toks=[]/\¬0<=bad then σ s else ν)=(if s.toks=[] then σ s else ν);rw[K];split at K
      .cases K
      .rename_i ba;rw[if_neg (λh=>ba h.1)]
    |some s=>
     rw[R3,bO,cU];refine c6 _ _ ⟨rfl,_,rfl,λh=>?_,λh=>?_⟩
     .have aY:=of_decide_eq_true h;cases so with
      |none=>rfl
      |some s=>exact if_neg λh=>h.2 aY
     .have aY:=of_decide_eq_false h;cases so with
      |none=>rfl
      |some s=>
       show (if s.toks=[]/\¬0<=bad then σ s else ν)=(if s.toks=[] then σ s else ν);by_cases I:s.toks=[]
       .rw[if_pos I,if_pos ⟨I,aY⟩]
       .rw[if_neg I,if_neg λh=>I h.1]
  rintro G ⟨c7,bh⟩;obtain⟨fa,fb,fc⟩:=row c7;have fd:ae (λr=>w0.heap.size<=r) w0 G:=a6.trans (c7.mono λr _ h=>by have h:r=g:=h;omega);have bi:Ext w0 G:=fd.ext λr y he=>Ω
  rw[qP bh];cases K:(so.bind λs=>if s.toks=[]/\¬0<=bad then σ s else ν) with
  |none=>
   rw[R4,V0,bO];intro ab c9 _ _;obtain⟨am,ad,aj,bT,aq,big,aw,told,sv,C,_⟩:=h3 (bh.ext c9);rw[aO bB.p 4 C rfl,aO bB.p 3 C rfl];refine bj _ _ M so (bi.trans c9) bM (λs I ay=>?_) λ_=>⟨_,_,rfl⟩;subst I;have K:(if s.toks=[]/\¬0<=bad then σ s else ν)=ν:=K;rw[if_pos ⟨ay.1,ay.2.1⟩] at K;cases K
  |some s=>
   rw[K] at bh;rw[R3,Y5,aW];obtain⟨s',rfl,Y⟩:∃s',so=σ s'/\(if s'.toks=[]/\¬0<=bad then σ s' else ν)=σ s:=by
    cases so with
    |none=>cases K
    |some s'=>exact⟨s',rfl,K⟩
   split at Y
   .rename_i da;cases Y;obtain⟨cL,cM,am,aV,gs,sv,L,cN,ad,aj,bT,aq,big,aw,told,cO,bb,bc,aG,bd,cR,cS,cT,be,cV,cW,bf,cX,cZ,c0⟩:=id bh;rw[aO bB.p 5 aG rfl,bE,ah];refine⟨λbY=>?_,λbY=>?_⟩
    .intro ac db _ _;have dc:=aG.ext db;rw[aO bB.p 6 dc rfl,aO bB.p 5 dc rfl];refine bj _ _ M _ (bi.trans db) bM (λcH dd ay=>?_) λ_=>⟨_,_,rfl⟩;cases dd;rw[be.1 bY] at ay;cases ay.2.2
    .rw[aX cP.u (dh.ext bi)];refine bj _ _ M _ bi bM (λcH dd ay=>⟨rfl,szv,gz,O,gr,fb,fc,fa⟩) λfe=>?_;refine absurd ⟨da.1,da.2,?_⟩ (fe s rfl);cases C:s.big with
     |false=>rfl
     |true=>exact absurd (be.2 C) bY
   .cases Y
def Zero (so:Option aA):Prop:=∀s,so=σ s->s.told=0/\s.toks.length<=100000
theorem Zero.big {so:Option aA} (h:Zero so) (b:Bool):Zero (so.map (a6 b)):=λs I=>by
 cases so with
 |none=>cases I
 |some s0=>cases I;exact h s0 rfl
theorem zero_num {lo hi:Int} {so:Option aA} (h:Zero so):Zero ((bb lo hi so).map (·.2)):=λs I=>by
 cases so with
 |none=>cases I
 |some s0=>
  have I:U6 (λx=>x.2) (bc lo hi s0)=σ s:=I;cases a:bc lo hi s0 with
  |none=>rw[a] at I;cases I
  |some q=>
   obtain⟨n,f⟩:=q;rw[a] at I;cases I;have e:=de a;have:=e.1;obtain⟨h1,j⟩:=h s0 rfl;exact⟨e.eqs.1.trans h1,by show f.toks.length<=100000;omega⟩
theorem NQ {so:Option aA} (h:Zero so):Zero ((jp so).map (·.2)):=λs I=>by
 cases so with
 |none=>cases I
 |some s0=>
  have I:U6 (λx=>x.2) (dK s0)=σ s:=I;cases a:dK s0 with
  |none=>rw[a] at I;cases I
  |some q=>
   obtain⟨n,e⟩:=q;rw[a] at I;cases I;obtain⟨J,w2⟩:=qe a;obtain⟨h1,f⟩:=h s0 rfl;have:s0.toks.length=e.toks.length+1:=by rw[J];rfl
   exact⟨by show e.told=0;rw[w2];exact h1,by show e.toks.length<=100000;omega⟩
theorem NR {so:Option aA} {f:bZ} (h:gY ⟨(lex pl).1,0,false,[]⟩=so.map λs=>(f,s)) (a:¬65536<pl.length):fh pl=so.bind λs=>if s.toks=[]/\(lex pl).2=true/\s.big=false then σ f else ν:=by
 unfold fh;rw[if_neg a,h];cases so<;>rfl
theorem NS (a:pl.length<=60000):(∀t∈(lex pl).1,Bytes t/\t.length<=65536)/\(lex pl).1.length<=60000:=by
 refine⟨λt e=>?_,X0 (oL pl.length pl (o4 _)) a⟩;obtain⟨_,f,j⟩:=sh pl.length pl (o4 _) t e;refine⟨λb h=>?_,Ω⟩;have:=of_decide_eq_true (f b h);omega
theorem Dj {p:x1} (am:aF .u8 w p pl) (cw:Bytes pl) (cz:pl.length<=60000):ai x7 Gc [p] w (NO w pl):=by
 obtain⟨cA,dQ⟩:=NS cz;refine aw func35 ?_;rw[aX cP.u am,bS,ah];refine⟨λh=>Ω,λ_=>?_⟩;refine (NC am cw Ω).mono ?_;rintro _ J _ ⟨aH,aq,bf,bad,rfl,bh,bi,cB,dR,bj⟩;rw[bu,bw,aX cP.u (am.ext aH),dq (cs:=#[aq,Δ (pl.length:Int),Δ 4,Δ 0,Δ 0,Δ 0,Δ 0,Δ 0,.slice ν 0 0]) (by obtain⟨_,_,_,_,_,rfl,_⟩:=bh;kernel_rfl)];refine bn λg w2 dS av W=>?_;have W:aa w2 g bB (gx aq (pl.length:Int) 4 0 0 0 0 0 (.slice ν 0 0)):=W;have dT:=aH.size;have dU:=av.size;have dV:=W.lt;refine dm (λC=>Ext w C/\ae (λr=>r=g) w2 C/\ ∃X Y:Int,Y≠0/\aa C g bB (gx aq X Y 0 0 0 0 0 (.slice ν 0 0))) ?_ ?_
 rotate_left
 .intro au S;have bk:=aH.trans av;rw[cU,ah];refine⟨λ_=>?_,λ_=>S _ ⟨bk,ae.refl _ _,_,_,Ω,W⟩⟩;rw[bW,aP bB.p rfl];refine bo (g:=g) (o:=1) ag.i rfl rfl W (by simp[gx]) λdW cC dX cD=>?_;rw[bW,aP bB.p rfl];refine bo (g:=g) (o:=2) ag.i rfl rfl cD (by simp[gx]) λdY cE dZ cF=>?_;have E:=cC.trans cE;exact S _ ⟨bk.then E λr j he=>by have he:r=g:=he;omega,E,bad,11,Ω,cF⟩
 rintro C ⟨bl,aI,X,Y,cG,bm⟩;have z3:=aI.size;have cH:bL C g C.heap.size bC 100000 (σ ⟨(lex pl).1,0,false,[]⟩):=by
  refine⟨o4 _,C,aq,bf,0,_,[],[],X,Y,0,0,0,0,0,rfl,ae.refl _ _,⟨_,bm⟩,bm,⟨⟨?_,λr j=>?_⟩,bg.nil _ _ _ _ _,rfl,λi h x hi=>by simp at hi⟩,λr j=>e7 j,rfl,cG,Ξ,λ_=>rfl,trivial,bi,cA,rfl,?_⟩
  .refine (bh.U (av.U λ_=>False) λ_ _ h=>h).U aI λr j he=>?_;have he:r=g:=he;obtain⟨c,O⟩:=bj r j;have:=O.lt;omega
  .obtain⟨c,O⟩:=bj r j;exact⟨c,(O.ext av).U aI λhe=>by have he:r=g:=he;have:=O.lt;omega⟩
  .have:bf.length=(lex pl).1.length:=by rw[<-bi,u7]
   simp only[List.length_nil];omega
 have ea:∀ {R:x3} {cI N:Nat} {H:af} {so:Option aA},bL R g cI H N so->True:=λ_=>trivial;rw[dq (cs:=#[bR [],Δ 0,.slice ν 0 0,.slice ν 0 0]) Ψ];refine bn λA cJ eb aJ ax=>?_;have ax:aa cJ A dF [bR [],Δ 0,.slice ν 0 0,.slice ν 0 0]:=ax;have ec:C.heap.size<=A:=Ω
 have ed:=ax.lt;have cL:A≠g:=Ω
 have K:∀ {R Z:x3} {c:List x1},aa R A dF c->ae (λr=>r=g) R Z->aa Z A dF c:=λO E=>O.U E λhe=>cL he;refine (Da (cH.ext aJ)).mono ?_;rintro _ cM _ ⟨⟨aK,cN⟩,t,bp,rfl,ee,ef,cO⟩;refine bt cn.i λbr eg eh cQ cR=>?_;refine bT (vs:=[bR t,Δ bp]) cn.i rfl rfl (by intro v bx;simp at bx;rcases bx with rfl|rfl<;>rfl) cR λcS cT ei bz=>?_;have aB:Ext cM cS:=cQ.put cT Ω;have cV:=(K ax aK).ext aB;rw[az cn.p 0 bz rfl,bW,aP dF.p rfl];refine bo (g:=A) (o:=0) c4.i rfl rfl cV Ξ λaL aN ek aR=>?_;have aR:aa aL A dF [bR t,Δ 0,.slice ν 0 0,.slice ν 0 0]:=aR;have cW:=(cN.ext aB).new aN λr j=>by have j:r=A:=j;omega
 have z4:=aJ.size;have z5:=aK.size;have em:=aB.size;have bA:aa aL br cn [bR t,Δ bp]:=bz.U aN λhe=>by have he:br=A:=he;omega
 rw[az cn.p 0 bA rfl,nF c4.u,bS,az cn.p 1 bA rfl];have cX:ae (λr=>w.heap.size<=r) w aL:=((((bl.U _).trans (aJ.U _)).trans (aK.mono λr _ h=>by have h:r=g:=h;omega)).trans (aB.U _)).trans (aN.mono λr _ h=>by have h:r=A:=h;omega);have up:∀ {R Z:x3},ae (λr=>w.heap.size<=r) w R->ae (λr=>r=g) R Z->ae (λr=>w.heap.size<=r) w Z:=λh k=>h.trans (k.mono λr _ h=>by have h:r=g:=h;omega);refine (mJ cW).mono ?_;rintro _ en _ ⟨bD,ab⟩;have cY:=up cX bD;have cZ:=K aR bD;generalize aS:(((jp (σ ⟨(lex pl).1,0,false,[]⟩)).map (·.2)).map (a6 (decide ((64:Int)<(t.length:Int)))))=aU at ab;refine (kz ab).mono ?_;rintro _ eo _ ⟨⟨bE,c0⟩,n,ep,rfl,bF,c3⟩;rw[bu,bw,bS];refine (mJ c0).mono ?_;rintro _ er _ ⟨bG,bH⟩;have c5:=up (up cY bE) bG;have c6:=K (K cZ bE) bG;generalize bI:((bb 1 4611686018427387904 aU).map (·.2)).map (a6 (decide (64<n)))=aV at bH;refine (kz bH).mono ?_;rintro _ es _ ⟨⟨bJ,bK⟩,most,et,rfl,hm,c7⟩;rw[bu,bw];generalize bM:(bb 1 4611686018427387904 aV).map (·.2)=aY at bK;refine (kz bK).mono ?_;rintro _ eu _ ⟨⟨bN,c8⟩,aZ,ev,rfl,bP,c9⟩;rw[bu,bw,bS];refine (mJ c8).mono ?_;rintro _ ew _ ⟨bQ,bU⟩;generalize bV:((bb 0 4611686018427387904 aY).map (·.2)).map (a6 (decide (256<aZ)))=bX at bU;refine (kz bU).mono ?_;rintro _ ey _ ⟨⟨bY,da⟩,k,ez,rfl,hk,eA⟩;rw[bu,bw,bS];refine (mJ da).mono ?_;rintro _ eB _ ⟨bZ,b0⟩;generalize b2:((bb 1 4611686018427387904 bX).map (·.2)).map (a6 (decide (2147483648<k)))=ac at b0;have db:=up (up (up (up (up c5 bJ) bN) bQ) bY) bZ;have dc:=K (K (K (K (K c6 bJ) bN) bQ) bY) bZ;rw[bW,aP dF.p rfl];refine bo (g:=A) (o:=1) ak.i rfl rfl dc Ξ λb3 b4 eD a1=>?_;have a1:aa b3 A dF [bR t,Δ k,.slice ν 0 0,.slice ν 0 0]:=a1;have dd:=b0.new b4 λr j=>by have j:r=A:=j;omega
 have b5:ae (λr=>w.heap.size<=r) w b3:=db.trans (b4.mono λr _ h=>by have h:r=A:=h;omega);have eE:0<=n/\n<=4611686018427387904:=by
  cases B:bb 1 4611686018427387904 aU with
  |none=>have:=c3 B;omega
  |some q=>have ab:=bF q B;have:=mD (n:=q.1) (s':=q.2) B;omega
 have eF:0<=most/\most<=4611686018427387904:=by
  cases B:bb 1 4611686018427387904 aV with
  |none=>have:=c7 B;omega
  |some q=>have ab:=hm q B;have:=mD (n:=q.1) (s':=q.2) B;omega
 have df:0<=aZ/\aZ<=4611686018427387904:=by
  cases B:bb 0 4611686018427387904 aY with
  |none=>have:=c9 B;omega
  |some q=>have ab:=bP q B;have:=mD (n:=q.1) (s':=q.2) B;omega
 have dg:Zero (σ (⟨(lex pl).1,0,false,[]⟩:aA)):=λs I=>by cases I;exact⟨rfl,by simp only;omega⟩
 have dh:Zero aU:=by rw[<-aS];exact (NQ dg).big _
 have di:Zero aV:=by rw[<-bI];exact (zero_num dh).big _
 have dj:Zero aY:=by rw[<-bM];exact zero_num di
 have dk:Zero bX:=by rw[<-bV];exact (zero_num dj).big _
 have b6:Zero ac:=by rw[<-b2];exact (zero_num dk).big _
 have eH:=b5.size;refine⟨λa2 P=>∃i:Nat,a2=Δ (i:Int)/\i<=n.toNat/\ae (λr=>w.heap.size<=r) w P/\ ∃szv gz acc so,aa P A dF [bR t,Δ k,szv,.slice ν 0 0]/\ap .i64 ak P gz szv acc/\(∀r,leads szv r->C.heap.size<=r)/\bL P g C.heap.size bC 100000 so/\ll (e5 most) n.toNat i ac acc so/\ ∀s,so=σ s->s.told=0/\acc.length+s.toks.length<=100000/\ ∀z∈acc,1<=z/\z<=ao,λa2 _=>n.toNat-(b1 a2).toNat,
  ⟨0,rfl,X8 _,b5,_,0,[],ac,a1,ap.nil _ _ _ _,(λr j=>by obtain⟨a,aC,c,X,Y⟩:=j;cases X),dd,?_,λs I=>⟨(b6 s I).1,by simpa using (b6 s I).2,λz dl=>by cases dl⟩⟩,?_⟩
 .unfold ll;cases ac<;>rfl
 rintro _ P ⟨i,rfl,hi,a7,szv,gz,acc,so,b7,b8,b9,ad,a8,ca⟩;refine aT (λv dn=>P=dn/\((v= .bool true/\i<n.toNat/\ ∃s,so=σ s)\/(v= .bool false/\(so=ν\/i=n.toNat)))) ?_ ?_
 rotate_left
 .intro au S;rw[aQ,ah];refine⟨λcb=>?_,λeI=>S _ _ ⟨rfl,.inr ⟨rfl,.inr Ω⟩⟩⟩;rw[lk ad];cases so with
  |none=>exact S _ _ ⟨rfl,.inr ⟨rfl,.inl rfl⟩⟩
  |some s=>exact S _ _ ⟨rfl,.inl ⟨rfl,Ω,s,rfl⟩⟩
 rintro _ _ ⟨rfl,⟨rfl,cb,s,rfl⟩|⟨rfl,dp⟩⟩
 .rw[bO];obtain⟨dr,eJ,ds⟩:=ca s rfl;refine (kz ad).mono ?_;rintro _ eK _ ⟨⟨dt,du⟩,z,eL,rfl,ba,eM⟩;rw[bu,bw,bS];refine (mJ du).mono ?_;rintro _ eN _ ⟨dv,dw⟩;have aD:=dt.trans dv;have cc:=K b7 aD;have dx:∀r,r=g->hh P r\/P.heap.size<=r:=λr j=>(kA ad r j).imp (λ⟨e,c,O,dy,dz,_⟩=>⟨e,c,O,dy,dz⟩) id;have ce:=eC b8 aD dx;rw[aO dF.p 2 cc rfl];refine ej an.u ak.i rfl λa22 eO dA eP V dC=>?_;refine gP an.u ak.i rfl (ce.ext V) dC.ls Θ Θ λcg dD eQ aE dE ch=>?_;have ci:=cc.ext V;have cj:=ci.U ch λhe=>cd (ce.ext V) ci Φ he rfl;rw[bW,aP dF.p rfl];refine bo (g:=A) (o:=2) an.i aE.ls.cells.1 aE.ls.cells.2 cj Ξ λck cl eR bd=>?_;have bd:aa ck A dF [bR t,Δ k,cg,.slice ν 0 0]:=bd;rw[aM,wrap_i64 Ω Ω];have cm:ae (λr=>leads szv r\/r=A) dA ck:=(ch.mono λr _ h=>.inl h).trans (cl.mono λr _ h=>.inr h);have cp:∀r,(leads szv r\/r=A)->C.heap.size<=r:=λr j=>j.elim (b9 r) λj=>Ω
  have eS:w.heap.size<=C.heap.size:=bl.size;have eU:=aD.size;have z22:=V.size;have eV:=a7.size;have eW:=ad.lt;refine⟨⟨i+1,rfl,Ω,((up a7 aD).trans (V.U _)).trans (cm.mono λr _ h=>by have:=cp r h;omega),cg,dD,acc++[z],((bb 1 most (σ s)).map (·.2)).map (a6 (decide (32<z))),bd,bq aE cl λr j he=>?_,λr j=>?_,(dw.ext V).new cm cp,?_,λs' L=>?_⟩,by simp only[b1];omega⟩
  .have he:r=A:=he;subst he;exact cd aE cj Φ j rfl
  .rcases dE r j with h|h
   .exact b9 r h
   .omega
  .refine a8.step cb ?_ λq B=>?_
   .show (U6 _ (bc 1 most s)).map _=_;unfold e5;cases B:bc 1 most s with
    |none=>rfl
    |some q=>
     have:=ba q B;obtain⟨cq,aG⟩:=q;subst this;rfl
   .unfold e5 at B;cases M:bc 1 most s with
    |none=>rw[M] at B;cases B
    |some aj=>
     rw[M] at B;have:=ba aj M;obtain⟨cq,aG⟩:=aj;cases B;exact this
  .cases M:bc 1 most s with
   |none=>
    have L:(U6 (λx=>x.2) (bc 1 most s)).map (a6 (decide (32<z)))=σ s':=L;rw[M] at L;cases L
   |some aj=>
    have L:(U6 (λx=>x.2) (bc 1 most s)).map (a6 (decide (32<z)))=σ s':=L;rw[M] at L;have dG:=ba aj M;obtain⟨cq,aG⟩:=aj;cases L;have cr:=de M;have iZ:=(hX M).1;have eX:=cr.1;refine⟨by show aG.told=0;rw[cr.eqs.1];exact dr,?_,λy al=>?_⟩
    .rw[p8];show acc.length+1+aG.toks.length<=100000;omega
    .rcases l9.1 al with al|al
     .exact ds y al
     .rw[n9.1 al,dG];exact⟨iZ.1,by unfold ao;have:=iZ.2;simp only at*;omega⟩
 .rw[aW];have dH:ac.bind (cK (e5 most) n.toNat [])=so.map λs=>(acc,s):=by
   unfold ll at a8;rw[a8];cases so with
   |none=>rfl
   |some s=>
    rcases dp with h|rfl
    .cases h
    .simp only[U7];rfl
  refine NP a7 b7 b8 ad (λs I=>?_) Ω Ω am df λv w' dI dJ be dK dL ct=>?_
  .obtain⟨dM,eY,a3⟩:=ca s I;exact⟨λ_=>by rw[dM];omega,Ω,a3,Ω⟩
  .have dN:(decide ((64:Int)<(t.length:Int)))=decide (64<t.length):=by rw[U1,decide_eq_true_eq,decide_eq_true_eq];omega
   rw[dN] at aS;have dO:=NN (s0:=⟨(lex pl).1,0,false,[]⟩) aS.symm (λq B=>cO q B) bI.symm bF bM.symm hm bV.symm bP b2.symm hk dH dK;have Q:=NR dO Ω;have cu:¬0<=bad↔(lex pl).2=true:=by
    rw[cB];cases (lex pl).2<;>simp
   cases dJ with
   |none=>
    obtain⟨aC,e,rfl⟩:=ct λs I=>by cases I
    exact⟨be,aC,e,λ_=>rfl,λf G=>by rw[Q] at G;cases G⟩
   |some s=>
    have Q:fh pl=if s.toks=[]/\(lex pl).2=true/\s.big=false then σ ⟨t,k,acc,dI⟩ else ν:=Q;by_cases E:s.toks=[]/\(lex pl).2=true/\s.big=false
    .rw[if_pos E] at Q;obtain⟨rfl,dP⟩:=dL s rfl ⟨E.1,cu.2 E.2.1,E.2.2⟩;exact⟨be,_,_,(λG=>by rw[Q] at G;cases G),λf G=>⟨A,rfl,by rw[Q] at G;cases G;exact dP⟩⟩
    .rw[if_neg E] at Q;obtain⟨aC,e,rfl⟩:=ct λs' L ay=>by
      cases L;exact E ⟨ay.1,cu.1 ay.2.1,ay.2.2⟩
     exact⟨be,aC,e,λ_=>rfl,λf G=>by rw[Q] at G;cases G⟩
theorem Dk {a b:Int}:ai x7 Gx [Δ a,Δ b] w λv w'=>v=Δ (min a b)/\Ext w w':=by
 refine aw func61 ?_;rw[aQ,ah];exact⟨λh=>⟨by congr 1;omega,Ext.refl _⟩,λh=>⟨by congr 1;omega,Ext.refl _⟩⟩
theorem NT {s:iY} {x:ch} {aL:x1} {t:Λ} {k:Int} (h:gQ w s x) (O:(x.lines.map (·.1)).Nodup) (P:aF .i64 w aL t):ai x7 Ih [.agg (eT s).toArray,aL,Δ k] w λv w'=>v=Δ (jM x k t)/\Ext w w':=by
 obtain⟨⟨g1,Q⟩,⟨ap,R⟩,S,aq,L,f,U,E⟩:=id h;refine aw func219 ?_;refine bn λV J av z a=>?_;have a:aa J V a1 (eT s):=by
  obtain⟨_,_,_,W⟩:=du Q.ls;obtain⟨_,_,_,X⟩:=du R.ls;obtain⟨_,_,_,_,_,Y,_⟩:=f.sl;simp only[eT,W,X,Y] at a ⊢;exact a
 have Z:=f.ext z;have ab:L.length=x.lines.length:=by rw[<-E,u7]
 rw[az a1.p 2 a rfl,az a1.p 3 a rfl,eA eb.u Z,S];refine bY.range L.length (λi j w2=>Ext J w2/\ ∃c:Int,j=Δ c/\min c k=ld x k i t) f.le ⟨Ext.refl _,x.other,rfl,(B8 x k t).symm⟩ ?_ ?_
 .rintro i _ w2 ac hi ⟨e,c,rfl,q⟩ ad;obtain⟨y,A⟩:=aE (l:=L) hi;obtain⟨gy,G⟩:=U y (x5 A);have B:=z.trans e;have ae:x.lines[i]? =σ (y.t,y.c):=by rw[<-E,x8,A];rfl
  have H:=Ca (k:=k) O ae t;refine bH Ω ?_;refine aT (λj I=>Ext J I/\ ∃c:Int,j=Δ c/\min c k=ld x k (i+1) t) ?_ ?_
  .rintro j I af;rw[aM];exact ad _ _ af
  intro au K;have M:=f.ext B;rw[db rfl eb.u cc.i M hi,bx cc.p cc.i rfl (M.range A)];refine bt cc.i λam ax ay ag aj=>?_;refine bT (vs:=n2 y) cc.i rfl rfl (wI G) aj λak al aA N=>?_;have r:Ext w2 ak:=ag.put al Ω;rw[az cc.p 0 N rfl];refine (wH ((G.ls.ext B).ext r) ((P.ext B).ext r)).mono ?_;rintro _ aB _ ⟨rfl,C⟩;rw[ah];refine⟨λhe=>?_,λan=>?_⟩
  .rw[az cc.p 1 (N.ext C) rfl];refine K _ _ ⟨(e.trans r).trans C,y.c,rfl,?_⟩;rw[H,if_pos he.symm]
  .refine K _ _ ⟨(e.trans r).trans C,c,rfl,?_⟩;rw[H,if_neg λhe=>an he.symm,q]
 .rintro _ w2 ac ⟨e,c,rfl,q⟩;rw[ab,B9] at q;refine ca Ω ?_;refine Dk.mono ?_;rintro _ aC _ ⟨rfl,ao⟩;exact⟨by rw[q],(z.trans e).trans ao⟩
theorem NU {L:x1} (h:aF .i64 w L l) (N:l.Nodup) (aj:l.length<=64):ai x7 Ig [L] w λv w'=>Ext w w'/\ ∃g,ap .i64 ag w' g v (bk l)/\ ∀r,leads v r->w.heap.size<=r:=by
 refine aw func218 ?_;have O:∀i,i<=64->(((V6 i).map λ(v:Nat)=>(v:Int)).filter λv=>decide (v∈l)).length<=i:=λi _=>by
  have:=List.length_filter_le (λv=>decide (v∈l)) ((V6 i).map λ(v:Nat)=>(v:Int));simp at this;omega
 refine bY.range 64 (λi e J=>Ext w J/\ ∃g,ap .i64 ag J g e (((V6 i).map λ(v:Nat)=>(v:Int)).filter λv=>decide (v∈l))/\ ∀r,leads e r->w.heap.size<=r) Ω ⟨Ext.refl _,0,ap.nil _ _ _ _,λr y=>by obtain⟨a,n,c,P,am⟩:=y;cases P⟩ ?_ ?_
 .rintro i e J k hi ⟨z,g,hm,C⟩ hk;refine bH Ω ?_;rw[aX an.u (h.ext z)];have Q:=O i Ω;generalize R:(((V6 i).map λ(v:Nat)=>(v:Int)).filter λv=>decide (v∈l))=A at hm Q;refine bY.range l.length (λj e w2=>Ext w w2/\ ∃g,ap .i64 ag w2 g e (A++(if (i:Int)∈l.take j then[(i:Int)] else[]))/\ ∀r,leads e r->w.heap.size<=r) h.le ⟨z,g,by simpa using hm,C⟩ ?_ ?_
  .rintro j S w2 U V ⟨q,E,f,s⟩ W;obtain⟨x,G⟩:=aE (l:=l) V;refine bH Ω ?_;refine aT (λe B=>Ext w B/\ ∃g,ap .i64 ag B g e (A++(if (i:Int)∈l.take (j+1) then[(i:Int)] else[]))/\ ∀r,leads e r->w.heap.size<=r) ?_ ?_
   .rintro ao B X;rw[aM];exact W _ _ X
   intro au M;have H:(i:Int)∈l.take (j+1)↔(i:Int)∈l.take j\/(i:Int)=x:=by
    rw[u9,G,o8,l9,n9]
   rw[be an.u ak.i Ψ (h.ext q) G,bi,ah];refine⟨λhe=>?_,λY=>?_⟩
   .have Z:(i:Int)∉l.take j:=λhm=>by
     obtain⟨p,I⟩:=X9.1 hm;have aa:p<j:=by have:=(x4.1 I).1;rw[j5] at this;omega
     rw[X4 aa,<-he] at I;have:=kt N I G;omega
    rw[if_neg Z,W7] at f;refine ej (k:=.i64) al.u ag.i rfl λa3 aq B av K ab=>?_;refine gP al.u ag.i rfl (f.ext K) ab.ls Θ Θ λax ac az ad ae af=>?_;have aA:=q.size;have z3:=K.size;refine M _ _ ⟨(q.trans K).then af λr y he=>by have:=s r he;omega,ac,?_,λr y=>(ae r y).elim (s r) λh=>Ω⟩;rw[if_pos (H.2 (.inr he.symm))];exact ad
   .refine M _ _ ⟨q,E,?_,s⟩;have:((i:Int)∈l.take (j+1))=((i:Int)∈l.take j):=propext ⟨λay=>(H.1 ay).resolve_right λhe=>Y he.symm,λay=>H.2 (.inl ay)⟩;simp only[this];exact f
  .rintro S w2 U ⟨q,E,f,s⟩;rw[o7] at f;refine ca Ω ?_;rw[aM];refine hk _ _ ⟨q,E,?_,s⟩;rw[List.range_succ,j6,List.filter_append,R];by_cases hm:(i:Int)∈l
   .rw[if_pos hm] at f;simpa[hm] using f
   .rw[if_neg hm] at f;simpa[hm] using f
 .rintro e J k ⟨z,g,hm,C⟩;rw[aQ,ah];exact⟨λh=>Ω,λ_=>⟨z,g,hm,C⟩⟩
structure eD where
 aD:x1
 szv:x1
 aY:x1
 sc:Λ
 cs:Λ
def cR (h:eD):List x1:=[h.aD,h.szv,h.aY]
def pk (h:eD) (r:Nat):Prop:=leads h.aY r\/leads h.aD r\/leads h.szv r
def fK (w:x3) (sizes:Λ) (h:eD):Prop:=(∃g,ap .i64 ag w g h.aD h.sc)/\(∃g,ap .i64 ag w g h.szv (bP sizes h.sc))/\ ∃g,ap .i64 ak w g h.aY h.cs
theorem fK.ext {h:eD} (ay:fK w sizes h) (a:Ext w w'):fK w' sizes h:=by
 obtain⟨⟨g1,h1⟩,⟨e,f⟩,j,p⟩:=ay;exact⟨⟨g1,h1.ext a⟩,⟨e,f.ext a⟩,j,p.ext a⟩
theorem fK.one {h:eD} (ay:fK w sizes h):∀u∈cR h,u.oneCell'=true:=by
 obtain⟨⟨g1,h1⟩,⟨f,a⟩,j,e⟩:=ay;intro u hu;simp[cR] at hu;rcases hu with rfl|rfl|rfl
 .exact h1.ls.cells.2
 .exact a.ls.cells.2
 .exact e.ls.cells.2
theorem Dl {f:bZ} {x:ch} {ac:iY} (h:gQ w ac x) (aG:e6 N f) (bL:x∈f.funs) (cA:ap .i64 ak w gz sv f.sizes):
  ai x7 HP [.agg (eT ac).toArray,sv,Δ f.k] w λv w'=>Ext w w'/\ ∃c:eD,v= .agg (cR c).toArray/\c.sc=bk x.scope/\c.cs=(hY f.sizes f.k x).2/\fK w' f.sizes c/\ ∀r,pk c r->w.heap.size<=r:=by
 obtain⟨ad,cB,dR⟩:=aG.funs x bL;have bM:=sW ad aG.sizes.2.1;have bN:=sV bM ad.scope.1;have cC:(bk x.scope).length<=6:=by rw[bN.length_eq];exact cB
 have cD:=pb aG bL;have bO:=BY x.scope;obtain⟨⟨g1,aH⟩,⟨dS,cE⟩,dT,dU,cF⟩:=id h;refine aw func173 ?_;refine bn λbc J dV bQ af=>?_;have af:aa J bc a1 (eT ac):=by
  obtain⟨L,cG,_⟩:=cF;obtain⟨_,_,_,E⟩:=du aH.ls;obtain⟨_,_,_,K⟩:=du cE.ls;obtain⟨_,_,_,_,_,cH,_⟩:=cG.sl;simp only[eT,E,K,cH] at af ⊢;exact af
 refine bt aU.i λbR w2 dW bd bf=>?_;have bg:=bQ.trans bd;rw[az a1.p 0 (af.ext bd) rfl];refine (NU (aH.ls.ext bg) ad.scope.1 Ω).mono ?_;rintro aD bS _ ⟨aI,gr,bh,cI⟩;rw[dq (cs:=#[aD,.slice ν 0 0,.slice ν 0 0]) (by obtain⟨_,_,_,rfl⟩:=du bh.ls;kernel_rfl)];refine bt aU.i λB dX cJ cK cL=>?_;refine bT (vs:=[aD,.slice ν 0 0,.slice ν 0 0]) aU.i rfl rfl (by intro u hu;simp at hu;rcases hu with rfl|rfl;exact bh.ls.cells.2;rfl) cL λM cM dY X=>?_;have aJ:Ext bS M:=cK.put cM Ω;have bV:=(bg.trans aI).trans aJ;have V:=bh.ext aJ;have bj:=((af.ext bd).ext aI).ext aJ;have bW:=(bf.ext aI).ext aJ;have dZ:=bg.size;have z3:=aI.size;have ea:=bV.size;have eb:=X.lt;have ec:B=bS.heap.size:=cJ;rw[az aU.p 0 X rfl,aX al.u V.ls];have bX:∀v∈bk x.scope,0<=v/\v<f.sizes.length:=λv hm=>ad.scope.2 v ((qx bM).1 hm);have bl:∀ {w':x3},ae (λr=>r=B\/M.heap.size<=r) M w'->Ext w w':=λbm=>bV.then bm λr s he=>Ω
 have bp:(bP f.sizes (bk x.scope)).length=(bk x.scope).length:=by simp[bP]
 refine ci.range (bk x.scope).length (λi O=>ae (λr=>r=B\/M.heap.size<=r) M O/\ ∃szv gs,aa O B aU [aD,szv,.slice ν 0 0]/\ap .i64 ag O gs szv ((bP f.sizes (bk x.scope)).take i)/\ ∀r,leads szv r->M.heap.size<=r) Ω
  ⟨ae.refl _ _,_,0,X,ap.nil _ _ _ _,λr s=>by obtain⟨a,n,c,E,K⟩:=s;cases E⟩ ?_ ?_
 .rintro i O cO hi ⟨P,szv,gs,cP,am,aN⟩ cQ;obtain⟨v,br⟩:=aE (l:=(bk x.scope)) hi;have ed:=bX v (x5 br);have cS:ap .i64 ag O gr aD (bk x.scope):=bq V P λr s I=>by
   rcases I with rfl|I
   .exact cd V X Φ s rfl
   .obtain⟨E,K⟩:=bU V s;omega
  refine bH Ω ?_;rw[be al.u ag.i Ψ cS.ls br];intro ee ao _ _;have b0:=cP.ext ao;have cT:f.sizes[v.toNat]? =σ (f.sizes.getD v.toNat 0):=by rw[u4,x6 Ω];rfl
  rw[az aU.p 1 b0 rfl,fA (y:=v) (i:=v.toNat) Ω an.u ak.i Ψ (cA.ext ((bl P).trans ao)).ls cT];refine ej (k:=.i64) al.u ag.i rfl λef eg cU eh aq cV=>?_;refine⟨.inl aq,?_⟩;have b1:=(am.ext ao).ext aq;refine gP al.u ag.i rfl b1 cV.ls Θ Θ λcW cX ei aO cY b3=>?_;have b4:=b0.ext aq;have b5:=b4.U b3 λhe=>cd b1 b4 Φ he rfl;rw[aP aU.p rfl];refine bo (g:=B) (o:=1) al.i aO.ls.cells.1 aO.ls.cells.2 b5 Ξ λcZ b6 ek c0=>?_;rw[aM];have c3:ae (λr=>leads szv r\/r=B) cU cZ:=(b3.mono λr _ h=>.inl h).trans (b6.mono λr _ h=>.inr h);have c4:=P.size;have em:=(ao.trans aq).size;refine cQ _ ⟨((P.trans (ao.U _)).trans (aq.U _)).trans (c3.mono λr _ h=>h.elim (λh=>.inr (aN r h)) .inl),cW,cX,c0,?_,λr s=>(cY r s).elim (aN r) λh=>Ω⟩;have e:(bP f.sizes (bk x.scope)).take (i+1)=(bP f.sizes (bk x.scope)).take i++[f.sizes.getD v.toNat 0]:=by
   unfold bP;rw[<-List.map_take,<-List.map_take,u9,br,o8,j6];rfl
  rw[e];exact bq aO b6 λr s he=>by
   have he:r=B:=he;subst he;exact cd aO b5 Φ s rfl
 rintro O cO ⟨P,szv,gs,bu,am,aN⟩;rw[<-bp,o7] at am;refine ca Ω ?_;have en:=bl P;have aQ:b2 (bP f.sizes (bk x.scope)):=⟨by rw[bp];exact cC,la aG.sizes.2.2 bX⟩;have c5:=cD.small;rw[az aU.p 1 bu rfl];refine (sn _ am.ls aQ).mono ?_;rintro c6 C _ ⟨aR,b7⟩;have eo:=hU aQ.2;have ep:=lT aQ.2;have er:aK (bP f.sizes (bk x.scope))<=4096:=c5;rw[fC cu.u b7];have aS:ae (λr=>r=B\/M.heap.size<=r) M C:=P.trans (aR.U _);have av:=bu.ext aR;have b8:=am.ext aR;have c4:=P.size;have es:=aR.size;have bw:ap .i64 ag C gr aD (bk x.scope):=bq V aS λr s I=>by
  rcases I with rfl|I
  .exact cd V X Φ s rfl
  .obtain⟨E,K⟩:=bU V s;omega
 have bz:aa C bc a1 (eT ac):=bj.U aS λI=>I.elim (λhe=>by subst he;exact absurd (eu bj X) Φ) λh=>by have:=bj.lt;omega
 have b9:=bW.U aS λI=>I.elim (λhe=>by have:=bf.lt;omega) λh=>by have:=bW.lt;omega
 have cb:∀ {w':x3},ae (λr=>r=B\/C.heap.size<=r) C w'->Ext w w':=λbm=>(bl aS).then bm λr s he=>by
  have he:r=B\/C.heap.size<=r:=he;omega
 have et:B<C.heap.size:=av.lt;refine ci.range (a8 (bP f.sizes (bk x.scope))).length (λq z=>ae (λr=>r=B\/C.heap.size<=r) C z/\ ∃aY ax,aa z B aU [aD,szv,aY]/\ap .i64 ak z ax aY (((a8 (bP f.sizes (bk x.scope))).take q).map λt=>jM x f.k (oT x.scope (bk x.scope) t))/\ ∀r,leads aY r->C.heap.size<=r) Ω
  ⟨ae.refl _ _,_,0,av,ap.nil _ _ _ _,λr s=>by obtain⟨a,n,c,E,K⟩:=s;cases E⟩ ?_ ?_
 .rintro q z c7 c8 ⟨G,aY,ax,aA,aB,aW⟩ c9;obtain⟨t,aZ⟩:∃t,(a8 (bP f.sizes (bk x.scope)))[q]? =σ t:=⟨_,x6 c8⟩;have ev:t.length=(bk x.scope).length:=by
   have da:=nK aQ.2 (i:=q) Ω;rw[da] at aZ;cases aZ;rw[jk,bp]
  have bA:=cb G;have db:aj.rep (α:=List (Λ)) true (eI O.heap.size) bC z [c6] (a8 (bP f.sizes (bk x.scope))):=aj.U b7 G λr s h I=>by
   rcases h with h|h
   .have h:O.heap.size<=r:=h;have:=bu.lt;rcases I with I|I<;>omega
   .exact h
  have Y:∀ {Q:Nat} {R:x1} {S:Λ},ap .i64 ag C Q R S->ap .i64 ag z Q R S:=λhm=>bq hm G λr s I=>by
   rcases I with rfl|I
   .exact cd hm av Φ s rfl
   .obtain⟨E,K⟩:=bU hm s;omega
  have cc:=Y bw;have ce:aa z bc a1 (eT ac):=bz.U G λI=>I.elim (λhe=>by subst he;exact absurd (eu bz av) Φ) λh=>by have:=bz.lt;omega
  refine bH Ω ?_;refine gl (α:=Λ) rfl rfl cu.u al.i Ψ db aZ λaL dc=>?_;have dd:=cN dc;rw[az a1.p 0 ce rfl,aX an.u (aH.ls.ext bA)];have z12:=G.size;refine bY.range x.scope.length (λp H a2=>Ext z a2/\ ∃go,ap .i64 ak a2 go H ((x.scope.take p).map λv=>t.getD ((bk x.scope).idxOf v) 0)/\ ∀r,leads H r->z.heap.size<=r) Ω ⟨Ext.refl _,0,ap.nil _ _ _ _,λr s=>by obtain⟨a,n,c,E,K⟩:=s;cases E⟩ ?_ ?_
  .rintro p H a2 de df ⟨Z,go,aC,cg⟩ dg;obtain⟨v,bB⟩:=aE (l:=x.scope) df;have dh:v∈bk x.scope:=bN.mem_iff.2 (x5 bB);refine bH Ω ?_;have di:=bA.trans Z;have dj:=aA.ext Z;have dk:=cc.ext Z;rw[be an.u ak.i Ψ (aH.ls.ext di) bB,az aU.p 0 dj rfl,aX al.u dk.ls];generalize cj:((x.scope.take p).map λv=>t.getD ((bk x.scope).idxOf v) 0)=A at aC;have ew:A.length=p:=by rw[<-cj,u7,j5];omega
   refine bY.range (bk x.scope).length (λj H a6=>Ext z a6/\ ∃go,ap .i64 ak a6 go H (A++if v∈(bk x.scope).take j then[t.getD ((bk x.scope).idxOf v) 0] else[])/\ ∀r,leads H r->z.heap.size<=r) Ω ⟨Z,go,by simpa using aC,cg⟩ ?_ ?_
   .rintro j dl a6 dm dn ⟨W,bD,ab,aF⟩ dp;obtain⟨u,hu⟩:=aE (l:=(bk x.scope)) dn;have dr:=cc.ext W;refine bH Ω ?_;refine aT (λH bE=>Ext z bE/\ ∃go,ap .i64 ak bE go H (A++if v∈(bk x.scope).take (j+1) then[t.getD ((bk x.scope).idxOf v) 0] else[])/\ ∀r,leads H r->z.heap.size<=r) ?_ ?_
    .rintro ey bE ds;rw[aM];exact dp _ _ ds
    intro au ck;have bF:v∈(bk x.scope).take (j+1)↔v∈(bk x.scope).take j\/v=u:=by
     rw[u9,hu,o8,l9,n9]
    rw[be al.u ag.i Ψ dr.ls hu,bi,ah];refine⟨λhe=>?_,λbG=>?_⟩
    .have dt:v∉(bk x.scope).take j:=λhm=>by
      obtain⟨dv,bI⟩:=X9.1 hm;have dw:dv<j:=by have:=(x4.1 bI).1;rw[j5] at this;omega
      rw[X4 dw,<-he] at bI;have:=kt bO bI hu;omega
     rw[if_neg dt,W7] at ab;have dx:t[j]? =σ (t.getD ((bk x.scope).idxOf v) 0):=by
      have:(bk x.scope).idxOf v=j:=qz bO (by rw[hu,he]);rw[this,u4,x6 (show j<t.length by omega)];rfl
     rw[be al.u ag.i Ψ (dd.ext W) dx];refine ej an.u ak.i rfl λez eA eB eC bJ dy=>?_;refine gP an.u ak.i rfl (ab.ext bJ) dy.ls Θ Θ λeE dz eF dA dC dD=>?_;have eH:=W.size;have eJ:=bJ.size;refine ck _ _ ⟨(W.trans bJ).then dD λr s he=>by have:=aF r he;omega,dz,?_,λr s=>(dC r s).elim (aF r) λh=>Ω⟩;rw[if_pos (bF.2 (.inr he.symm))];exact dA
    .refine ck _ _ ⟨W,bD,?_,aF⟩;have:(v∈(bk x.scope).take (j+1))=(v∈(bk x.scope).take j):=propext ⟨λay=>(bF.1 ay).resolve_right λhe=>bG he.symm,λay=>bF.2 (.inl ay)⟩;simp only[this];exact ab
   .rintro dl a6 dm ⟨W,bD,ab,aF⟩;rw[o7,if_pos dh] at ab;refine ca Ω ?_;rw[aM];refine dg _ _ ⟨W,bD,?_,aF⟩;rw[u9,bB,o8,j6,cj];exact ab
  .rintro H a2 de ⟨Z,go,aC,cg⟩;rw[o7] at aC;refine ca Ω ?_;intro eK cl _ _;have a7:=Z.trans cl;have dE:=aA.ext a7;have dF:=ce.ext a7;rw[az aU.p 2 dE rfl,bx a1.p a1.i rfl dF.range];refine (NT (h.ext (bA.trans a7)) ad.lines.1 (aC.ls.ext cl)).mono ?_;rintro _ eL _ ⟨rfl,bK⟩;refine⟨.inl bK,?_⟩;refine ej an.u ak.i rfl λeM eN dG eO cm dH=>?_;refine⟨.inl (bK.trans cm),?_⟩;have ba:=(a7.trans bK).trans cm;have cn:=aB.ext ba;refine gP an.u ak.i rfl cn dH.ls Θ Θ λdI dJ eP bb dK cp=>?_;have cq:=aA.ext ba;have cr:=cq.U cp λhe=>cd cn cq Φ he rfl;rw[aP aU.p rfl];refine bo (g:=B) (o:=2) an.i bb.ls.cells.1 bb.ls.cells.2 cr Ξ λdL ct eQ dM=>?_;rw[aM];have dN:ae (λr=>leads aY r\/r=B) dG dL:=(cp.mono λr _ h=>.inl h).trans (ct.mono λr _ h=>.inr h);have eR:=ba.size;refine c9 _ ⟨(G.trans (ba.U _)).trans (dN.mono λr _ h=>h.elim (λh=>.inr (aW r h)) .inl),dI,dJ,dM,?_,λr s=>(dK r s).elim (aW r) λh=>Ω⟩;rw[u9,aZ,o8,j6];exact bq bb ct λr s he=>by
    have he:r=B:=he;subst he;exact cd bb cr Φ s rfl
 .rintro z c7 ⟨G,aY,ax,aA,aB,aW⟩;rw[o7] at aB;refine ca Ω ?_;have Y:∀ {Q:Nat} {R:x1} {S:Λ},ap .i64 ag C Q R S->ap .i64 ag z Q R S:=λhm=>bq hm G λr s I=>by
   rcases I with rfl|I
   .exact cd hm av Φ s rfl
   .obtain⟨E,K⟩:=bU hm s;omega
  let c:eD:=⟨aD,szv,aY,bk x.scope,(hY f.sizes f.k x).2⟩;have dO:fK z f.sizes c:=⟨⟨gr,Y bw⟩,⟨gs,Y b8⟩,ax,aB⟩;rw[bx aU.p aU.i rfl (show z.rangeAt B 0 (cR c) from aA.range)];have cw:=b9.U G λI=>I.elim (λhe=>by have:=bf.lt;omega) λh=>by have:=b9.lt;omega
  refine bT (vs:=cR c) aU.i rfl rfl dO.one cw λdP cz eS dQ=>?_;rw[fB aU.p aU.i rfl dQ.range];have aV:∀ {Q:Nat} {R:x1} {S:Λ} {e:r9},e≠aU->ap .i64 e z Q R S->ap .i64 e dP Q R S:=λbG hm=>bq hm cz λr s he=>by
   have he:r=bR:=he;exact cd hm cw bG s he
  refine⟨(cb G).then cz λr s he=>by have he:r=bR:=he;have:=bQ.size;omega,c,rfl,rfl,rfl,⟨⟨gr,aV Φ (Y bw)⟩,⟨gs,aV Φ (Y b8)⟩,ax,aV Φ aB⟩,λr s=>?_⟩;rcases s with s|s|s
  .have:=aW r s;omega
  .have:=cI r s;omega
  .have:=aN r s;omega
theorem Dm {h:eD} {g:Nat} (e:fK w sizes h) (a:aa w' g aU (x1.agg (cR h).toArray).cells.toList):aa w' g aU (cR h):=by
 obtain⟨⟨g1,h1⟩,⟨s,f⟩,x,j⟩:=e;obtain⟨_,_,_,p⟩:=du h1.ls;obtain⟨_,_,_,q⟩:=du f.ls;obtain⟨_,_,_,r⟩:=du j.ls;simp only[cR,p,q,r] at a ⊢;exact a
theorem NV {a b:eD} (R:fK w sizes a) (S:fK w sizes b) (X:jo a.sc) (Y:jo b.sc):ai x7 zf [.agg (cR a).toArray,.agg (cR b).toArray] w λv w'=>v= .bool (decide (da a.sc<da b.sc))/\Ext w w':=by
 obtain⟨⟨ga,U⟩,_⟩:=id R;obtain⟨⟨fk,Z⟩,_⟩:=id S;have I:=(vT X Y).1;refine aw func174 ?_;refine bn λg1 J au aa L=>?_;refine bn λab w2 av W M=>?_;have L:=(Dm R L).ext W;have M:=Dm S M;have r:=aa.trans W;have s:=U.ls.ext r;have B:=Z.ls.ext r;have z:∀ {w':x3},Ext w2 w'-> ∀ {K:x1->Prop},V x7 (u6 aU (Γ g1) 0) w' (λt=>V x7 (u5 al t) w' K)=K a.aD:=λe K=>by
  rw[az aU.p 0 (L.ext e) rfl]
 have C:∀ {w':x3},Ext w2 w'-> ∀ {K:x1->Prop},V x7 (u6 aU (Γ ab) 0) w' (λt=>V x7 (u5 al t) w' K)=K b.aD:=λe K=>by
  rw[az aU.p 0 (M.ext e) rfl]
 rw[z (Ext.refl _),aX al.u s,C (Ext.refl _),aX al.u B,bE,ah];refine⟨λac=>?_,λad=>?_⟩
 .rw[z (Ext.refl _),aX al.u s,C (Ext.refl _),aX al.u B,aQ];refine⟨?_,r⟩;congr 1;rw[U1,decide_eq_true_eq,decide_eq_true_eq,I];exact⟨λh=>.inl Ω,λh=>by rcases h with h|h<;>omega⟩
 have ae:a.sc.length=b.sc.length:=by have:=Y7.1 ad;omega
 rw[z (Ext.refl _),aX al.u s];refine bY.range a.sc.length (λi _ N=>Ext w2 N/\ ∀ (j:Nat) (x y:Int),j<i->a.sc[j]? =σ x->b.sc[j]? =σ y->x=y) U.ls.le ⟨Ext.refl _,λj x y af=>Ω⟩ ?_ ?_
 .rintro i _ N k hi ⟨O,E⟩ hk;obtain⟨x,e⟩:=aE (l:=a.sc) hi;obtain⟨y,G⟩:=aE (l:=b.sc) (i:=i) Ω;have f:fR a.sc b.sc=fR (a.sc.drop i) (b.sc.drop i):=ta E Ω Ω;have aj:a.sc.drop i=x::a.sc.drop (i+1):=by rw[W5 hi,(x4.1 e).2]
  have ak:b.sc.drop i=y::b.sc.drop (i+1):=by rw[W5 (show i<b.sc.length by omega),(x4.1 G).2]
  rw[aj,ak] at f;simp only[fR] at f;refine bH Ω ?_;intro ax am _ _;have q:=O.trans am;rw[z q,be al.u ag.i Ψ (s.ext q) e,C q,be al.u ag.i Ψ (B.ext q) G,bE,ah];refine⟨λac=>?_,λhe=>?_⟩
  .intro ay an _ _;have A:=q.trans an;rw[z A,be al.u ag.i Ψ (s.ext A) e,C A,be al.u ag.i Ψ (B.ext A) G,aQ];refine⟨?_,r.trans A⟩;congr 1;rw[U1,decide_eq_true_eq,decide_eq_true_eq,I,f];by_cases H:x<y
   .rw[if_pos H];exact⟨λ_=>.inr ⟨ae,Ω⟩,λ_=>H⟩
   .rw[if_neg H,if_pos (show y<x by omega)];exact⟨λh=>absurd h H,λh=>by rcases h with h|h<;>omega⟩
  .rw[aM];refine hk _ _ ⟨q,λj ao ap af P Q=>?_⟩;by_cases aq:j=i
   .subst aq;rw[e] at P;rw[G] at Q;cases P;cases Q;exact Y7.1 he
   .exact E j ao ap Ω P Q
 .rintro _ N k ⟨O,E⟩;rw[aQ,ah];refine⟨λh=>Ω,λ_=>⟨?_,r.trans O⟩⟩;congr 1;symm;rw[decide_eq_false_iff_not,I];have f:fR a.sc b.sc=fR (a.sc.drop a.sc.length) (b.sc.drop a.sc.length):=ta E (o4 _) Ω;rw[List.drop_length,show b.sc.drop a.sc.length=[] from List.drop_eq_nil_of_le Ω] at f;rw[f];simp only[fR];omega
def dc (h:eD):cz:=(h.sc,h.cs)
def kB (w:x3) (B g:Nat) (v:x1) (sizes:Λ) (L:List eD):Prop:=bg cR 3 aU w g v L/\(∀h∈L,fK w sizes h/\ ∀r,pk h r->B<=r)/\(∀ (i j:Nat) x y,L[i]? =σ x->L[j]? =σ y->i≠j-> ∀r,leads x.aY r->¬leads y.aY r)/\ ∀r,leadsTo v r->B<=r
theorem mK {h:eD} (y:fK w sizes h) (q:ae S w w') (s:∀r,S r->(∃e c,aa w r e c/\e≠ag/\e≠ak)\/w.heap.size<=r\/((∃c,aa w r ak c)/\¬leads h.aY r)):fK w' sizes h:=by
 obtain⟨⟨g1,h1⟩,⟨z,A⟩,B,j⟩:=y;have x:∀ {g:Nat} {v:x1} {l:Λ},ap .i64 ag w g v l->ap .i64 ag w' g v l:=λhm=>bq hm q λr a I=>by
  rcases s r I with⟨e,c,f,p,_⟩|C|⟨⟨c,f⟩,_⟩
  .exact cd hm f (λhe=>p he.symm) a rfl
  .obtain⟨E,F⟩:=bU hm a;omega
  .exact cd hm f Φ a rfl
 refine⟨⟨g1,x h1⟩,⟨z,x A⟩,B,bq j q λr a I=>?_⟩;rcases s r I with⟨e,c,f,_,p⟩|C|⟨_,G⟩
 .exact cd j f (λhe=>p he.symm) a rfl
 .obtain⟨E,F⟩:=bU j a;omega
 .exact G a
theorem kB.ext {g:Nat} {L:List eD} (h:kB w B g v sizes L) (a:Ext w w'):kB w' B g v sizes L:=⟨h.1.ext a,λx e=>⟨(h.2.1 x e).1.ext a,(h.2.1 x e).2⟩,h.2.2⟩
section
variable {α:Type} {f:α->List x1} {k:Nat} {P:W9} {w:x3} {e:r9} {g:Nat} {v:x1} {L:List α}
theorem NW {M:List α} (h:bg f k e w g v L) (j:L.map f=M.map f):bg f k e w g v M:=by
 have p:L.length=M.length:=by have:=congrArg T7 j;simpa using this
 have hm:L.flatMap f=M.flatMap f:=by rw[List.flatMap_def,List.flatMap_def,j]
 refine⟨by rw[<-p,<-hm];exact h.1,λa q=>?_⟩;obtain⟨b,r,he⟩:=l7.1 (show f a∈L.map f by rw[j];exact l7.2 ⟨a,q,rfl⟩);rw[<-he];exact h.2 b r
theorem Dn {b l h':Nat} {low high:Option x1} (r:P.underlying t=σ (.slice e)) (hi:aN P e k b z) (h:bg f k e w g v L) (h1:lP low l) (s:lQ high L.length h') (p:l<=h') (ay:h'<=L.length)
  (x:∀q,(∀w',bg f k e w' g v L->b7 w' k q ((L.drop l).take (h'-l)).length (((L.drop l).take (h'-l)).flatMap f))->K q):V P (U2 t v low high ν) w K:=by
 have y:=h.sl;obtain⟨_,B,o,base,cap,rfl,C,_⟩:=y;rw[iG r hi h1 s gj p Ω (o4 _)];refine x _ λw' j=>?_;have:=b7.part (l:=l) (h:=h') (m:=cap) j.sl p ay Ω (o4 _);rw[sM l j.2,qp (h'-l) (λa A=>j.2 a (List.mem_of_mem_drop A))] at this;have el:((L.drop l).take (h'-l)).length=h'-l:=by rw[j5,List.length_drop];omega
 rw[el];exact this
theorem wK {O:r9} {b:Nat} {x:x1} {M:List α} {K:x1->x3->Prop} (A:P.underlying t=σ (.slice e)) (hi:aN P e k b z) (G:z.cells.size=k) (h:bg f k e w g v L) (H:b7 w k x M.length (M.flatMap f)) (Q:∀a∈M,(f a).length=k) (h1:∀a∈M,∀u∈f a,u.oneCell'=true)
  (B:(L.length+M.length)*b<=140737488355328) (I:L.length+M.length<=9223372036854775807)
  (J:∀j p w',bg f k e w' p j (L++M)->(∀r,leadsTo j r->leadsTo v r\/w.heap.size<=r)->ae (λr=>leadsTo v r) w w'->K j w'):av P (b9 #[t,t] O #[v,x]) w K:=by
 have N:∀u∈M.flatMap f,u.oneCell'=true:=λu hu=>by
  obtain⟨a,R,hu⟩:=List.mem_flatMap.1 hu;exact h1 a R u hu
 have C:∀j p w',bV w' p e k j (L.length+M.length) (L.flatMap f++M.flatMap f)->bg f k e w' p j (L++M):=λj p w' hm=>⟨by simpa using hm,λb B=>by
  rcases l9.1 B with h'|h'
  .exact h.2 b h'
  .exact Q b h'⟩
 rcases h.1.2 with⟨q,S⟩|⟨cap,cs,q,T,_⟩
 .have hm:bV w w.heap.size e k v L.length (L.flatMap f):=⟨h.1.1,.inl ⟨q,S⟩⟩;subst q;refine nu A A hi G hm H N (by simpa using B) (by simpa[maxLen] using I) λj p w' E s F=>J j p w' (C _ _ _ s) (λr y=>.inr ?_) (F.mono λr y h=>Ω);have:=((C _ _ _ s).leads y).1;omega
 .refine nu A A hi G h.1 H N (by simpa using B) (by simpa[maxLen] using I) λj p w' E s F=>J j p w' (C _ _ _ s) (λr y=>?_) (F.mono λr y h=>⟨_,_,_,q,h.symm⟩);have:=((C _ _ _ s).leads y).1;rcases E with E|E
  .exact .inl ⟨_,_,_,q,by show g=r;omega⟩
  .exact .inr Ω
theorem NX {b:Nat} {K:x1->x3->Prop} (a:P.underlying t=σ (.slice e)) (hi:aN P e k b z)
  (h:∀v g w',g=w.heap.size->Ext w w'->bg f k e w' g v []->K v w'):av P (Y4 t 0 #[]) w K:=
 jG a hi Ω (cs:=#[]) (by simp[Instr.fill]) λg w' j p q=>by
  exact h _ g w' j p ⟨by simpa using bV.full (k:=k) (n:=0) q Ξ (by simp[maxLen]),λc r=>by cases r⟩
end
theorem wL {α:Type} {A B:List α} {s:Nat} {a:α} (I:s<B.length) (e:A[s]? =σ a):(A.take s++B.drop s).set s a=A.take (s+1)++B.drop (s+1):=by
 have f:=(x4.1 e).1;have h1:(A.take s).length=s:=by rw[j5];omega
 rw[T8 _ _ Ω,h1,U7,W5 I,List.set_cons_zero,u9,e,o8,c9];rfl
theorem Do {α:Type} {A B:List α} {s:Nat} (I:s<=A.length):(A.take s++B.drop s)[s]? =B[s]?:=by
 have h1:(A.take s).length=s:=by rw[j5];omega
 rw[X1 Ω,h1,U7,List.getElem?_drop,Nat.add_zero]
theorem Dp {g:cz}:∀ {l:List cz} {i:Nat},(∀p<i,∀x,l[p]? =σ x->da x.1<da g.1)->i<=l.length->(∀x,l[i]? =σ x->¬da x.1<da g.1)->hA g l=l.take i++g::l.drop i
 |[],i,_,a,_=>by
  have:i=0:=by simpa using a
  subst this;rfl
 |x::l,0,_,_,e=>by
  unfold hA;rw[if_neg (e x rfl)];rfl
 |x::l,i+1,h1,a,e=>by
  unfold hA;rw[if_pos (h1 0 Ω x rfl),Dp (i:=i) (λp h y f=>h1 (p+1) Ω y f) (by simpa using a) (λy f=>e y f)];rfl
theorem NY {g:Nat} {L:List eD} {h:eD} {s:Nat} {n:Int} {K:Unit->x3->Prop} (f:kB w B g v sizes L) (G:L[j]? =σ h) (I:s<h.cs.length)
  (Z:∀w',ae (λr=>leads h.aY r) w w'->(∀r,leads h.aY r-> ∃c,aa w r ak c)->kB w' B g v sizes (L.set j {h with cs:=h.cs.set s n})->K () w'):
  V x7 (c8 an h.aY (Δ (s:Int))) w λt=>av x7 (o5 ak t (Δ n)) w K:=by
 obtain⟨h1,P,Q,ab⟩:=f;have N:=(x4.1 G).1;obtain⟨R,ac⟩:=P h (x5 G);obtain⟨_,_,S,H⟩:=id R;have J:∀r,leads h.aY r-> ∃c,aa w r ak c:=λr f=>by
  obtain⟨rfl,_⟩:=bU H f;obtain⟨_,⟨ad,_⟩|⟨cap,full,_,C,_⟩⟩:=H
  .obtain⟨a,n,c,e,_⟩:=f;rw[ad] at e;cases e
  .exact⟨_,C⟩
 have af:∀r,r=S->leads h.aY r:=λr he=>by
  subst he;obtain⟨_,⟨_,az⟩|⟨cap,full,e,C,_⟩⟩:=H
  .omega
  .exact⟨_,_,_,e,rfl⟩
 rw[iK rfl an.u ak.i H I];refine iL ak.i H I λw' E aA ag=>?_;have E:=E.mono (T:=λr=>leads h.aY r) λr _ he=>af r he;refine Z w' E J ⟨?_,λx A=>?_,λp q x y A ah ai r aj al=>?_,ab⟩
 .refine NW (h1.U E λr f I=>?_) ?_
  .obtain⟨c,C⟩:=J r I;exact cQ h1 C Φ f
  .rw[U9];symm;refine Y6 λp=>?_;rw[X6,x8];by_cases z:j=p
   .subst z;rw[if_pos rfl,if_pos (by simpa using N),G];rfl
   .rw[if_neg z]
 .have am:x={h with cs:=h.cs.set s n}\/ ∃p,p≠j/\L[p]? =σ x:=by
   obtain⟨p,z⟩:=X9.1 A;rw[X6] at z;by_cases F:j=p
   .subst F;rw[if_pos rfl,if_pos N] at z;exact .inl (c7 z).symm
   .rw[if_neg F] at z;exact .inr ⟨p,λh=>F h.symm,z⟩
  rcases am with rfl|⟨p,ao,z⟩
  .obtain⟨⟨g1,W⟩,⟨ap,X⟩,_⟩:=R;refine⟨⟨⟨g1,bq W E λr f I=>?_⟩,⟨ap,bq X E λr f I=>?_⟩,S,ag⟩,ac⟩
   .obtain⟨c,C⟩:=J r I;exact cd W C Φ f rfl
   .obtain⟨c,C⟩:=J r I;exact cd X C Φ f rfl
  .obtain⟨aq,au⟩:=P x (x5 z);refine⟨mK aq E λr f=>.inr (.inr ⟨J r f,λO=>Q p j x h z G ao r O f⟩),au⟩
 .have Y:∀ {p:Nat} {x:eD},(L.set j {h with cs:=h.cs.set s n})[p]? =σ x-> ∃M,L[p]? =σ M/\M.aY=x.aY:=λ{p x} A=>by
   rw[X6] at A;by_cases F:j=p
   .subst F;rw[if_pos rfl,if_pos N] at A;cases A;exact⟨h,G,rfl⟩
   .rw[if_neg F] at A;exact⟨x,A,rfl⟩
  obtain⟨M,O,ex⟩:=Y A;obtain⟨aw,ax,ay⟩:=Y ah;exact Q p q M aw O ax ai r (by rw[ex];exact aj) (by rw[ay];exact al)
def ln (f:bZ) (j:Nat):List cz:=(((fl f).take j).filter fD).foldl (λl g=>hA g l) []
theorem Dq {f:bZ} {x:cz} (h:(fl f)[j]? =σ x):ln f (j+1)=if fD x then hA x (ln f j) else ln f j:=by
 unfold ln;rw[u9,h,o8,List.filter_append,List.foldl_append];cases I:fD x with
 |true=>rw[List.filter_cons_of_pos I];rfl
 |false=>rw[List.filter_cons_of_neg (by simp[I])];rfl
theorem NZ (f:bZ):ln f (fl f).length=fE f:=by unfold ln fE;rw[o7]
theorem Dr (g:cz):∀l,(hA g l).length=l.length+1
 |[]=>rfl
 |h::l=>by
  unfold hA;split
  .rw[b8,Dr g l,b8]
  .rfl
theorem N0 {f:bZ} (e:j<=(fl f).length):(ln f j).length<=j:=by
 induction j with
 |zero=>simp[ln]
 |succ j a=>
  have:=a Ω;rw[Dq (x:=(fl f)[j]) (x6 Ω)];split
  .rw[Dr];omega
  .omega
theorem N1 {g:Nat} {l:x1} {f:bZ} {L:List eD} {Q:x1->x3->Prop} (aC:e6 N f) (A:kB w B g l f.sizes L) (aD:L.map dc=fl f)
  (bN:∀out w' go z,Ext w w'->bg cR 3 aU w' go out z->(∀h∈z,h∈L)->(∀h∈z,fK w' f.sizes h)->z.map dc=fE f->(∀r,leadsTo out r->w.heap.size<=r)->Q out w'):
  V x7 (V3 #[cj] ag #[l]) w λbP=>
 bY (.slice ν 0 0) (Δ 0) w λout aF S bQ=>
  V x7 (aJ .lss ag false false aF bP) S λbR=>
  Split bR (cr (α:=x1->x3->Prop) (λ(bU:x1) (W:x3)=>
   V x7 (aJ .add ag false true aF (Δ 1)) W λbV=>
   bQ bU bV W) λbd=>
  V x7 (c8 cj l aF) S λbW=>
  V x7 (u5 aU bW) S λbX=>
  av x7 (S0 aU true (.tuple #[])) S λam bf=>
  av x7 (o5 aU am bX) bf λ(_:Unit) O=>
  V x7 (u6 aU am 2) O λb2=>
  V x7 (u5 an b2) O λbh=>
  V x7 (V3 #[an] ag #[bh]) O λb3=>
  bY (.bool false) (Δ 0) O λbi aG C b5=>
   V x7 (aJ .lss ag false false aG b3) C λb6=>
   Split b6 (cr (α:=x1->x3->Prop) (λ(b7:x1) (aa:x3)=>
    V x7 (aJ .add ag false true aG (Δ 1)) aa λb8=>
    b5 b7 b8 aa) λbj=>
   V x7 (c8 an bh aG) C λcb=>
   V x7 (u5 ak cb) C λcc=>
   Split bi (bj (.bool true) C)
    (V x7 (aJ .gtr ak false true cc (Δ 0)) C λcd=>
   bj cd C))
    (V x7 (Op.unary .not bi) C λce=>
  Split ce (bd out C)
   (ci (Δ 0) C λi ao cg=>
   cr (α:=x1->x3->Prop) (λ(ch:x1) (X:x3)=>
    Split ch (V x7 (aJ .add ag false true i (Δ 1)) X λck=>
   cg ck X)
     (ei X λG=>
  V x7 (u5 aU am) G λcl=>
  V x7 (U2 cj out (σ i) ν ν) G λbk=>
  av x7 (Y4 cj 1 #[(0,cl)]) G λcm ab=>
   (Ext G ab\/b4 x7 (U2 cj out (σ i) ν ν) bk ab/\True)/\
  av x7 (b9 #[cj,cj] cj #[cm,bk]) ab λcn aH=>
   av x7 (Y4 cj 0 #[]) aH λcp ap=>
  V x7 (U2 cj out ν (σ i) ν) ap λcq=>
  av x7 (b9 #[cj,cj] cj #[cp,cq]) ap λct aI=>
  av x7 (b9 #[cj,cj] cj #[ct,cn]) aI λcu aK=>
  bd cu aK)) λbl=>
   ei ao λH=>
   V x7 (V3 #[cj] ag #[out]) H λcw=>
   V x7 (aJ .lss ag false false i cw) H λcz=>
   Split cz (V x7 (c8 cj out i) H λcA=>
   V x7 (u5 aU cA) H λcB=>
   V x7 (u5 aU am) H λcC=>
   ai x7 zf [cB,cC] H λcD bm=>
    bl cD bm)
    (bl (.bool false) H))))
   (Q out S):=by
 have cE:L.length=(fl f).length:=by rw[<-aD,u7]
 have dp:L.length<=256:=by have:=(lb aC).2.2;have:=aC.k3;omega
 have bn:=(lb aC).1;rw[eA cj.u A.1];refine bY.range L.length (λj out J=>∃go z,Ext w J/\bg cR 3 aU J go out z/\(∀h∈z,h∈L)/\z.map dc=ln f j/\ ∀r,leadsTo out r->w.heap.size<=r) A.1.le
  ⟨0,[],Ext.refl _,bg.nil _ _ _ _ _,λh ay=>(by cases ay),rfl,λr A=>(e7 A).elim⟩ ?_ ?_
 rotate_left
 .rintro out J cF ⟨go,z,bo,ac,P,ad,aN⟩;rw[aQ,ah];refine⟨λh=>Ω,λ_=>bN _ _ go z bo ac P (λh ay=>((A.ext bo).2.1 h (P h ay)).1) ?_ aN⟩;rw[ad,cE,NZ]
 rintro j out S cF bp ⟨go,z,aq,ac,P,ad,aN⟩ cG;obtain⟨h,ay⟩:=aE (l:=L) bp;have hm:(fl f)[j]? =σ (dc h):=by rw[<-aD,x8,ay];rfl
 have cH:=bn _ (x5 hm);have dq:z.length<=256:=by
  have:=N0 (f:=f) (j:=j) Ω;rw[<-ad,u7] at this;omega
 have ae:=A.ext aq;obtain⟨aO,_⟩:=ae.2.1 h (x5 ay);obtain⟨_,_,dr,cI⟩:=id aO;refine bH Ω ?_;refine aT (λaP W=>∃aR af,Ext w W/\bg cR 3 aU W aR aP af/\(∀h∈af,h∈L)/\af.map dc=ln f (j+1)/\ ∀r,leadsTo aP r->w.heap.size<=r) ?_ ?_
 .rintro aP W ⟨aR,af,h1,cJ,cK,cL,cM⟩;rw[aM];exact cG _ _ ⟨aR,af,h1,cJ,cK,cL,cM⟩
 intro au aj;rw[db rfl cj.u aU.i ae.1 bp,bx aU.p aU.i rfl (ae.1.range ay)];refine bt aU.i λbq bf ds cN cO=>?_;refine bT (vs:=cR h) aU.i rfl rfl aO.one cO λO cP dt br=>?_;have bu:Ext S O:=cN.put cP Ω;have aS:=cI.ext bu;rw[az aU.p 2 br rfl,aX an.u aS.ls];refine bY.range h.cs.length (λq sv C=>Ext O C/\sv= .bool ((h.cs.take q).any λc=>decide (0<c))) aS.ls.le ⟨Ext.refl _,rfl⟩ ?_ ?_
 .rintro q _ C cQ cS ⟨Y,rfl⟩ cT;obtain⟨c,bw⟩:=aE (l:=h.cs) cS;have e:(h.cs.take (q+1)).any (λc=>decide (0<c))=((h.cs.take q).any (λc=>decide (0<c))||decide (0<c)):=by
   rw[u9,bw,o8,List.any_append];simp
  refine bH Ω ?_;refine aT (λsv aa=>Ext O aa/\sv= .bool ((h.cs.take (q+1)).any λc=>decide (0<c))) ?_ ?_
  .rintro _ aa ⟨cU,rfl⟩;rw[aM];exact cT _ _ ⟨cU,rfl⟩
  intro au aj;rw[be an.u ak.i Ψ (aS.ext Y).ls bw,b0];refine⟨λcV=>aj _ _ ⟨Y,by rw[e,cV];rfl⟩,λcW=>?_⟩;rw[bS];exact aj _ _ ⟨Y,by rw[e,cW];rfl⟩
 rintro _ C cQ ⟨Y,rfl⟩;have bz:=br.ext Y;have R:=bu.trans Y;rw[o7];refine ca Ω ?_;rw[bF,b0];have aw:=Dq hm;have cX:(h.cs.any λc=>decide (0<c))=fD (dc h):=rfl;rw[cX];refine⟨λaV=>?_,λI=>?_⟩
 .have aV:fD (dc h)=false:=by simpa using aV
  rw[aV] at aw;exact aj _ _ ⟨go,z,aq.trans R,ac.ext R,P,by rw[ad,aw];rfl,aN⟩
 have I:fD (dc h)=true:=by simpa using I
 rw[I,if_pos rfl] at aw;refine⟨λaY ao=>∃i:Nat,aY=Δ (i:Int)/\i<=z.length/\Ext C ao/\ ∀p<i,∀x,z[p]? =σ x->da x.sc<da h.sc,λaY _=>z.length-(b1 aY).toNat,⟨0,rfl,X8 _,Ext.refl _,λp aZ=>Ω⟩,?_⟩;rintro _ ao ⟨i,rfl,hi,cY,a1⟩;refine aT (λaL X=>Ext C X/\((aL= .bool true/\i<z.length/\ ∀x,z[i]? =σ x->da x.sc<da h.sc)\/(aL= .bool false/\ ∀x,z[i]? =σ x->¬da x.sc<da h.sc))) ?_ ?_
 rotate_left
 .intro du a2;intro H cZ _ _;have Z:=cY.trans cZ;have a6:=ac.ext (R.trans Z);rw[eA cj.u a6,aQ,ah];refine⟨λa1=>?_,λdv=>a2 _ _ ⟨Z,.inr ⟨rfl,λx s=>absurd (x4.1 s).1 Ω⟩⟩⟩;obtain⟨x,s⟩:=aE (l:=z) (i:=i) Ω;have bA:=P x (x5 s);have c0:jo x.sc:=(bn (dc x) (by rw[<-aD];exact l7.2 ⟨x,bA,rfl⟩)).scope;have bB:=ae.ext (R.trans Z);rw[db rfl cj.u aU.i a6 Ω,bx aU.p aU.i rfl (a6.range s),bx aU.p aU.i rfl (show H.rangeAt bq 0 (cR h) from (bz.ext Z).range)];refine (NV (bB.2.1 x bA).1 (bB.2.1 h (x5 ay)).1 c0 cH.scope).mono ?_;rintro _ bm _ ⟨rfl,bC⟩;by_cases ax:da x.sc<da h.sc
  .rw[decide_eq_true ax];exact a2 _ _ ⟨Z.trans bC,.inl ⟨rfl,Ω,λy E=>by rw[s] at E;cases E;exact ax⟩⟩
  .rw[decide_eq_false ax];exact a2 _ _ ⟨Z.trans bC,.inr ⟨rfl,λy E=>by rw[s] at E;cases E;exact ax⟩⟩
 rintro _ X ⟨bD,⟨rfl,dw,c3⟩|⟨rfl,c4⟩⟩
 .rw[bO,aM,wrap_i64 Ω Ω];refine⟨⟨i+1,rfl,Ω,bD,λp aZ x s=>?_⟩,by simp only[b1];omega⟩;by_cases c5:p=i
  .subst c5;exact c3 x s
  .exact a1 p Ω x s
 .rw[aW];intro G c6 _ _;have al:=bD.trans c6;have aA:=ac.ext (R.trans al);have c7:=ae.ext (R.trans al);have a7:∀x∈z,∀u∈cR x,u.oneCell'=true:=λx s=>(c7.2.1 x (P x s)).1.one;have c9:∀u∈cR h,u.oneCell'=true:=aO.one;rw[bx aU.p aU.i rfl (show G.rangeAt bq 0 (cR h) from (bz.ext al).range)];refine Dn (h':=z.length) cj.u aU.i aA (nr i _ rfl) kj hi (o4 _) λdx bE=>?_;refine h0 (f:=cR) (k:=3) (a:=h) cj.u aU.i Ω rfl rfl λdy dz ab dA a8 bG=>?_;refine⟨.inl a8,?_⟩;have dd:(z.drop i).take (z.length-i)=z.drop i:=o9 (by rw[List.length_drop];omega);rw[dd] at bE;refine wK (M:=z.drop i) cj.u aU.i rfl bG (bE ab (aA.ext a8)) (λ_ _=>rfl) (λa K=>a7 a (List.mem_of_mem_drop K)) Θ Θ λdC dD aH ba dE de=>?_;have bI:Ext G aH:=a8.then de λr A he=>by have:=(bG.leads he).1;omega
  refine NX (f:=cR) (k:=3) cj.u aU.i λdF dG ap dH bb aB=>?_;have bc:=bI.trans bb;refine Dn (h':=i) cj.u aU.i (aA.ext bc) ki (ns i _ rfl) (X8 _) hi λdI bJ=>?_;rw[List.drop_zero,Nat.sub_zero] at bJ;refine wK (M:=z.take i) cj.u aU.i rfl aB (bJ ap (aA.ext bc)) (λ_ _=>rfl) (λa K=>a7 a (T9 K)) Θ Θ λdf dJ aI dg dh bK=>?_;have dK:=bI.size;have dL:=bb.size;have di:=(ba.ext bb).U bK λr A I=>by have:=(ba.leads A).1;have:=(ba.leads A).2;have:=(aB.leads I).1;omega
  refine wK (M:=[h]++z.drop i) cj.u aU.i rfl dg di.sl (λ_ _=>rfl) (λa K=>?_) Θ Θ λdM dj aK dk dl dm=>?_
  .rcases l9.1 K with K|K
   .rw[n9.1 K];exact c9
   .exact a7 a (List.mem_of_mem_drop K)
  have bL:Ext G aI:=bc.then bK λr A he=>by have:=(aB.leads he).1;omega
  have bM:∀r,leadsTo df r->G.heap.size<=r:=λr A=>(dh r A).elim (λh=>by have:=(aB.leads h).1;omega) λh=>Ω
  have dn:Ext G aK:=bL.then dm λr A he=>by have:=bM r he;omega
  have dN:=(aq.trans (R.trans al)).size;have dO:=bL.size;refine aj _ _ ⟨dj,_,(aq.trans (R.trans al)).trans dn,dk,λx s=>?_,?_,λr A=>(dl r A).elim (λh=>by have:=bM r h;omega) λh=>Ω⟩
  .rcases l9.1 s with s|s
   .exact P x (T9 (by simpa using s))
   .rcases l9.1 s with s|s
    .rw[n9.1 s];exact x5 ay
    .exact P x (List.mem_of_mem_drop s)
  .rw[aw,<-ad,Dp (i:=i) (λp aZ x s=>?_) (by simpa using hi) (λx s=>?_)]
   .simp
   .rw[x8] at s;cases E:z[p]? with
    |none=>rw[E] at s;cases s
    |some y=>rw[E] at s;cases s;exact a1 p aZ y E
   .rw[x8] at s;cases E:z[i]? with
    |none=>rw[E] at s;cases s
    |some y=>rw[E] at s;cases s;exact c4 y E
end Go.Proofs.YtjjhhcfgfdepdaaGreatDoor
